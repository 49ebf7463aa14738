/- The table of locks in memory; how a transaction holds a key; for which key it waits. -/
import Derived.Test.YtiheoddlknbomaaLockRow5
set_option linter.all false
namespace Go.Proofs.Ytiheoddlknbomaa
open Go.RowKit Go.Shelf Go.Lib Go.Sort Go.Proofs
set_option linter.unusedVariables false
set_option linter.unusedSimpArgs false

structure RR where
  P : Nat
  hv : Value
  qv : Value
  r : Ro
def RR.bs (x : RR) : List Nat := rowBs x.P x.hv x.qv
theorem mem_aput {α β : Type} [DecidableEq α] {k : α} {v : β} {p : α × β} : ∀ {l : List (α × β)}, (l.map (·.1)).Nodup → p ∈ aput k v l → p = (k, v) ∨ (p ∈ l ∧ p.1 ≠ k)
  | [], _, h => by simp [aput] at h; exact .inl h
  | q :: l, hn, h => by
    simp only [List.map_cons, List.nodup_cons] at hn
    simp only [aput] at h
    by_cases hq : q.1 = k
    · rw [if_pos hq] at h
      rcases List.mem_cons.1 h with h | h
      · exact .inl h
      · exact .inr ⟨List.mem_cons_of_mem _ h, fun e => hn.1 (List.mem_map.2 ⟨p, h, e.trans hq.symm⟩)⟩
    · rw [if_neg hq] at h
      rcases List.mem_cons.1 h with h | h
      · exact .inr ⟨h ▸ List.mem_cons_self, h ▸ hq⟩
      · exact (mem_aput hn.2 h).imp_right fun h => ⟨List.mem_cons_of_mem _ h.1, h.2⟩
theorem aput_same {α β : Type} [DecidableEq α] {k : α} {v : β} : ∀ {l : List (α × β)}, aget k l = some v → aput k v l = l
  | [], h => by simp [aget] at h
  | q :: l, h => by
    simp only [aget] at h
    simp only [aput]
    by_cases hq : q.1 = k
    · rw [if_pos hq] at h ⊢
      obtain rfl := Option.some.inj h
      subst hq
      rfl
    · rw [if_neg hq] at h ⊢
      rw [aput_same h]
--@@ lock.Table
structure TabIs (w : World) (A R M : Nat) (lim : Int) (rs : List (K4 × RR)) (ws : List (Int × K4)) : Prop where
  blk : w.heap[A]? = some (.cells #[.int .i64 lim, .map (some R), .map (some M)] 54 (0, 0))
  rows : MapIs w R K4.v (rs.map fun p => (p.1, Value.pointer (some ⟨p.2.P, 0, none⟩)))
  waits : MapIs w M (Value.int .i64) (ws.map fun p => (p.1, K4.v p.2))
  each : ∀ p ∈ rs, RowIs w p.2.P p.2.hv p.2.qv p.2.r
  hd : A ≠ R ∧ A ≠ M ∧ R ≠ M
  out : ∀ p ∈ rs, A ∉ p.2.bs ∧ R ∉ p.2.bs ∧ M ∉ p.2.bs
  dis : ∀ p ∈ rs, ∀ q ∈ rs, p.1 ≠ q.1 → ∀ b ∈ p.2.bs, b ∉ q.2.bs
  kn : (rs.map (·.1)).Nodup
  wn : (ws.map (·.1)).Nodup
def tabT (lim : Int) (rs : List (K4 × RR)) (ws : List (Int × K4)) : Ta := ⟨lim, rs.map fun p => (p.1, p.2.r), ws⟩
def tabBs (A R M : Nat) (rs : List (K4 × RR)) : List Nat := A :: R :: M :: rs.flatMap fun p => p.2.bs
section
variable {w w' : World} {A R M : Nat} {lim : Int} {rs : List (K4 × RR)} {ws : List (Int × K4)} {k : K4} {rr : RR}
theorem TabIs.cells (H : TabIs w A R M lim rs ws) : w.cell? ⟨A, 0, none⟩ = some (.int .i64 lim) ∧ w.cell? ⟨A, 1, none⟩ = some (.map (some R)) ∧ w.cell? ⟨A, 2, none⟩ = some (.map (some M)) := by
  refine ⟨?_, ?_, ?_⟩ <;> simp [World.cell?, H.blk]
theorem TabIs.lt (H : TabIs w A R M lim rs ws) : ∀ b ∈ tabBs A R M rs, b < w.heap.size := fun b hb => by
  simp only [tabBs, List.mem_cons, List.mem_flatMap] at hb
  rcases hb with rfl | rfl | rfl | ⟨p, hp, hb⟩
  · exact (Array.getElem?_eq_some_iff.1 H.blk).1
  · exact H.rows.lt
  · exact H.waits.lt
  · exact (H.each p hp).lt b hb
theorem TabIs.kept {S : List Nat} (H : TabIs w A R M lim rs ws) (hk : Kept S w w') (hS : ∀ b ∈ tabBs A R M rs, b ∉ S) : TabIs w' A R M lim rs ws where
  blk := (hk.block A (H.lt A (by simp [tabBs])) (hS A (by simp [tabBs]))).trans H.blk
  rows := H.rows.kept hk (hS R (by simp [tabBs]))
  waits := H.waits.kept hk (hS M (by simp [tabBs]))
  each := fun p hp => (H.each p hp).kept hk fun b hb => hS b (by simp only [tabBs, List.mem_cons, List.mem_flatMap]; exact .inr (.inr (.inr ⟨p, hp, hb⟩)))
  hd := H.hd
  out := H.out
  dis := H.dis
  kn := H.kn
  wn := H.wn
theorem TabIs.at' (H : TabIs w A R M lim rs ws) (hk : aget k rs = some rr) : RowIs w rr.P rr.hv rr.qv rr.r := H.each (k, rr) (tget_mem hk)
/-- one row turns -/
theorem TabIs.turn (H : TabIs w A R M lim rs ws) (hk : aget k rs = some rr) {hv' qv' : Value} {r' : Ro} (hR : RowIs w' rr.P hv' qv' r') (hs : ∀ b ∈ rowBs rr.P hv' qv', b ∈ rowBs rr.P rr.hv rr.qv ∨ w.heap.size ≤ b) (hK : Kept (rowBs rr.P rr.hv rr.qv) w w') :
    TabIs w' A R M lim (aput k ⟨rr.P, hv', qv', r'⟩ rs) ws := by
  have hmem := tget_mem hk
  have hout := H.out _ hmem
  dsimp only [RR.bs] at hout
  have hlt := H.lt
  have key : ∀ p ∈ aput k (⟨rr.P, hv', qv', r'⟩ : RR) rs, p = (k, ⟨rr.P, hv', qv', r'⟩) ∨ (p ∈ rs ∧ p.1 ≠ k) := fun p hp => mem_aput H.kn hp
  have hl3 : A < w.heap.size ∧ R < w.heap.size ∧ M < w.heap.size := ⟨hlt A (by simp [tabBs]), hlt R (by simp [tabBs]), hlt M (by simp [tabBs])⟩
  have hlp : ∀ p ∈ rs, ∀ b ∈ p.2.bs, b < w.heap.size := fun p hp b hb => hlt b (by simp only [tabBs, List.mem_cons, List.mem_flatMap]; exact .inr (.inr (.inr ⟨p, hp, hb⟩)))
  refine ⟨(hK.block A hl3.1 hout.1).trans H.blk, ?_, H.waits.kept hK hout.2.2, fun p hp => ?_, H.hd, fun p hp => ?_, fun p hp q hq hpq b hb => ?_, tput_nodup _ _ _ H.kn, H.wn⟩
  · have hmap : (aput k (⟨rr.P, hv', qv', r'⟩ : RR) rs).map (fun p => (p.1, Value.pointer (some ⟨p.2.P, 0, none⟩))) = rs.map fun p => (p.1, Value.pointer (some ⟨p.2.P, 0, none⟩)) := by
      have h1 := aput_map (fun x : RR => Value.pointer (some ⟨x.P, 0, none⟩)) k ⟨rr.P, hv', qv', r'⟩ rs
      rw [← h1]
      refine aput_same ?_
      rw [aget_map (fun x : RR => Value.pointer (some ⟨x.P, 0, none⟩)), hk]
      rfl
    rw [hmap]
    exact H.rows.kept hK hout.2.1
  · rcases key p hp with rfl | ⟨h1, h2⟩
    · exact hR
    · exact (H.each p h1).kept hK fun b hb hx => H.dis p h1 (k, rr) hmem h2 b hb hx
  · rcases key p hp with rfl | ⟨h1, h2⟩
    · have hx : ∀ y, y < w.heap.size → y ∉ rowBs rr.P rr.hv rr.qv → y ∉ rowBs rr.P hv' qv' := fun y hy hn hm => by
        rcases hs y hm with h | h
        · exact hn h
        · omega
      exact ⟨hx A hl3.1 hout.1, hx R hl3.2.1 hout.2.1, hx M hl3.2.2 hout.2.2⟩
    · exact H.out p h1
  · rcases key p hp with rfl | ⟨h1, h2⟩
    · rcases key q hq with rfl | ⟨h3, h4⟩
      · exact absurd rfl hpq
      · intro hbq
        rcases hs b hb with h | h
        · exact H.dis (k, rr) hmem q h3 (fun e => h4 e.symm) b h hbq
        · have := hlp q h3 b hbq; omega
    · rcases key q hq with rfl | ⟨h3, h4⟩
      · intro hbq
        rcases hs b hbq with h | h
        · exact H.dis p h1 (k, rr) hmem h2 b hb h
        · have := hlp p h1 b hb; omega
      · exact H.dis p h1 q h3 hpq b hb
end
theorem zeroPtr : ∀ w, (zeroValue 55).run Try.prog w = .ok (.pointer none) w := fun w => by kernel_rfl
theorem zeroKey : ∀ w, (zeroValue 32).run Try.prog w = .ok (.agg #[.int .u8 0, .int .u8 0, .int .u8 0, .int .u8 0]) w := fun w => by kernel_rfl
def rrP (o : Option RR) : Value := match o with | none => .pointer none | some x => .pointer (some ⟨x.P, 0, none⟩)
theorem TabIs.look {w : World} {A R M : Nat} {lim : Int} {rs : List (K4 × RR)} {ws : List (Int × K4)} (H : TabIs w A R M lim rs ws) (k : K4) :
    (Instr.lookup 51 (.map (some R)) k.v true).run Try.prog w = .ok (.tuple #[rrP (aget k rs), .bool (aget k rs).isSome]) w := by
  have := H.rows.run_lookup keyK Try.underlying51 (zeroPtr w) k true
  rw [aget_map (fun x : RR => Value.pointer (some ⟨x.P, 0, none⟩))] at this
  rw [this]
  cases aget k rs <;> rfl
def keyO (o : Option K4) : K4 := o.getD ⟨0, 0, 0, 0⟩
theorem TabIs.lookw {w : World} {A R M : Nat} {lim : Int} {rs : List (K4 × RR)} {ws : List (Int × K4)} (H : TabIs w A R M lim rs ws) (tx : Int) :
    (Instr.lookup 52 (.map (some M)) (.int .i64 tx) true).run Try.prog w = .ok (.tuple #[K4.v (keyO (aget tx ws)), .bool (aget tx ws).isSome]) w := by
  have := H.waits.run_lookup (KeyOK.int (k := .i64) Try.underlying3) Try.underlying52 (zeroKey w) tx true
  rw [aget_map K4.v] at this
  rw [this]
  cases aget tx ws <;> rfl
--@@ end
end Go.Proofs.Ytiheoddlknbomaa
