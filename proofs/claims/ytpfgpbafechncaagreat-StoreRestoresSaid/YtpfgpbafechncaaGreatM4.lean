/- A wish waits. -/
import Derived.Test.YtpfgpbafechncaaGreatLockIns
import Derived.Deep.DeepCutAuto
import Derived.Deep.CutBlock
import Derived.Test.YtpfgpbafechncaaGreatLay
import Derived.Laws.AppendOwnNone
set_option linter.all false
namespace Go.Proofs.YtpfgpbafechncaaGreat
open Go.RowKit Go.Shelf Go.Lib Go.Sort Go.Proofs
theorem waitAt_le (q : List Wi) (w : Wi) : waitAt q w ≤ q.length := by
  unfold waitAt
  split
  · cases h : q.findIdx? fun x => !x.ri with
    | none => simp
    | some i =>
      rw [List.findIdx?_eq_some_iff_getElem] at h
      obtain ⟨hi, _⟩ := h
      simp; omega
  · exact Nat.le_refl _
theorem wrow_slice {T : TypeId} {w : World} {v : Value} {l : List Wi} (h : WRow T w v l) : ∃ a c, v = .slice a l.length c := by
  rcases h with ⟨h1, h2⟩ | ⟨g, off, cap, sz, h1, _⟩
  · exact ⟨none, 0, by rw [h1, h2]; rfl⟩
  · exact ⟨_, _, h1⟩
--@@ (*lock.row).wait
theorem wait_end {w w1 w2 : World} {P : Nat} {hv qv qv' : Value} {r : Ro} {q' : List Wi} (HR : RowIs w1 P hv qv r) (hK1 : Kept [] w w1) (hq5 : WRow 129 w2 qv' q') (hk2 : Kept qv.ownBlock.toList w1 w2)
    (hb2 : w2.heap[P]? = some (.cells #[hv, qv] 133 (0, 0))) (hs5 : ∀ b ∈ qv'.ownBlock.toList, b ∈ qv.ownBlock.toList ∨ w1.heap.size ≤ b) :
    (Ending.returned (.tuple #[]) : Ending) = .returned (.tuple #[]) ∧ ∃ qv'', RowIs (w2.setCell ⟨P, 1, none⟩ qv') P hv qv'' ⟨r.h, q'⟩ ∧ (∀ b ∈ rowBs P hv qv'', b ∈ rowBs P hv qv ∨ w.heap.size ≤ b) ∧ Kept (P :: qv.ownBlock.toList) w (w2.setCell ⟨P, 1, none⟩ qv') := by
  have hs := hK1.size
  have hlt := HR.lt
  have hnd := HR.nd
  have hPw := hlt P (by simp [rowBs])
  simp only [rowBs, List.nodup_cons, List.mem_append, not_or, List.nodup_append] at hnd
  have hqP : P ∉ qv'.ownBlock.toList := fun h => by
    rcases hs5 P h with h | h
    · exact hnd.1.2 h
    · omega
  have hhq : ∀ a ∈ hv.ownBlock.toList, a ∉ qv'.ownBlock.toList := fun a ha hb => by
    rcases hs5 a hb with h | h
    · exact hnd.2.2.2 a ha a h rfl
    · have := hlt a (by simp only [rowBs, List.mem_cons, List.mem_append]; exact .inr (.inl ha)); omega
  refine ⟨rfl, qv', ⟨setq hb2 _, ?_, ?_, ?_⟩, ?_, ?_⟩
  · refine own_kept (own_kept HR.h hk2 (fun y hy hx => hnd.2.2.2 y (by simpa using hy) y hx rfl)) ((Kept.refl [P] w2).setCell (p := ⟨P, 1, none⟩) (.inl (by simp)) qv') (fun y hy hx => ?_)
    simp at hx
    subst hx
    exact hnd.1.1 (by simpa using hy)
  · refine hq5.kept ((Kept.refl [P] w2).setCell (p := ⟨P, 1, none⟩) (.inl (by simp)) qv') (fun y hy hx => ?_)
    simp at hx
    subst hx
    exact hqP (by simpa using hy)
  · simp only [rowBs, List.nodup_cons, List.mem_append, not_or, List.nodup_append]
    exact ⟨⟨hnd.1.1, hqP⟩, hnd.2.1, by cases qv'.ownBlock <;> simp, fun a ha b hb e => hhq a ha (e ▸ hb)⟩
  · intro b hb
    simp only [rowBs, List.mem_cons, List.mem_append] at hb ⊢
    rcases hb with rfl | hb | hb
    · exact .inl (.inl rfl)
    · exact .inl (.inr (.inl hb))
    · rcases hs5 b hb with h | h
      · exact .inl (.inr (.inr h))
      · exact .inr (by omega)
  · exact Kept.setCell ((hK1.mono (T := P :: qv.ownBlock.toList) (fun x hx => by cases hx)).trans hk2 (fun y hy => .inl (List.mem_cons_of_mem _ hy))) (.inl (by simp)) _
theorem waitF {W : World} (x : Wi) :
    Calls Tryz.prog 100 (#[.agg x.f.toArray] ++ #[]) W fun e w' => e = .returned (.bool (!x.ri)) ∧ ∃ q os, w' = grow (W.drewN q) os := by
  obtain ⟨x1, x2, x3, x4⟩ := x
  simp only [Wi.f]
  go_enter Tryz.func100, Tryz.ntmps100
  go_wp2
  go_ret
  exact ⟨rfl, 0, #[.cells #[.int .i64 x1, .bool x2, .int .i64 x3, .bool x4] 129], by rw [← alloc_eq_grow]; rfl⟩
theorem waitE : ∀ args w, (callFunc 100 args).run Tryz.prog w = .ok (.enter 100 args) w := enters_of Tryz.func100 (by kernel_rfl) rfl
set_option maxHeartbeats 4000000 in
set_option maxRecDepth 100000 in
theorem wait_any (P : Nat) (hv qv : Value) (r : Ro) (x : Wi) (w : World) (H : RowIs w P hv qv r) (hl : r.q.length < 100000000) :
    Calls Tryz.prog 72 #[.pointer (some ⟨P, 0, none⟩), x.v] w fun e w' => e = .returned (.tuple #[]) ∧ ∃ qv', RowIs w' P hv qv' ⟨r.h, waitR r.q x⟩ ∧ (∀ b ∈ rowBs P hv qv', b ∈ rowBs P hv qv ∨ w.heap.size ≤ b) ∧ Kept (P :: qv.ownBlock.toList) w w' := by
  have hP := H.lt P (by simp [rowBs])
  have hne : w.heap.size ≠ P := by omega
  have HLT := hid H.lt
  have H1 := hid (H.kept ((Kept.refl [] w).alloc (.cells x.f.toArray 129)) (fun _ _ => by simp))
  have HI := hid (fun W (hk : Kept [] (w.alloc (.cells x.f.toArray 129)) W) => windex_any qv r.q W ((H1.out.kept hk (fun _ _ => by simp)).q) 100 #[] (fun y => !y.ri) waitE (fun _ _ y => waitF y) (by omega))
  have HX := hid (fun W (hk : Kept [] (w.alloc (.cells x.f.toArray 129)) W) j u h => hk.cell (new_cell w x.f 129 j u h) (by simp))
  have hat : waitAt r.q x = if x.ri = true then (r.q.findIdx? fun y => !y.ri).getD r.q.length else r.q.length := rfl
  have hid' : idxI (fun y => !y.ri) r.q = match r.q.findIdx? (fun y => !y.ri) with | none => -1 | some i => (i : Int) := rfl
  have HWL := hid (waitAt_le r.q x)
  obtain ⟨at', hat'⟩ : ∃ m, m = waitAt r.q x := ⟨_, rfl⟩
  have HWR := hid (show waitR r.q x = r.q.take at' ++ x :: r.q.drop at' by rw [hat']; rfl)
  rw [← hat'] at hat HWL
  rw [HWR.out]
  clear hat'
  obtain ⟨qa, qc, hqv⟩ : ∃ qa qc, qv = .slice qa r.q.length qc := by
    rcases H.q with ⟨h1, h2⟩ | ⟨g, off, cap, sz, h1, _⟩
    · exact ⟨none, 0, by rw [h1, h2]; rfl⟩
    · exact ⟨_, _, h1⟩
  subst hqv
  obtain ⟨c0, c1, f0, f1⟩ := H1.out.c0
  have hx0 := HX.out _ (Kept.refl [] _)
  obtain ⟨x1, x2, x3, x4⟩ := x
  simp only [Wi.v]
  dsimp only at hat
  simp only [Wi.f] at HI HX hx0 H1 c0 c1 f0 f1
  obtain ⟨w0, hw0⟩ : ∃ w0, w0 = w.alloc (.cells #[.int .i64 x1, .bool x2, .int .i64 x3, .bool x4] 129) := ⟨_, rfl⟩
  have HK0 := hid (show Kept [] w w0 by rw [hw0]; exact (Kept.refl [] w).alloc _)
  have HS0 := hid (show w0.heap.size = w.heap.size + 1 by rw [hw0]; simp)
  go_enter Tryz.func72, Tryz.ntmps72
  go_upto_if 11 with (fail)
  change Code.wp _ _ _ _ (w.alloc (.cells #[.int .i64 x1, .bool x2, .int .i64 x3, .bool x4] 129))
  rw [← hw0] at HI HX hx0 H1 c0 c1 f0 f1 ⊢
  clear hw0 H
  go_cut [4] (fun s4 wx => s4 = .int .i64 at' ∧ Aside (Kept [] w0 wx))
  case first =>
    cases x4 with
    | false =>
      rw [if_neg (by simp)] at hat
      subst hat
      go_wp2_with fail
      go_meet
      exact ⟨rfl, Kept.refl _ _⟩
    | true =>
      rw [if_pos rfl] at hat
      cases hf : r.q.findIdx? (fun y => !y.ri) with
      | none =>
        rw [hf] at hat hid'
        simp only [Option.getD_none] at hat
        subst hat
        dsimp only at hid'
        rw [hid'] at HI
        clear hid' hf
        go_wp2_with (first
          | (go_at_call 99; refine (HI.out _ (Kept.refl [] w0)).mono ?_; clear HI; rintro e w2 ⟨rfl, hk2⟩; have HR2 := hid (H1.out.kept hk2 (fun _ _ => by simp)); clear c0 c1 f0 f1; obtain ⟨c0, c1, f0, f1⟩ := HR2.out.c0; have HK2 := hid hk2; clear hk2))
        go_meet
        exact ⟨rfl, HK2.out⟩
      | some i =>
        rw [hf] at hat hid'
        simp only [Option.getD_some] at hat
        subst hat
        dsimp only at hid'
        rw [hid'] at HI
        clear hid' hf
        go_wp2_with (first
          | (go_at_call 99; refine (HI.out _ (Kept.refl [] w0)).mono ?_; clear HI; rintro e w2 ⟨rfl, hk2⟩; have HK2 := hid hk2; clear hk2))
        go_meet
        exact ⟨rfl, HK2.out⟩
  case rest =>
  obtain ⟨rfl, HKX⟩ := hcut
  clear HI c0 c1 f0 f1 hx0 hat hid'
  rename World => wx
  have HR := hid (H1.out.kept HKX.out (fun _ _ => by simp))
  obtain ⟨c0, c1, f0, f1⟩ := HR.out.c0
  have z0 := HX.out wx HKX.out 0 _ rfl
  have z1 := HX.out wx HKX.out 1 _ rfl
  have z2 := HX.out wx HKX.out 2 _ rfl
  have z3 := HX.out wx HKX.out 3 _ rfl
  have hxs := HKX.out.size
  have hs0 := HS0.out
  have hPw : P < wx.heap.size := by omega
  have hwx : w.heap.size < wx.heap.size := by omega
  have HPn := hid (show P ∉ (Value.slice qa r.q.length qc).ownBlock.toList from fun hx => by
    have := HR.out.nd
    simp only [rowBs, List.nodup_cons, List.mem_append] at this
    exact this.1 (.inr hx))
  have HINS := hid (wins_any (.slice qa r.q.length qc) r.q ⟨x1, x2, x3, x4⟩ wx.heap.size at' (wx.drew.alloc (.cells (Wi.f ⟨x1, x2, x3, x4⟩).toArray 129)) (HR.out.q.kept (((Kept.refl [] wx).drew).alloc _) (fun _ _ => by simp)) (heap_alloc_new wx.drew _) (fun hx => by have := HR.out.q.lt (by simpa using hx); omega) hl HWL.out)
  simp only [Wi.f] at HINS
  go_wp2_with fail
  go_region_law ((go_simp; go_at_call 101; refine HINS.out.mono ?_; rintro e w5 ⟨qv', rfl, hq5, hs5, hk5⟩; obtain ⟨qa', qc', hqq⟩ := wrow_slice hq5; subst hqq; have hk5' := Kept.trans (((Kept.refl (Value.slice qa r.q.length qc).ownBlock.toList wx).drew).alloc (.cells #[.int .i64 x1, .bool x2, .int .i64 x3, .bool x4] 129)) hk5 (fun x hx => .inl hx); have hb5 := (hk5'.block P hPw HPn.out).trans HR.out.blk; obtain ⟨c0', c1', f0', f1'⟩ := two_cells hb5))
  all_goals go_returns
  all_goals
    rw [show (r.q.take at' ++ (⟨x1, x2, x3, x4⟩ : Wi) :: r.q.drop at').length = min at' r.q.length + (r.q.length - at' + 1) by simp] at hq5
    exact wait_end HR.out (HK0.out.trans HKX.out (fun x hx => by cases hx)) hq5 hk5' hb5 (fun b hb => (hs5 b (by simpa [Value.ownBlock] using hb)).imp_right (fun h => by simp at h; omega))
--@@ end
structure RR where
  P : Nat
  hv : Value
  qv : Value
  r : Ro
def RR.bs (x : RR) : List Nat := rowBs x.P x.hv x.qv
theorem mem_aput {α β : Type} [DecidableEq α] {k : α} {v : β} {p : α × β} : ∀ {l : List (α × β)}, (l.map (·.1)).Nodup → p ∈ aput k v l → p = (k, v) ∨ (p ∈ l ∧ p.1 ≠ k)
  | [], _, h => by simp [aput] at h; exact .inl h
  | q :: l, hn, h => by
    simp only [List.map_cons, List.nodup_cons] at hn
    simp only [aput] at h
    by_cases hq : q.1 = k
    · rw [if_pos hq] at h
      rcases List.mem_cons.1 h with h | h
      · exact .inl h
      · exact .inr ⟨List.mem_cons_of_mem _ h, fun e => hn.1 (List.mem_map.2 ⟨p, h, e.trans hq.symm⟩)⟩
    · rw [if_neg hq] at h
      rcases List.mem_cons.1 h with h | h
      · exact .inr ⟨h ▸ List.mem_cons_self, h ▸ hq⟩
      · exact (mem_aput hn.2 h).imp_right fun h => ⟨List.mem_cons_of_mem _ h.1, h.2⟩
theorem aput_same {α β : Type} [DecidableEq α] {k : α} {v : β} : ∀ {l : List (α × β)}, aget k l = some v → aput k v l = l
  | [], h => by simp [aget] at h
  | q :: l, h => by
    simp only [aget] at h
    simp only [aput]
    by_cases hq : q.1 = k
    · rw [if_pos hq] at h ⊢
      obtain rfl := Option.some.inj h
      subst hq
      rfl
    · rw [if_neg hq] at h ⊢
      rw [aput_same h]
--@@ lock.Table
structure TabIs (w : World) (A R M : Nat) (lim : Int) (rs : List (K4 × RR)) (ws : List (Int × K4)) : Prop where
  blk : w.heap[A]? = some (.cells #[.int .i64 lim, .map (some R), .map (some M)] 115 (0, 0))
  rows : MapIs w R K4.v (rs.map fun p => (p.1, Value.pointer (some ⟨p.2.P, 0, none⟩)))
  waits : MapIs w M (Value.int .i64) (ws.map fun p => (p.1, K4.v p.2))
  each : ∀ p ∈ rs, RowIs w p.2.P p.2.hv p.2.qv p.2.r
  hd : A ≠ R ∧ A ≠ M ∧ R ≠ M
  out : ∀ p ∈ rs, A ∉ p.2.bs ∧ R ∉ p.2.bs ∧ M ∉ p.2.bs
  dis : ∀ p ∈ rs, ∀ q ∈ rs, p.1 ≠ q.1 → ∀ b ∈ p.2.bs, b ∉ q.2.bs
  kn : (rs.map (·.1)).Nodup
  wn : (ws.map (·.1)).Nodup
def tabT (lim : Int) (rs : List (K4 × RR)) (ws : List (Int × K4)) : Ta := ⟨lim, rs.map fun p => (p.1, p.2.r), ws⟩
def tabBs (A R M : Nat) (rs : List (K4 × RR)) : List Nat := A :: R :: M :: rs.flatMap fun p => p.2.bs
section
variable {w w' : World} {A R M : Nat} {lim : Int} {rs : List (K4 × RR)} {ws : List (Int × K4)} {k : K4} {rr : RR}
theorem TabIs.cells (H : TabIs w A R M lim rs ws) : w.cell? ⟨A, 0, none⟩ = some (.int .i64 lim) ∧ w.cell? ⟨A, 1, none⟩ = some (.map (some R)) ∧ w.cell? ⟨A, 2, none⟩ = some (.map (some M)) := by
  refine ⟨?_, ?_, ?_⟩ <;> simp [World.cell?, H.blk]
theorem TabIs.lt (H : TabIs w A R M lim rs ws) : ∀ b ∈ tabBs A R M rs, b < w.heap.size := fun b hb => by
  simp only [tabBs, List.mem_cons, List.mem_flatMap] at hb
  rcases hb with rfl | rfl | rfl | ⟨p, hp, hb⟩
  · exact (Array.getElem?_eq_some_iff.1 H.blk).1
  · exact H.rows.lt
  · exact H.waits.lt
  · exact (H.each p hp).lt b hb
theorem TabIs.kept {S : List Nat} (H : TabIs w A R M lim rs ws) (hk : Kept S w w') (hS : ∀ b ∈ tabBs A R M rs, b ∉ S) : TabIs w' A R M lim rs ws where
  blk := (hk.block A (H.lt A (by simp [tabBs])) (hS A (by simp [tabBs]))).trans H.blk
  rows := H.rows.kept hk (hS R (by simp [tabBs]))
  waits := H.waits.kept hk (hS M (by simp [tabBs]))
  each := fun p hp => (H.each p hp).kept hk fun b hb => hS b (by simp only [tabBs, List.mem_cons, List.mem_flatMap]; exact .inr (.inr (.inr ⟨p, hp, hb⟩)))
  hd := H.hd
  out := H.out
  dis := H.dis
  kn := H.kn
  wn := H.wn
theorem TabIs.at' (H : TabIs w A R M lim rs ws) (hk : aget k rs = some rr) : RowIs w rr.P rr.hv rr.qv rr.r := H.each (k, rr) (tget_mem hk)
theorem TabIs.turn (H : TabIs w A R M lim rs ws) (hk : aget k rs = some rr) {hv' qv' : Value} {r' : Ro} (hR : RowIs w' rr.P hv' qv' r') (hs : ∀ b ∈ rowBs rr.P hv' qv', b ∈ rowBs rr.P rr.hv rr.qv ∨ w.heap.size ≤ b) (hK : Kept (rowBs rr.P rr.hv rr.qv) w w') :
    TabIs w' A R M lim (aput k ⟨rr.P, hv', qv', r'⟩ rs) ws := by
  have hmem := tget_mem hk
  have hout := H.out _ hmem
  dsimp only [RR.bs] at hout
  have hlt := H.lt
  have key : ∀ p ∈ aput k (⟨rr.P, hv', qv', r'⟩ : RR) rs, p = (k, ⟨rr.P, hv', qv', r'⟩) ∨ (p ∈ rs ∧ p.1 ≠ k) := fun p hp => mem_aput H.kn hp
  have hl3 : A < w.heap.size ∧ R < w.heap.size ∧ M < w.heap.size := ⟨hlt A (by simp [tabBs]), hlt R (by simp [tabBs]), hlt M (by simp [tabBs])⟩
  have hlp : ∀ p ∈ rs, ∀ b ∈ p.2.bs, b < w.heap.size := fun p hp b hb => hlt b (by simp only [tabBs, List.mem_cons, List.mem_flatMap]; exact .inr (.inr (.inr ⟨p, hp, hb⟩)))
  refine ⟨(hK.block A hl3.1 hout.1).trans H.blk, ?_, H.waits.kept hK hout.2.2, fun p hp => ?_, H.hd, fun p hp => ?_, fun p hp q hq hpq b hb => ?_, tput_nodup _ _ _ H.kn, H.wn⟩
  · have hmap : (aput k (⟨rr.P, hv', qv', r'⟩ : RR) rs).map (fun p => (p.1, Value.pointer (some ⟨p.2.P, 0, none⟩))) = rs.map fun p => (p.1, Value.pointer (some ⟨p.2.P, 0, none⟩)) := by
      have h1 := aput_map (fun x : RR => Value.pointer (some ⟨x.P, 0, none⟩)) k ⟨rr.P, hv', qv', r'⟩ rs
      rw [← h1]
      refine aput_same ?_
      rw [aget_map (fun x : RR => Value.pointer (some ⟨x.P, 0, none⟩)), hk]
      rfl
    rw [hmap]
    exact H.rows.kept hK hout.2.1
  · rcases key p hp with rfl | ⟨h1, h2⟩
    · exact hR
    · exact (H.each p h1).kept hK fun b hb hx => H.dis p h1 (k, rr) hmem h2 b hb hx
  · rcases key p hp with rfl | ⟨h1, h2⟩
    · have hx : ∀ y, y < w.heap.size → y ∉ rowBs rr.P rr.hv rr.qv → y ∉ rowBs rr.P hv' qv' := fun y hy hn hm => by
        rcases hs y hm with h | h
        · exact hn h
        · omega
      exact ⟨hx A hl3.1 hout.1, hx R hl3.2.1 hout.2.1, hx M hl3.2.2 hout.2.2⟩
    · exact H.out p h1
  · rcases key p hp with rfl | ⟨h1, h2⟩
    · rcases key q hq with rfl | ⟨h3, h4⟩
      · exact absurd rfl hpq
      · intro hbq
        rcases hs b hb with h | h
        · exact H.dis (k, rr) hmem q h3 (fun e => h4 e.symm) b h hbq
        · have := hlp q h3 b hbq; omega
    · rcases key q hq with rfl | ⟨h3, h4⟩
      · intro hbq
        rcases hs b hbq with h | h
        · exact H.dis p h1 (k, rr) hmem h2 b hb h
        · have := hlp p h1 b hb; omega
      · exact H.dis p h1 q h3 hpq b hb
end
theorem zeroPtr : ∀ w, (zeroValue 126).run Tryz.prog w = .ok (.pointer none) w := fun w => by kernel_rfl
theorem zeroKey : ∀ w, (zeroValue 33).run Tryz.prog w = .ok (.agg #[.int .u8 0, .int .u8 0, .int .u8 0, .int .u8 0]) w := fun w => by kernel_rfl
def rrP (o : Option RR) : Value := match o with | none => .pointer none | some x => .pointer (some ⟨x.P, 0, none⟩)
theorem TabIs.look {w : World} {A R M : Nat} {lim : Int} {rs : List (K4 × RR)} {ws : List (Int × K4)} (H : TabIs w A R M lim rs ws) (k : K4) :
    (Instr.lookup 112 (.map (some R)) k.v true).run Tryz.prog w = .ok (.tuple #[rrP (aget k rs), .bool (aget k rs).isSome]) w := by
  have := H.rows.run_lookup keyK Tryz.underlying112 (zeroPtr w) k true
  rw [aget_map (fun x : RR => Value.pointer (some ⟨x.P, 0, none⟩))] at this
  rw [this]
  cases aget k rs <;> rfl
def keyO (o : Option K4) : K4 := o.getD ⟨0, 0, 0, 0⟩
theorem TabIs.lookw {w : World} {A R M : Nat} {lim : Int} {rs : List (K4 × RR)} {ws : List (Int × K4)} (H : TabIs w A R M lim rs ws) (tx : Int) :
    (Instr.lookup 113 (.map (some M)) (.int .i64 tx) true).run Tryz.prog w = .ok (.tuple #[K4.v (keyO (aget tx ws)), .bool (aget tx ws).isSome]) w := by
  have := H.waits.run_lookup (KeyOK.int (k := .i64) Tryz.underlying3) Tryz.underlying113 (zeroKey w) tx true
  rw [aget_map K4.v] at this
  rw [this]
  cases aget tx ws <;> rfl
--@@ end
def howO (o : Option RR) (tx : Int) : Int := match o with | none => 0 | some x => how x.r.h tx
theorem howO_tab (lim : Int) (rs : List (K4 × RR)) (ws : List (Int × K4)) (tx : Int) (k : K4) : (tabT lim rs ws).holds tx k = howO (aget k rs) tx := by
  unfold Ta.holds tabT howO
  dsimp only
  rw [aget_map (fun x : RR => x.r)]
  cases aget k rs with
  | none => rfl
  | some x => exact (how_heldAt x.r.h tx).symm
--@@ (*lock.Table).Holds
set_option maxHeartbeats 4000000 in
set_option maxRecDepth 100000 in
theorem holds_any (A R M : Nat) (lim : Int) (rs : List (K4 × RR)) (ws : List (Int × K4)) (tx : Int) (k : K4) (w : World) (H : TabIs w A R M lim rs ws) (hl : ∀ p ∈ rs, p.2.r.h.length < 100000000) :
    Calls Tryz.prog 68 #[.pointer (some ⟨A, 0, none⟩), .int .i64 tx, k.v] w fun e w' => e = .returned (.int .i64 (howO (aget k rs) tx)) ∧ Kept [] w w' := by
  obtain ⟨a0, a1, a2⟩ := H.cells
  have hA := H.lt A (by simp [tabBs])
  have hne : w.heap.size ≠ A := by omega
  have H1 := hid (H.kept ((Kept.refl [] w).alloc (.cells k.f.toArray 33)) (fun _ _ => by simp))
  have hL : ∀ n, (Instr.lookup 112 (.map (some R)) k.v true).run Tryz.prog ((w.alloc (.cells k.f.toArray 33)).drewN n) = .ok (.tuple #[rrP (aget k rs), .bool (aget k rs).isSome]) ((w.alloc (.cells k.f.toArray 33)).drewN n) := fun n =>
    (H1.out.kept ((Kept.refl [] _).drewN n) (fun _ _ => by simp)).look k
  have HW := hid ((Kept.refl [] w).alloc (.cells k.f.toArray 33))
  cases hk : aget k rs with
  | none =>
    rw [hk] at hL
    simp only [rrP, Option.isSome_none] at hL
    clear hk H
    obtain ⟨k1, k2, k3, k4⟩ := k
    simp only [K4.v, K4.f] at *
    go_enter Tryz.func68, Tryz.ntmps68
    go_wp2_with fail
    go_quiet (fail)
    go_wp2
    go_ret
    exact ⟨rfl, HW.out.drewN _⟩
  | some rr =>
    rw [hk] at hL
    simp only [rrP, Option.isSome_some] at hL
    have hln := hl _ (tget_mem hk)
    dsimp only at hln
    have HR := hid (fun W (hK : Kept [] (w.alloc (.cells k.f.toArray 33)) W) => (H1.out.at' hk).kept hK (fun _ _ => by simp))
    have HH := hid (fun W (hK : Kept [] (w.alloc (.cells k.f.toArray 33)) W) => held_any rr.P rr.hv rr.qv rr.r tx W (HR.out W hK) (by omega))
    have hwh : howO (some rr) tx = match heldAt rr.r.h tx with | none => 0 | some i => if (rr.r.h[i]!).ex = true then 2 else 1 := how_heldAt rr.r.h tx
    have hhi : heldI rr.r.h tx = match heldAt rr.r.h tx with | none => -1 | some i => (i : Int) := rfl
    clear hk H
    obtain ⟨k1, k2, k3, k4⟩ := k
    simp only [K4.v, K4.f] at *
    cases hh : heldAt rr.r.h tx with
    | none =>
      rw [hh] at hwh hhi
      dsimp only at hwh hhi
      rw [hhi] at HH
      rw [hwh]
      clear hwh hhi hh
      go_enter Tryz.func68, Tryz.ntmps68
      go_wp2_with fail
      go_quiet (fail)
      go_wp2_with (first
        | (go_at_call 80; refine (HH.out _ ((Kept.refl [] _).drewN _)).mono ?_; clear HH; rintro e w2 ⟨rfl, hk2⟩; have HK2 := hid ((HW.out.drewN _).trans hk2 (fun x hx => by cases hx)); clear hk2))
      go_returns
      exact ⟨rfl, HK2.out⟩
    | some i =>
      rw [hh] at hwh hhi
      dsimp only at hwh hhi
      rw [hhi] at HH
      rw [hwh]
      obtain ⟨hi, _, _⟩ := heldAt_some hh
      clear hwh hhi hh
      rw [getElem!_pos rr.r.h i hi]
      have hiz : (i : Int) < (rr.r.h.length : Int) := by omega
      have HC := hid (show ∀ W, Kept [] (w.alloc (.cells #[.int .u8 (k1.toNat : Int), .int .u8 (k2.toNat : Int), .int .u8 (k3.toNat : Int), .int .u8 (k4.toNat : Int)] 33)) W → ∃ g cap, rr.hv = .slice (some ⟨g, 0, none⟩) rr.r.h.length cap ∧ W.cell? ⟨rr.P, 0, none⟩ = some rr.hv ∧ W.cell? ⟨g, 0 + i * 4 + 1, none⟩ = some (.bool rr.r.h[i].ex) from fun W hK => by
        have hr := (HR.out W hK)
        rcases hr.h.2 with ⟨_, hn⟩ | ⟨g, cap, cur, hv, _⟩
        · omega
        · exact ⟨g, cap, hv, hr.c0.1, (wish_cells (fun j u hj => by have h1 := hr.h; rw [hv] at h1; have := h1.cells (g := g) rfl j u hj; rw [Addr.add_lit] at this; exact this) hi).2.1⟩)
      generalize rr.r.h[i].ex = ex at HC ⊢
      cases ex with
      | false =>
        go_enter Tryz.func68, Tryz.ntmps68
        go_wp2_with fail
        go_quiet (fail)
        go_wp2_with (first
          | (go_at_call 80; refine (HH.out _ ((Kept.refl [] _).drewN _)).mono ?_; clear HH; rintro e w2 ⟨rfl, hk2⟩; obtain ⟨g, cap, e1, e2, e3⟩ := HC.out w2 (((Kept.refl [] _).drewN _).trans hk2 (fun x hx => by cases hx)); rw [e1] at e2; simp only [Nat.zero_add] at e3; clear e1; have HK2 := hid ((HW.out.drewN _).trans hk2 (fun x hx => by cases hx)); clear hk2))
        go_returns
        exact ⟨rfl, HK2.out⟩
      | true =>
        go_enter Tryz.func68, Tryz.ntmps68
        go_wp2_with fail
        go_quiet (fail)
        go_wp2_with (first
          | (go_at_call 80; refine (HH.out _ ((Kept.refl [] _).drewN _)).mono ?_; clear HH; rintro e w2 ⟨rfl, hk2⟩; obtain ⟨g, cap, e1, e2, e3⟩ := HC.out w2 (((Kept.refl [] _).drewN _).trans hk2 (fun x hx => by cases hx)); rw [e1] at e2; simp only [Nat.zero_add] at e3; clear e1; have HK2 := hid ((HW.out.drewN _).trans hk2 (fun x hx => by cases hx)); clear hk2))
        go_returns
        exact ⟨rfl, HK2.out⟩
--@@ (*lock.Table).Waits
set_option maxHeartbeats 4000000 in
set_option maxRecDepth 100000 in
theorem waits_any (A R M : Nat) (lim : Int) (rs : List (K4 × RR)) (ws : List (Int × K4)) (tx : Int) (w : World) (H : TabIs w A R M lim rs ws) :
    Calls Tryz.prog 47 #[.pointer (some ⟨A, 0, none⟩), .int .i64 tx] w fun e w' => e = .returned (.tuple #[(keyO (aget tx ws)).v, .bool (aget tx ws).isSome]) ∧ Kept [] w w' := by
  obtain ⟨a0, a1, a2⟩ := H.cells
  have hA := H.lt A (by simp [tabBs])
  have hne : w.heap.size ≠ A := by omega
  have hL := (H.kept ((Kept.refl [] w).alloc (.cells #[.int .u8 0, .int .u8 0, .int .u8 0, .int .u8 0] 33)) (fun _ _ => by simp)).lookw tx
  clear H
  generalize (aget tx ws).isSome = ok at hL ⊢
  generalize keyO (aget tx ws) = k at hL ⊢
  obtain ⟨k1, k2, k3, k4⟩ := k
  simp only [K4.v] at *
  go_enter Tryz.func47, Tryz.ntmps47
  go_wp2_with fail
  have HKE := hid (((Kept.refl [] w).alloc (.cells #[.int .u8 (k1.toNat : Int), .int .u8 (k2.toNat : Int), .int .u8 (k3.toNat : Int), .int .u8 (k4.toNat : Int)] 33)).alloc (.cells #[.int .u8 (k1.toNat : Int), .int .u8 (k2.toNat : Int), .int .u8 (k3.toNat : Int), .int .u8 (k4.toNat : Int)] 33))
  have nc := fun j u h => ((Kept.refl [] _).alloc (.cells #[.int .u8 (k1.toNat : Int), .int .u8 (k2.toNat : Int), .int .u8 (k3.toNat : Int), .int .u8 (k4.toNat : Int)] 33)).cell (new_cell w [.int .u8 (k1.toNat : Int), .int .u8 (k2.toNat : Int), .int .u8 (k3.toNat : Int), .int .u8 (k4.toNat : Int)] 33 j u h) (by simp)
  have g0 := nc 0 _ rfl
  have g1 := nc 1 _ rfl
  have g2 := nc 2 _ rfl
  have g3 := nc 3 _ rfl
  clear nc
  generalize (w.alloc (.cells [.int .u8 (k1.toNat : Int), .int .u8 (k2.toNat : Int), .int .u8 (k3.toNat : Int), .int .u8 (k4.toNat : Int)].toArray 33)).alloc (.cells #[.int .u8 (k1.toNat : Int), .int .u8 (k2.toNat : Int), .int .u8 (k3.toNat : Int), .int .u8 (k4.toNat : Int)] 33) = W3 at g0 g1 g2 g3 HKE ⊢
  refine bodyPost_ret (by simp [results, Tryz.results47, go_sem, g0, g1, g2, g3]; rfl) rfl ?_
  exact ⟨rfl, HKE.out⟩
--@@ end
theorem tab_need (lim : Int) (rs : List (K4 × RR)) (ws : List (Int × K4)) (k : K4) : (tabT lim rs ws).need k = if (aget k rs).isSome = true then tabT lim rs ws else ⟨lim, (rs.map fun p => (p.1, p.2.r)) ++ [(k, ⟨[], []⟩)], ws⟩ := by
  unfold Ta.need tabT
  dsimp only
  rw [aget_map (fun x : RR => x.r)]
  cases aget k rs <;> rfl
--@@ (*lock.Table).row
theorem TabIs.push {W w' : World} {A R M : Nat} {lim : Int} {rs : List (K4 × RR)} {ws : List (Int × K4)} {k : K4} {P : Nat} (H : TabIs W A R M lim rs ws) (hk : aget k rs = none)
    (hP : W.heap[P]? = some (.cells #[.slice none 0 0, .slice none 0 0] 133 (0, 0))) (hPn : P ∉ tabBs A R M rs) (hM : MapIs w' R K4.v (aput k (.pointer (some ⟨P, 0, none⟩)) (rs.map fun p => (p.1, Value.pointer (some ⟨p.2.P, 0, none⟩))))) (hK : Kept [R] W w') :
    TabIs w' A R M lim (rs ++ [(k, ⟨P, .slice none 0 0, .slice none 0 0, ⟨[], []⟩⟩)]) ws := by
  have hlt := H.lt
  have hPl := (Array.getElem?_eq_some_iff.1 hP).1
  have hbs : (⟨P, .slice none 0 0, .slice none 0 0, ⟨[], []⟩⟩ : RR).bs = [P] := rfl
  have hn3 : P ≠ A ∧ P ≠ R ∧ P ≠ M := by simp only [tabBs, List.mem_cons, not_or] at hPn; exact ⟨hPn.1, hPn.2.1, hPn.2.2.1⟩
  have hnr : ∀ p ∈ rs, P ∉ p.2.bs := fun p hp hb => hPn (by simp only [tabBs, List.mem_cons, List.mem_flatMap]; exact .inr (.inr (.inr ⟨p, hp, hb⟩)))
  refine ⟨(hK.block A (hlt A (by simp [tabBs])) (by simp; exact H.hd.1)).trans H.blk, ?_, H.waits.kept hK (by simp; exact H.hd.2.2.symm), fun p hp => ?_, H.hd, fun p hp => ?_, fun p hp q hq hpq b hb => ?_, ?_, H.wn⟩
  · rw [List.map_append, List.map_cons, List.map_nil]
    rw [tput_none _ _ (by rw [aget_map (fun x : RR => Value.pointer (some ⟨x.P, 0, none⟩)), hk]; rfl)] at hM
    exact hM
  · rcases List.mem_append.1 hp with hp | hp
    · exact (H.each p hp).kept hK fun b hb hx => by simp at hx; subst hx; exact (H.out p hp).2.1 hb
    · simp only [List.mem_singleton] at hp
      subst hp
      refine ⟨(hK.block P hPl (by simp; exact hn3.2.1)).trans hP, ⟨rfl, .inl ⟨rfl, rfl⟩⟩, .inl ⟨rfl, rfl⟩, by simp [rowBs, Value.ownBlock]⟩
  · rcases List.mem_append.1 hp with hp | hp
    · exact H.out p hp
    · simp only [List.mem_singleton] at hp
      subst hp
      dsimp only
      rw [hbs]
      simp only [List.mem_singleton]
      exact ⟨fun e => hn3.1 e.symm, fun e => hn3.2.1 e.symm, fun e => hn3.2.2 e.symm⟩
  · rcases List.mem_append.1 hp with hp1 | hp1
    · rcases List.mem_append.1 hq with hq1 | hq1
      · exact H.dis p hp1 q hq1 hpq b hb
      · simp only [List.mem_singleton] at hq1
        rw [hq1]
        dsimp only
        rw [hbs]
        simp only [List.mem_singleton]
        intro e
        exact hnr p hp1 (e ▸ hb)
    · simp only [List.mem_singleton] at hp1
      rw [hp1] at hb hpq
      dsimp only at hb
      rw [hbs] at hb
      simp only [List.mem_singleton] at hb
      rw [hb]
      rcases List.mem_append.1 hq with hq1 | hq1
      · exact hnr q hq1
      · simp only [List.mem_singleton] at hq1
        rw [hq1] at hpq
        exact absurd rfl hpq
  · rw [List.map_append, List.nodup_append]
    refine ⟨H.kn, by simp, fun a ha b hb => ?_⟩
    simp only [List.map_cons, List.map_nil, List.mem_singleton] at hb
    subst hb
    intro e
    subst e
    exact (tget_none.1 hk) ha
theorem aget_snoc {α β : Type} [DecidableEq α] (k : α) (v : β) : ∀ {l : List (α × β)}, aget k l = none → aget k (l ++ [(k, v)]) = some v
  | [], _ => by simp [aget]
  | p :: l, h => by
    simp only [aget] at h
    by_cases hp : p.1 = k
    · rw [if_pos hp] at h; cases h
    · rw [if_neg hp] at h
      simp only [List.cons_append, aget, if_neg hp]
      exact aget_snoc k v h
set_option maxHeartbeats 4000000 in
set_option maxRecDepth 100000 in
theorem row_any (A R M : Nat) (lim : Int) (rs : List (K4 × RR)) (ws : List (Int × K4)) (k : K4) (w : World) (H : TabIs w A R M lim rs ws) :
    Calls Tryz.prog 69 #[.pointer (some ⟨A, 0, none⟩), k.v] w fun e w' => ∃ rs' rr, e = .returned (.pointer (some ⟨rr.P, 0, none⟩)) ∧ TabIs w' A R M lim rs' ws ∧ aget k rs' = some rr ∧ tabT lim rs' ws = (tabT lim rs ws).need k ∧ rr.r = (tabT lim rs ws).row k ∧ Kept [R] w w' ∧ (∀ b ∈ tabBs A R M rs', b ∈ tabBs A R M rs ∨ w.heap.size ≤ b) := by
  obtain ⟨a0, a1, a2⟩ := H.cells
  have hA := H.lt A (by simp [tabBs])
  have hne : w.heap.size ≠ A := by omega
  have H1 := hid (H.kept ((Kept.refl [] w).alloc (.cells k.f.toArray 33)) (fun _ _ => by simp))
  have hL : ∀ n, (Instr.lookup 112 (.map (some R)) k.v true).run Tryz.prog ((w.alloc (.cells k.f.toArray 33)).drewN n) = .ok (.tuple #[rrP (aget k rs), .bool (aget k rs).isSome]) ((w.alloc (.cells k.f.toArray 33)).drewN n) := fun n =>
    (H1.out.kept ((Kept.refl [] _).drewN n) (fun _ _ => by simp)).look k
  have HW := hid ((Kept.refl [R] w).alloc (.cells k.f.toArray 33))
  have hrow : (tabT lim rs ws).row k = match aget k rs with | none => ⟨[], []⟩ | some x => x.r := by
    unfold Ta.row tabT
    dsimp only
    rw [aget_map (fun x : RR => x.r)]
    cases aget k rs <;> rfl
  rw [hrow, tab_need]
  cases hk : aget k rs with
  | some rr =>
    rw [hk] at hL
    simp only [rrP, Option.isSome_some] at hL
    rw [if_pos (by rfl)]
    have HKK := hid hk
    clear hk H hrow
    obtain ⟨k1, k2, k3, k4⟩ := k
    simp only [K4.v, K4.f] at *
    go_enter Tryz.func69, Tryz.ntmps69
    go_wp2_with fail
    go_quiet (fail)
    go_wp2
    go_returns
    exact ⟨rs, rr, rfl, H1.out.kept ((Kept.refl [] _).drewN _) (fun _ _ => by simp), HKK.out, rfl, rfl, HW.out.drewN _, fun b hb => .inl hb⟩
  | none =>
    rw [hk] at hL
    simp only [rrP, Option.isSome_none] at hL
    rw [if_neg (by simp)]
    have HKK := hid hk
    have HLT := hid H.lt
    clear hk H hrow
    have HSK := hid (fun W (hK : Kept [] (w.alloc (.cells k.f.toArray 33)) W) j u h => hK.cell (new_cell w k.f 33 j u h) (by simp))
    have HKV := hid (show k.v = .agg k.f.toArray from rfl)
    obtain ⟨k1, k2, k3, k4⟩ := k
    simp only [K4.v, K4.f] at hL H1 HW HSK ⊢
    go_enter Tryz.func69, Tryz.ntmps69
    go_wp2_with fail
    go_quiet (fail)
    go_wp2_with fail
    have hk3 := ((Kept.refl [] (w.alloc (.cells #[.int .u8 (k1.toNat : Int), .int .u8 (k2.toNat : Int), .int .u8 (k3.toNat : Int), .int .u8 (k4.toNat : Int)] 33))).drewN nq).alloc (.cells #[.slice none 0 0, .slice none 0 0] 133)
    have HT3 := hid (H1.out.kept hk3 (fun _ _ => by simp))
    have HB3 := hid (heap_alloc_new ((w.alloc (.cells #[.int .u8 (k1.toNat : Int), .int .u8 (k2.toNat : Int), .int .u8 (k3.toNat : Int), .int .u8 (k4.toNat : Int)] 33)).drewN nq) (.cells #[.slice none 0 0, .slice none 0 0] 133))
    have HK3 := hid ((HW.out.drewN nq).alloc (.cells #[.slice none 0 0, .slice none 0 0] 133))
    have q0 := HSK.out _ hk3 0 _ rfl
    have q1 := HSK.out _ hk3 1 _ rfl
    have q2 := HSK.out _ hk3 2 _ rfl
    have q3 := HSK.out _ hk3 3 _ rfl
    have hs3 : ((w.alloc (.cells #[.int .u8 (k1.toNat : Int), .int .u8 (k2.toNat : Int), .int .u8 (k3.toNat : Int), .int .u8 (k4.toNat : Int)] 33)).drewN nq).heap.size = w.heap.size + 1 := by simp
    rw [hs3] at HB3
    clear hL hk3 hs3 a0 a1 a2
    generalize (((w.alloc (.cells #[.int .u8 (k1.toNat : Int), .int .u8 (k2.toNat : Int), .int .u8 (k3.toNat : Int), .int .u8 (k4.toNat : Int)] 33)).drewN nq).alloc (.cells #[.slice none 0 0, .slice none 0 0] 133)) = W3 at *
    obtain ⟨a0, a1, a2⟩ := HT3.out.cells
    refine region_tail 6 (by kernel_rfl) (by kernel_rfl) ?_
    simp only [List.take_succ_cons, List.take_zero, List.drop_succ_cons, List.drop_zero]
    repeat still_step
    refine wpStill_nil ?_
    go_wp2_with (at_mapUpdate; refine wpList_mapUpdate_is rfl _ _ _ 112 rfl 33 126 keyK Tryz.underlying112 rfl ⟨k1, k2, k3, k4⟩ rfl _ rfl HT3.out.rows.drew ?_; intro w5 hM5 hK5)
    have hk5 : Kept [R] W3 w5 := Kept.trans ((Kept.refl [R] W3).drew) hK5 (fun x hx => .inl hx)
    go_returns
    exact ⟨rs ++ [(⟨k1, k2, k3, k4⟩, ⟨w.heap.size + 1, .slice none 0 0, .slice none 0 0, ⟨[], []⟩⟩)], ⟨w.heap.size + 1, .slice none 0 0, .slice none 0 0, ⟨[], []⟩⟩, rfl, HT3.out.push HKK.out HB3.out (fun hb => by have := HLT.out _ hb; omega) hM5 hk5, aget_snoc _ _ HKK.out, by simp [tabT], rfl, HK3.out.trans hk5 (fun x hx => .inl hx), fun b hb => by
      simp only [tabBs, List.flatMap_append, List.mem_cons, List.mem_append] at hb ⊢
      rcases hb with h | h | h | h | h
      · exact .inl (.inl h)
      · exact .inl (.inr (.inl h))
      · exact .inl (.inr (.inr (.inl h)))
      · exact .inl (.inr (.inr (.inr h)))
      · simp [RR.bs, rowBs, Value.ownBlock] at h
        exact .inr (by omega)⟩
--@@ end
theorem onR_len : ∀ (q h : List Wi), (onR h q).2.length ≤ q.length
  | [], h => by rw [onR_nil]; exact Nat.le_refl _
  | x :: q, h => by
    cases hm : mayR h x with
    | true => rw [onR_go hm]; have := onR_len q (grantR h x); simp; omega
    | false => rw [onR_stop hm]; exact Nat.le_refl _
theorem onR_tot : ∀ (q h : List Wi), (onR h q).1.length + (onR h q).2.length ≤ h.length + q.length
  | [], h => by rw [onR_nil]; exact Nat.le_refl _
  | x :: q, h => by
    cases hm : mayR h x with
    | true => rw [onR_go hm]; have := onR_tot q (grantR h x); have := grantR_len h x; simp; omega
    | false => rw [onR_stop hm]; exact Nat.le_refl _
--@@ (*lock.Table).on
theorem tab_on {lim : Int} {rs rs1 : List (K4 × RR)} {ws : List (Int × K4)} {k : K4} {P n : Nat} {hv' qv' : Value} {rh rq oh oq : List Wi} (hN1 : tabT lim rs1 ws = (tabT lim rs ws).need k) (hR1 : (⟨rh, rq⟩ : Ro) = (tabT lim rs ws).row k) (ho : (oh, oq) = onR rh rq) (hn : rq.length = n + oq.length) :
    (tabT lim rs ws).on k = if oh.length + oq.length = 0 then tabT lim (adel k (aput k (⟨P, hv', qv', ⟨oh, oq⟩⟩ : RR) rs1)) ((rq.take n).foldl (fun ws x => adel x.tx ws) ws) else tabT lim (aput k (⟨P, hv', qv', ⟨oh, oq⟩⟩ : RR) rs1) ((rq.take n).foldl (fun ws x => adel x.tx ws) ws) := by
  unfold Ta.on
  rw [← hR1, ← hN1]
  dsimp only
  rw [← ho]
  dsimp only
  rw [show rq.length - oq.length = n by omega]
  have h1 : (aput k (⟨P, hv', qv', ⟨oh, oq⟩⟩ : RR) rs1).map (fun p => (p.1, p.2.r)) = aput k ⟨oh, oq⟩ (rs1.map fun p => (p.1, p.2.r)) := (aput_map (fun x : RR => x.r) k ⟨P, hv', qv', ⟨oh, oq⟩⟩ rs1).symm
  have h2 : (adel k (aput k (⟨P, hv', qv', ⟨oh, oq⟩⟩ : RR) rs1)).map (fun p => (p.1, p.2.r)) = adel k ((aput k (⟨P, hv', qv', ⟨oh, oq⟩⟩ : RR) rs1).map fun p => (p.1, p.2.r)) := (adel_map (fun x : RR => x.r) k _).symm
  by_cases hz : oh.length + oq.length = 0
  · rw [if_pos hz, if_pos hz]
    unfold tabT Ta.setRow
    dsimp only
    rw [h2, h1]
  · rw [if_neg hz, if_neg hz]
    unfold tabT Ta.setRow
    dsimp only
    rw [h1]
theorem row_len {lim : Int} {rs : List (K4 × RR)} {ws : List (Int × K4)} {k : K4} (hl : ∀ p ∈ rs, p.2.r.h.length + p.2.r.q.length < 1000000) : ((tabT lim rs ws).row k).h.length + ((tabT lim rs ws).row k).q.length < 1000000 := by
  unfold Ta.row tabT
  dsimp only
  rw [aget_map (fun x : RR => x.r)]
  cases h : aget k rs with
  | none => simp
  | some x => exact hl _ (tget_mem h)
section
variable {w w' : World} {A R M : Nat} {lim : Int} {rs : List (K4 × RR)} {ws : List (Int × K4)} {k : K4} {rr : RR}
theorem TabIs.setw (H : TabIs w A R M lim rs ws) {ws' : List (Int × K4)} (hM : MapIs w' M (Value.int .i64) (ws'.map fun p => (p.1, K4.v p.2))) (hn : (ws'.map (·.1)).Nodup) (hK : Kept [M] w w') : TabIs w' A R M lim rs ws' where
  blk := (hK.block A (H.lt A (by simp [tabBs])) (by simp; exact H.hd.2.1)).trans H.blk
  rows := H.rows.kept hK (by simp; exact H.hd.2.2)
  waits := hM
  each := fun p hp => (H.each p hp).kept hK fun b hb hx => by simp at hx; subst hx; exact (H.out p hp).2.2 hb
  hd := H.hd
  out := H.out
  dis := H.dis
  kn := H.kn
  wn := hn
theorem TabIs.delRow (H : TabIs w A R M lim rs ws) (hM : MapIs w' R K4.v (adel k (rs.map fun p => (p.1, Value.pointer (some ⟨p.2.P, 0, none⟩))))) (hK : Kept [R] w w') : TabIs w' A R M lim (adel k rs) ws where
  blk := (hK.block A (H.lt A (by simp [tabBs])) (by simp; exact H.hd.1)).trans H.blk
  rows := by rw [adel_map (fun x : RR => Value.pointer (some ⟨x.P, 0, none⟩))] at hM; exact hM
  waits := H.waits.kept hK (by simp; exact H.hd.2.2.symm)
  each := fun p hp => (H.each p ((tdel_sub k rs).subset hp)).kept hK fun b hb hx => by simp at hx; subst hx; exact (H.out p ((tdel_sub k rs).subset hp)).2.1 hb
  hd := H.hd
  out := fun p hp => H.out p ((tdel_sub k rs).subset hp)
  dis := fun p hp q hq => H.dis p ((tdel_sub k rs).subset hp) q ((tdel_sub k rs).subset hq)
  kn := tdel_nodup k rs H.kn
  wn := H.wn
theorem tabBs_turn {r' : RR} (hk : aget k rs = some rr) (hn : (rs.map (·.1)).Nodup) (hs : ∀ b ∈ r'.bs, b ∈ rr.bs ∨ w.heap.size ≤ b) : ∀ b ∈ tabBs A R M (aput k r' rs), b ∈ tabBs A R M rs ∨ w.heap.size ≤ b := fun b hb => by
  simp only [tabBs, List.mem_cons, List.mem_flatMap] at hb ⊢
  rcases hb with h | h | h | ⟨p, hp, h⟩
  · exact .inl (.inl h)
  · exact .inl (.inr (.inl h))
  · exact .inl (.inr (.inr (.inl h)))
  · rcases mem_aput hn hp with rfl | ⟨h1, _⟩
    · rcases hs b h with h | h
      · exact .inl (.inr (.inr (.inr ⟨(k, rr), tget_mem hk, h⟩)))
      · exact .inr h
    · exact .inl (.inr (.inr (.inr ⟨p, h1, h⟩)))
theorem bs_tab (hk : aget k rs = some rr) : ∀ b ∈ rr.bs, b ∈ tabBs A R M rs := fun b hb => by
  simp only [tabBs, List.mem_cons, List.mem_flatMap]
  exact .inr (.inr (.inr ⟨(k, rr), tget_mem hk, hb⟩))
end
set_option maxHeartbeats 4000000 in
set_option maxRecDepth 100000 in
theorem tabOn_any (A R M : Nat) (lim : Int) (rs : List (K4 × RR)) (ws : List (Int × K4)) (k : K4) (w : World) (H : TabIs w A R M lim rs ws) (hl : ∀ p ∈ rs, p.2.r.h.length + p.2.r.q.length < 1000000) :
    Calls Tryz.prog 93 #[.pointer (some ⟨A, 0, none⟩), k.v] w fun e w' => e = .returned (.tuple #[]) ∧ ∃ rs' ws', TabIs w' A R M lim rs' ws' ∧ tabT lim rs' ws' = (tabT lim rs ws).on k ∧ Kept (tabBs A R M rs) w w' ∧ (∀ b ∈ tabBs A R M rs', b ∈ tabBs A R M rs ∨ w.heap.size ≤ b) := by
  have hA := H.lt A (by simp [tabBs])
  have hne : w.heap.size ≠ A := by omega
  have HLT := hid H.lt
  have H1 := hid (H.kept ((Kept.refl [] w).alloc (.cells k.f.toArray 33)) (fun _ _ => by simp))
  have HRow := hid (row_any A R M lim rs ws k (w.alloc (.cells k.f.toArray 33)) H1.out)
  have HW := hid ((Kept.refl [] w).alloc (.cells k.f.toArray 33))
  have HSK := hid (fun S W (hK : Kept S (w.alloc (.cells k.f.toArray 33)) W) (hS : w.heap.size ∉ S) j u h => hK.cell (new_cell w k.f 33 j u h) hS)
  have hb0 : ∀ b ∈ tabBs A R M rs, b ≠ w.heap.size := fun b hb e => by have := H.lt b hb; omega
  have HB0 := hid hb0
  clear H hb0
  have HK := hid (rfl : k = k)
  obtain ⟨k', hk'⟩ : ∃ k', k' = k := ⟨_, rfl⟩
  rw [← hk'] at HRow
  have HKE := hid hk'
  clear hk' HK
  have hq0 := HSK.out [] _ (Kept.refl [] _) (by simp)
  obtain ⟨k1, k2, k3, k4⟩ := k
  simp only [K4.f] at hq0
  have q0 := hq0 0 _ rfl
  have q1 := hq0 1 _ rfl
  have q2 := hq0 2 _ rfl
  have q3 := hq0 3 _ rfl
  clear hq0
  rw [HKE.out] at HRow
  simp only [K4.v, K4.f] at HRow HW HSK H1 ⊢
  go_enter Tryz.func93, Tryz.ntmps93
  go_wp2_with (first
    | (go_at_call 69; refine HRow.out.mono ?_; clear HRow; rintro e w1 ⟨rs1, rr, rfl, hT1, hk1, hn1, hr1, hK1, hb1⟩; have HT1 := hid hT1; have HK1 := hid hk1; have HN1 := hid hn1; have HR1 := hid hr1; have HKept1 := hid hK1; have HB1 := hid hb1; obtain ⟨qa, qc, hqv⟩ := wrow_slice (HT1.out.at' HK1.out).q; obtain ⟨c0, c1, f0, f1⟩ := (HT1.out.at' HK1.out).c0; have HQV := hid hqv; rw [hqv] at c1; clear hT1 hk1 hn1 hr1 hK1 hb1 hqv q0 q1 q2 q3)
    | (go_at_call 113; refine Here.mk ?_))
  refine Here.of ?_
  have hln := row_len (lim := lim) (ws := ws) (k := ⟨k1, k2, k3, k4⟩) hl
  rw [← HR1.out] at hln
  obtain ⟨rP, rhv, rqv, ⟨rh, rq⟩⟩ := rr
  dsimp only at *
  refine (rowOn_any rP rhv rqv ⟨rh, rq⟩ w1 (HT1.out.at' HK1.out) (by dsimp only; omega)).mono ?_
  rintro e w2 ⟨rfl, hv', qv', hR2, hs2, hk2, hq2⟩
  dsimp only at hR2 hq2
  have HO := hid (rfl : onR rh rq = onR rh rq)
  have hol := onR_len rq rh
  have hot := onR_tot rq rh
  obtain ⟨o, ho⟩ : ∃ o, o = onR rh rq := ⟨_, rfl⟩
  rw [← ho] at hR2 hol hot
  obtain ⟨oh, oq⟩ := o
  dsimp only at hR2 hol hot
  have HOE := hid ho
  clear ho HO
  have HT2 := hid (HT1.out.turn HK1.out hR2 hs2 hk2)
  have HBT := hid (tabBs_turn (w := w1) (A := A) (R := R) (M := M) (r' := ⟨rP, hv', qv', ⟨oh, oq⟩⟩) HK1.out HT1.out.kn hs2)
  have HKN := hid (fun b hb => bs_tab (A := A) (R := R) (M := M) HK1.out b hb)
  have HKept2 := hid hk2
  rw [HQV.out] at hq2
  obtain ⟨n, hn⟩ : ∃ n, rq.length = n + oq.length := ⟨rq.length - oq.length, by omega⟩
  have HQ2 := hid hq2
  have HN := hid hn
  obtain ⟨ha, hc, hhv⟩ := ownsRow_slice hR2.h
  obtain ⟨qb, qd, hqv'⟩ := wrow_slice hR2.q
  obtain ⟨c0, c1, f0, f1⟩ := hR2.c0
  rw [hhv] at c0
  rw [hqv'] at c1
  dsimp only at c0 c1
  have HHV := hid hhv
  have HQB := hid hqv'
  clear hR2 hs2 hk2 hq2 hhv hqv' hol
  rename World => wy
  go_upto_region 4 with (fail)
  go_cut [26, 27, 28] (fun s26 s27 s28 wx => s26 = .slice qa n qc ∧ s27 = .int .i64 n ∧ s28 = .int .i64 0 ∧ wx = wy)
  case first =>
    have hmx : n ≤ 9223372036854775807 := by omega
    rcases HQ2.out with ⟨h1, h2⟩ | ⟨g, off, cap, sz, h1, h2⟩
    · injection h1 with e1 e2 e3
      subst e1
      subst e3
      have hn0 : n = 0 := by omega
      have ho0 : oq.length = 0 := by omega
      subst hn0
      clear hn e2 h2
      go_wp2_with fail
      go_meet
      exact ⟨rfl, rfl, rfl, rfl⟩
    · injection h1 with e1 e2 e3
      subst e1
      subst e3
      have hle := h2.le
      have hmx2 := h2.mx
      have hnc : (n : Int) ≤ (qc : Int) := by omega
      clear h2
      go_wp2_with fail
      go_meet
      exact ⟨rfl, rfl, rfl, rfl⟩
  case rest =>
  obtain ⟨rfl, rfl, rfl, hwy⟩ := hcut
  subst hwy
  clear c0 c1 f0 f1 hne
  rename World => wy
  obtain ⟨rs2, hrs2⟩ : ∃ rs2, rs2 = aput ⟨k1, k2, k3, k4⟩ (⟨rP, hv', qv', ⟨oh, oq⟩⟩ : RR) rs1 := ⟨_, rfl⟩
  rw [← hrs2] at HT2 HBT
  have HG2 := hid (show aget ⟨k1, k2, k3, k4⟩ rs2 = some ⟨rP, hv', qv', ⟨oh, oq⟩⟩ by rw [hrs2, tget_put, if_pos rfl])
  have HRS2 := hid hrs2
  clear hrs2
  have HMQ := hid (show M ∉ (Value.slice qa rq.length qc).ownBlock.toList from fun hx => (HT1.out.out _ (tget_mem HK1.out)).2.2 (by rw [← HQV.out] at hx; simp only [RR.bs, rowBs, List.mem_cons, List.mem_append]; exact .inr (.inr hx)))
  go_wp2_with fail
  go_loopg [28] n (fun kx s28 wr => ∃ i : Nat, s28 = .int .i64 i ∧ i ≤ n ∧ n - i ≤ kx ∧ Aside (TabIs wr A R M lim rs2 ((rq.take i).foldl (fun ws x => adel x.tx ws) ws)) ∧ Aside (Kept [M] wy wr))
  case atStart => exact ⟨0, by first | rfl | go_num, by omega, by omega, HT2.out, Kept.refl _ _⟩
  case round =>
    obtain ⟨i, rfl, hi, hix, HT, HKL⟩ := hrel
    by_cases hlt : i < n
    · have hltz : (i : Int) < (n : Int) := by omega
      have hiq : i < rq.length := by omega
      rcases HQ2.out with ⟨_, h2⟩ | ⟨g, off, cap, sz, h1, h2⟩
      · rw [h2] at hiq; simp at hiq
      injection h1 with e1 e2 e3
      subst e1
      subst e3
      have hb := h2.kept HKL.out (fun hx => by have := HMQ.out; simp [Value.ownBlock] at this; simp at hx; exact this hx.symm)
      obtain ⟨d0, d1, d2, d3⟩ := wish_cells (fun j u hj => hb.cell hj) hiq
      have HTK := hid (show rq.take (i + 1) = rq.take i ++ [rq[i]] by rw [List.take_succ_eq_append_getElem hiq])
      obtain ⟨a0, a1, a2⟩ := HT.out.cells
      have hAl := HT.out.lt A (by simp [tabBs])
      have hAne : wr.heap.size ≠ A := by omega
      clear h2 hb
      generalize rq[i] = x at *
      obtain ⟨x1, x2, x3, x4⟩ := x
      dsimp only at d0 d1 d2 d3
      have HTA := hid (HT.out.kept (((Kept.refl [] wr).alloc (.cells #[.int .i64 x1, .bool x2, .int .i64 x3, .bool x4] 129)).drew) (fun _ _ => by simp))
      go_wp2_with fail
      refine region_tail 6 (by kernel_rfl) (by kernel_rfl) ?_
      simp only [List.take_succ_cons, List.take_zero, List.drop_succ_cons, List.drop_zero]
      repeat still_step
      refine wpStill_nil ?_
      go_wp2_with (at_delete; refine wpList_delete_is rfl _ _ 113 3 rfl 3 33 (KeyOK.int (k := .i64) Tryz.underlying3) Tryz.underlying113 rfl x1 rfl HTA.out.waits ?_; intro w5 hM5 hK5)
      have HT5 := hid (HTA.out.setw (ws' := adel x1 ((rq.take i).foldl (fun ws x => adel x.tx ws) ws)) (by rw [adel_map K4.v] at hM5; exact hM5) (tdel_nodup _ _ HTA.out.wn) hK5)
      have HK5 := hid ((HKL.out.trans (((Kept.refl [M] wr).alloc (.cells #[.int .i64 x1, .bool x2, .int .i64 x3, .bool x4] 129)).drew) (fun x hx => .inl hx)).trans hK5 (fun x hx => .inl hx))
      clear hM5 hK5 d0 d1 d2 d3 a0 a1 a2
      go_roundg (n - (i + 1))
      case measure => omega
      case rel => exact ⟨i + 1, by first | rfl | go_num, by omega, Nat.le_refl _, by show TabIs _ _ _ _ _ _ _; rw [HTK.out, List.foldl_append]; exact HT5.out, HK5.out⟩
    · obtain rfl : i = n := by omega
      have hltz : ¬ (i : Int) < (i : Int) := by omega
      obtain ⟨c0, c1, f0, f1⟩ := (HT.out.at' HG2.out).c0
      dsimp only at c0 c1
      rw [HHV.out] at c0
      rw [HQB.out] at c1
      have HALL0 := hid (show Kept (tabBs A R M rs) (w.alloc (.cells #[.int .u8 (k1.toNat : Int), .int .u8 (k2.toNat : Int), .int .u8 (k3.toNat : Int), .int .u8 (k4.toNat : Int)] 33)) wr from ((HKept1.out.mono (fun x hx => by simp at hx; subst hx; simp [tabBs])).trans HKept2.out (fun x hx => HB1.out x (HKN.out x hx))).trans HKL.out (fun x hx => .inl (by simp at hx; subst hx; simp [tabBs])))
      have HALL := hid ((HW.out.mono (T := tabBs A R M rs) (fun x hx => by cases hx)).trans HALL0.out (fun x hx => .inl hx))
      have HSUB := hid (show ∀ b ∈ tabBs A R M rs2, b ∈ tabBs A R M rs ∨ w.heap.size ≤ b from fun b hb => by
        rcases HBT.out b hb with h | h
        · rcases HB1.out b h with h | h
          · exact .inl h
          · exact .inr (by simp at h; omega)
        · have := HKept1.out.size; simp at this; exact .inr (by omega))
      have heq := tab_on (P := rP) (hv' := hv') (qv' := qv') HN1.out HR1.out HOE.out HN.out
      rw [← HRS2.out] at heq
      by_cases hz : oh.length + oq.length = 0
      · rw [if_pos hz] at heq
        have HEQ := hid heq
        have hzb : ((oh.length : Int) + (oq.length : Int) == 0) = true := by rw [beq_iff_eq]; omega
        have q0 := HSK.out _ wr HALL0.out (fun hx => HB0.out _ hx rfl) 0 _ rfl
        have q1 := HSK.out _ wr HALL0.out (fun hx => HB0.out _ hx rfl) 1 _ rfl
        have q2 := HSK.out _ wr HALL0.out (fun hx => HB0.out _ hx rfl) 2 _ rfl
        have q3 := HSK.out _ wr HALL0.out (fun hx => HB0.out _ hx rfl) 3 _ rfl
        obtain ⟨a0, a1, a2⟩ := HT.out.cells
        have hwz : IntKind.i64.wrap ((oh.length : Int) + (oq.length : Int)) = (oh.length : Int) + (oq.length : Int) := by rw [IntKind.wrap_i64]; omega
        clear heq hz
        go_wp2_with fail
        go_quiet (fail)
        go_wp2_with fail
        clear hwz
        refine region_tail 5 (by kernel_rfl) (by kernel_rfl) ?_
        simp only [List.take_succ_cons, List.take_zero, List.drop_succ_cons, List.drop_zero]
        repeat still_step
        refine wpStill_nil ?_
        have HTD := hid (HT.out.kept (((Kept.refl [] wr).drewN nq).drew) (fun _ _ => by simp))
        go_wp2_with (at_delete; refine wpList_delete_is rfl _ _ 112 33 rfl 33 126 keyK Tryz.underlying112 rfl ⟨k1, k2, k3, k4⟩ rfl HTD.out.rows ?_; intro w5 hM5 hK5)
        go_returns
        exact ⟨rfl, _, _, HTD.out.delRow hM5 hK5, HEQ.out.symm, (HALL.out.trans (((Kept.refl [R] wr).drewN nq).drew) (fun x hx => .inl (by simp at hx; subst hx; simp [tabBs]))).trans hK5 (fun x hx => .inl (by simp at hx; subst hx; simp [tabBs])), fun b hb => HSUB.out b (by
          simp only [tabBs, List.mem_cons, List.mem_flatMap] at hb ⊢
          rcases hb with h | h | h | ⟨p, hp, h⟩
          · exact .inl h
          · exact .inr (.inl h)
          · exact .inr (.inr (.inl h))
          · exact .inr (.inr (.inr ⟨p, (tdel_sub _ _).subset hp, h⟩)))⟩
      · rw [if_neg hz] at heq
        have HEQ := hid heq
        have hzb : ((oh.length : Int) + (oq.length : Int) == 0) = false := by rw [beq_eq_false_iff_ne]; omega
        have hwz : IntKind.i64.wrap ((oh.length : Int) + (oq.length : Int)) = (oh.length : Int) + (oq.length : Int) := by rw [IntKind.wrap_i64]; omega
        clear heq hz
        go_wp2_with fail
        go_quiet (fail)
        go_wp2_with fail
        go_returns
        exact ⟨rfl, rs2, _, HT.out.kept ((Kept.refl [] wr).drewN _) (fun _ _ => by simp), HEQ.out.symm, HALL.out.drewN _, HSUB.out⟩
--@@ end
--@@ end
end Go.Proofs.YtpfgpbafechncaaGreat
