/- A key's row of the table, a new one if there is none. -/
import Derived.Test.YtiheoddlknbomaaLockTab2
set_option linter.all false
namespace Go.Proofs.Ytiheoddlknbomaa
open Go.RowKit Go.Shelf Go.Lib Go.Sort Go.Proofs
set_option linter.unusedVariables false
set_option linter.unusedSimpArgs false

theorem tab_need (lim : Int) (rs : List (K4 × RR)) (ws : List (Int × K4)) (k : K4) : (tabT lim rs ws).need k = if (aget k rs).isSome = true then tabT lim rs ws else ⟨lim, (rs.map fun p => (p.1, p.2.r)) ++ [(k, ⟨[], []⟩)], ws⟩ := by
  unfold Ta.need tabT
  dsimp only
  rw [aget_map (fun x : RR => x.r)]
  cases aget k rs <;> rfl
--@@ (*lock.Table).row
theorem TabIs.push {W w' : World} {A R M : Nat} {lim : Int} {rs : List (K4 × RR)} {ws : List (Int × K4)} {k : K4} {P : Nat} (H : TabIs W A R M lim rs ws) (hk : aget k rs = none)
    (hP : W.heap[P]? = some (.cells #[.slice none 0 0, .slice none 0 0] 61 (0, 0))) (hPn : P ∉ tabBs A R M rs) (hM : MapIs w' R K4.v (aput k (.pointer (some ⟨P, 0, none⟩)) (rs.map fun p => (p.1, Value.pointer (some ⟨p.2.P, 0, none⟩))))) (hK : Kept [R] W w') :
    TabIs w' A R M lim (rs ++ [(k, ⟨P, .slice none 0 0, .slice none 0 0, ⟨[], []⟩⟩)]) ws := by
  have hlt := H.lt
  have hPl := (Array.getElem?_eq_some_iff.1 hP).1
  have hbs : (⟨P, .slice none 0 0, .slice none 0 0, ⟨[], []⟩⟩ : RR).bs = [P] := rfl
  have hn3 : P ≠ A ∧ P ≠ R ∧ P ≠ M := by simp only [tabBs, List.mem_cons, not_or] at hPn; exact ⟨hPn.1, hPn.2.1, hPn.2.2.1⟩
  have hnr : ∀ p ∈ rs, P ∉ p.2.bs := fun p hp hb => hPn (by simp only [tabBs, List.mem_cons, List.mem_flatMap]; exact .inr (.inr (.inr ⟨p, hp, hb⟩)))
  refine ⟨(hK.block A (hlt A (by simp [tabBs])) (by simp; exact H.hd.1)).trans H.blk, ?_, H.waits.kept hK (by simp; exact H.hd.2.2.symm), fun p hp => ?_, H.hd, fun p hp => ?_, fun p hp q hq hpq b hb => ?_, ?_, H.wn⟩
  · rw [List.map_append, List.map_cons, List.map_nil]
    rw [tput_none _ _ (by rw [aget_map (fun x : RR => Value.pointer (some ⟨x.P, 0, none⟩)), hk]; rfl)] at hM
    exact hM
  · rcases List.mem_append.1 hp with hp | hp
    · exact (H.each p hp).kept hK fun b hb hx => by simp at hx; subst hx; exact (H.out p hp).2.1 hb
    · simp only [List.mem_singleton] at hp
      subst hp
      refine ⟨(hK.block P hPl (by simp; exact hn3.2.1)).trans hP, ⟨rfl, .inl ⟨rfl, rfl⟩⟩, .inl ⟨rfl, rfl⟩, by simp [rowBs, Value.ownBlock]⟩
  · rcases List.mem_append.1 hp with hp | hp
    · exact H.out p hp
    · simp only [List.mem_singleton] at hp
      subst hp
      dsimp only
      rw [hbs]
      simp only [List.mem_singleton]
      exact ⟨fun e => hn3.1 e.symm, fun e => hn3.2.1 e.symm, fun e => hn3.2.2 e.symm⟩
  · rcases List.mem_append.1 hp with hp1 | hp1
    · rcases List.mem_append.1 hq with hq1 | hq1
      · exact H.dis p hp1 q hq1 hpq b hb
      · simp only [List.mem_singleton] at hq1
        rw [hq1]
        dsimp only
        rw [hbs]
        simp only [List.mem_singleton]
        intro e
        exact hnr p hp1 (e ▸ hb)
    · simp only [List.mem_singleton] at hp1
      rw [hp1] at hb hpq
      dsimp only at hb
      rw [hbs] at hb
      simp only [List.mem_singleton] at hb
      rw [hb]
      rcases List.mem_append.1 hq with hq1 | hq1
      · exact hnr q hq1
      · simp only [List.mem_singleton] at hq1
        rw [hq1] at hpq
        exact absurd rfl hpq
  · rw [List.map_append, List.nodup_append]
    refine ⟨H.kn, by simp, fun a ha b hb => ?_⟩
    simp only [List.map_cons, List.map_nil, List.mem_singleton] at hb
    subst hb
    intro e
    subst e
    exact (tget_none.1 hk) ha
theorem aget_snoc {α β : Type} [DecidableEq α] (k : α) (v : β) : ∀ {l : List (α × β)}, aget k l = none → aget k (l ++ [(k, v)]) = some v
  | [], _ => by simp [aget]
  | p :: l, h => by
    simp only [aget] at h
    by_cases hp : p.1 = k
    · rw [if_pos hp] at h; cases h
    · rw [if_neg hp] at h
      simp only [List.cons_append, aget, if_neg hp]
      exact aget_snoc k v h
set_option maxHeartbeats 4000000 in
set_option maxRecDepth 100000 in
theorem row_any (A R M : Nat) (lim : Int) (rs : List (K4 × RR)) (ws : List (Int × K4)) (k : K4) (w : World) (H : TabIs w A R M lim rs ws) :
    Calls Try.prog 30 #[.pointer (some ⟨A, 0, none⟩), k.v] w fun e w' => ∃ rs' rr, e = .returned (.pointer (some ⟨rr.P, 0, none⟩)) ∧ TabIs w' A R M lim rs' ws ∧ aget k rs' = some rr ∧ tabT lim rs' ws = (tabT lim rs ws).need k ∧ rr.r = (tabT lim rs ws).row k ∧ Kept [R] w w' ∧ (∀ b ∈ tabBs A R M rs', b ∈ tabBs A R M rs ∨ w.heap.size ≤ b) := by
  obtain ⟨a0, a1, a2⟩ := H.cells
  have hA := H.lt A (by simp [tabBs])
  have hne : w.heap.size ≠ A := by omega
  have H1 := hid (H.kept ((Kept.refl [] w).alloc (.cells k.f.toArray 32)) (fun _ _ => by simp))
  have hL : ∀ n, (Instr.lookup 51 (.map (some R)) k.v true).run Try.prog ((w.alloc (.cells k.f.toArray 32)).drewN n) = .ok (.tuple #[rrP (aget k rs), .bool (aget k rs).isSome]) ((w.alloc (.cells k.f.toArray 32)).drewN n) := fun n =>
    (H1.out.kept ((Kept.refl [] _).drewN n) (fun _ _ => by simp)).look k
  have HW := hid ((Kept.refl [R] w).alloc (.cells k.f.toArray 32))
  have hrow : (tabT lim rs ws).row k = match aget k rs with | none => ⟨[], []⟩ | some x => x.r := by
    unfold Ta.row tabT
    dsimp only
    rw [aget_map (fun x : RR => x.r)]
    cases aget k rs <;> rfl
  rw [hrow, tab_need]
  cases hk : aget k rs with
  | some rr =>
    rw [hk] at hL
    simp only [rrP, Option.isSome_some] at hL
    rw [if_pos (by rfl)]
    have HKK := hid hk
    clear hk H hrow
    obtain ⟨k1, k2, k3, k4⟩ := k
    simp only [K4.v, K4.f] at *
    go_enter Try.func30, Try.ntmps30
    go_wp2_with fail
    go_quiet (fail)
    go_wp2
    go_returns
    exact ⟨rs, rr, rfl, H1.out.kept ((Kept.refl [] _).drewN _) (fun _ _ => by simp), HKK.out, rfl, rfl, HW.out.drewN _, fun b hb => .inl hb⟩
  | none =>
    rw [hk] at hL
    simp only [rrP, Option.isSome_none] at hL
    rw [if_neg (by simp)]
    have HKK := hid hk
    have HLT := hid H.lt
    clear hk H hrow
    have HSK := hid (fun W (hK : Kept [] (w.alloc (.cells k.f.toArray 32)) W) j u h => hK.cell (new_cell w k.f 32 j u h) (by simp))
    have HKV := hid (show k.v = .agg k.f.toArray from rfl)
    obtain ⟨k1, k2, k3, k4⟩ := k
    simp only [K4.v, K4.f] at hL H1 HW HSK ⊢
    go_enter Try.func30, Try.ntmps30
    go_wp2_with fail
    go_quiet (fail)
    go_wp2_with fail
    have hk3 := ((Kept.refl [] (w.alloc (.cells #[.int .u8 (k1.toNat : Int), .int .u8 (k2.toNat : Int), .int .u8 (k3.toNat : Int), .int .u8 (k4.toNat : Int)] 32))).drewN nq).alloc (.cells #[.slice none 0 0, .slice none 0 0] 61)
    have HT3 := hid (H1.out.kept hk3 (fun _ _ => by simp))
    have HB3 := hid (heap_alloc_new ((w.alloc (.cells #[.int .u8 (k1.toNat : Int), .int .u8 (k2.toNat : Int), .int .u8 (k3.toNat : Int), .int .u8 (k4.toNat : Int)] 32)).drewN nq) (.cells #[.slice none 0 0, .slice none 0 0] 61))
    have HK3 := hid ((HW.out.drewN nq).alloc (.cells #[.slice none 0 0, .slice none 0 0] 61))
    have q0 := HSK.out _ hk3 0 _ rfl
    have q1 := HSK.out _ hk3 1 _ rfl
    have q2 := HSK.out _ hk3 2 _ rfl
    have q3 := HSK.out _ hk3 3 _ rfl
    have hs3 : ((w.alloc (.cells #[.int .u8 (k1.toNat : Int), .int .u8 (k2.toNat : Int), .int .u8 (k3.toNat : Int), .int .u8 (k4.toNat : Int)] 32)).drewN nq).heap.size = w.heap.size + 1 := by simp
    rw [hs3] at HB3
    clear hL hk3 hs3 a0 a1 a2
    generalize (((w.alloc (.cells #[.int .u8 (k1.toNat : Int), .int .u8 (k2.toNat : Int), .int .u8 (k3.toNat : Int), .int .u8 (k4.toNat : Int)] 32)).drewN nq).alloc (.cells #[.slice none 0 0, .slice none 0 0] 61)) = W3 at *
    obtain ⟨a0, a1, a2⟩ := HT3.out.cells
    refine region_tail 6 (by kernel_rfl) (by kernel_rfl) ?_
    simp only [List.take_succ_cons, List.take_zero, List.drop_succ_cons, List.drop_zero]
    repeat still_step
    refine wpStill_nil ?_
    go_wp2_with (at_mapUpdate; refine wpList_mapUpdate_is rfl _ _ _ 51 rfl 32 55 keyK Try.underlying51 rfl ⟨k1, k2, k3, k4⟩ rfl _ rfl HT3.out.rows.drew ?_; intro w5 hM5 hK5)
    have hk5 : Kept [R] W3 w5 := Kept.trans ((Kept.refl [R] W3).drew) hK5 (fun x hx => .inl hx)
    go_returns
    exact ⟨rs ++ [(⟨k1, k2, k3, k4⟩, ⟨w.heap.size + 1, .slice none 0 0, .slice none 0 0, ⟨[], []⟩⟩)], ⟨w.heap.size + 1, .slice none 0 0, .slice none 0 0, ⟨[], []⟩⟩, rfl, HT3.out.push HKK.out HB3.out (fun hb => by have := HLT.out _ hb; omega) hM5 hk5, aget_snoc _ _ HKK.out, by simp [tabT], rfl, HK3.out.trans hk5 (fun x hx => .inl hx), fun b hb => by
      simp only [tabBs, List.flatMap_append, List.mem_cons, List.mem_append] at hb ⊢
      rcases hb with h | h | h | h | h
      · exact .inl (.inl h)
      · exact .inl (.inr (.inl h))
      · exact .inl (.inr (.inr (.inl h)))
      · exact .inl (.inr (.inr (.inr h)))
      · simp [RR.bs, rowBs, Value.ownBlock] at h
        exact .inr (by omega)⟩
--@@ end
end Go.Proofs.Ytiheoddlknbomaa
