/- GateGives: for every input the law answers true, and its arguments read as before. No conditions. -/
import Derived.Test.YtdaipbaclccodaaAlive14
import Derived.Test.YtdaipbaclccodaaOpen
set_option linter.all false
namespace Go.Proofs.Ytdaipbaclccodaa.gateGives
open Go.ChangeShapes Go.WideShapes Go.ChangeAt Go.RowKit
open Go.ChangeMaps (open_string shut_string)
set_option linter.unusedVariables false
set_option linter.unusedSimpArgs false

set_option maxRecDepth 100000 in
set_option maxHeartbeats 1000000 in
theorem walk (a0 a1 a2 : Int) (w : World) (w0 : IntKind.u64.min ≤ a0 ∧ a0 ≤ IntKind.u64.max) (w1 : IntKind.u64.min ≤ a1 ∧ a1 ≤ IntKind.u64.max) (w2 : IntKind.u64.min ≤ a2 ∧ a2 ≤ IntKind.u64.max) :
    Calls Try.prog 6 #[.int .u64 a0, .int .u64 a1, .int .u64 a2] w fun e w' => e = .returned (.bool true) ∧ Kept [] w w' := by
  obtain ⟨n0, rfl, u0⟩ := u64_of w0
  obtain ⟨n1, rfl, u1⟩ := u64_of w1
  obtain ⟨n2, rfl, u2⟩ := u64_of w2
  clear w0 w1 w2
  have hb1 : bits .andNot .u64 ((n2 &&& (n1 ||| n0) : Nat) : Int) (n2 : Int) = 0 := by
    rw [(u64_bits u2.and u2).2.2]
    exact congrArg (fun n : Nat => (n : Int)) (show minusN (n2 &&& (n1 ||| n0)) n2 = 0 from u64_ext u2.and.minus (by unfold U64; omega) fun i hi => by
      rw [testBit_minusN _ _ _ u2.and u2, Nat.testBit_and]; cases n2.testBit i <;> simp)
  have hb2 : bits .or .u64 (n1 : Int) (n0 : Int) = ((n1 ||| n0 : Nat) : Int) := (u64_bits u1 u0).2.1
  have hb3 : bits .andNot .u64 ((n2 &&& (n1 ||| n0) : Nat) : Int) ((n1 ||| n0 : Nat) : Int) = 0 := by
    rw [(u64_bits u2.and (u1.or u0)).2.2]
    exact congrArg (fun n : Nat => (n : Int)) (show minusN (n2 &&& (n1 ||| n0)) (n1 ||| n0) = 0 from u64_ext u2.and.minus (by unfold U64; omega) fun i hi => by
      rw [testBit_minusN _ _ _ u2.and (u1.or u0), Nat.testBit_and]; cases (n1 ||| n0).testBit i <;> simp)
  have hb4 : bits .and .u64 (n2 : Int) ((n1 ||| n0 : Nat) : Int) = ((n2 &&& (n1 ||| n0) : Nat) : Int) := (u64_bits u2 (u1.or u0)).1
  have hb5 : bits .andNot .u64 ((n2 &&& (n1 ||| n0) : Nat) : Int) ((n2 &&& (n1 ||| n0) : Nat) : Int) = 0 := by
    rw [(u64_bits u2.and u2.and).2.2]
    exact congrArg (fun n : Nat => (n : Int)) (show minusN (n2 &&& (n1 ||| n0)) (n2 &&& (n1 ||| n0)) = 0 from u64_ext u2.and.minus (by unfold U64; omega) fun i hi => by
      rw [testBit_minusN _ _ _ u2.and u2.and]; generalize (n2 &&& (n1 ||| n0)).testBit i = b; cases b <;> simp)
  have hb6 : bits .and .u64 (n1 : Int) (n2 : Int) = ((n1 &&& n2 : Nat) : Int) := (u64_bits u1 u2).1
  have hb7 : n2 &&& (n1 ||| 0) = n1 &&& n2 := by rw [Nat.or_zero, Nat.and_comm]
  have HB7 := hid hb7
  clear hb7
  have u00 : U64 0 := by unfold U64; omega
  go_enter Try.func6, Try.ntmps6
  go_wp2_with fail
  refine (alive_any _).mono ?_
  rintro e wa ⟨rfl, hka⟩
  go_wp2_with fail
  refine (gnew_any n0 _).mono ?_
  rintro e wb ⟨rfl, hG, hkb⟩
  go_wp2_with fail
  refine (ggive_any _ _ _ _ _ _ _ hG u0 u1 u2).mono ?_
  rintro e wc ⟨rfl, rfl⟩
  generalize n2 &&& (n1 ||| n0) = m at *
  generalize n1 ||| n0 = q at *
  clear hG u0
  go_wp2_with fail
  refine (gnew_any 0 _).mono ?_
  rintro e wc ⟨rfl, hG, hkc⟩
  go_wp2_with fail
  refine (ggive_any _ _ 0 _ _ _ _ hG u00 u1 u2).mono ?_
  rintro e wd ⟨rfl, rfl⟩
  rw [HB7.out]
  clear hG
  go_wp2_with fail
  go_ret
  exact ⟨rfl, (hka.trans hkb (by simp)).trans hkc (by simp)⟩
theorem own : ownKnob Try.prog.godebug = none := by kernel_rfl
theorem laidOut : laidOutB Try.prog = true := by kernel_rfl
set_option maxRecDepth 100000 in
theorem lifted (os : Os) (started : os.Started) (H : Type) (enc : TypeId × Value → H) :
    ReturnsInHanded {} Try.checked os 6 .any (Rows.gateGivesSpec.pre6 enc Try.prog Try.f6 Rows.gateGivesRow.domain false) (Rows.gateGivesSpec.post enc Try.prog Try.f6 false true false false) := by
  refine returnsInHanded_of_change (C := Try.checked) own started (by kernel_rfl) Try.func6
    (ChangeSpec.witness6 (enc := enc) (C := Try.checked) false ⟨#[], #[.int .u64 0, .int .u64 0, .int .u64 0], []⟩ 8 (by kernel_rfl) (by kernel_rfl) (by kernel_rfl) (by kernel_rfl)) ?_
  intro W base args ds gs before hval0 hW hcnd _
  have hval : ∀ (j : Nat) t v, Try.f6.params[j]? = some t → args[j]? = some v → Value.okWide Try.prog W .any base t v := hval0
  have hW' := hW
  obtain ⟨p, q, hA0, hV, rfl, hfz, hnd⟩ := hW
  have hA : DataW.TrodAll enc Try.prog W 0 (fun _ => true) true Try.f6.params.toList args.toList ds p := hA0
  rw [Try.params6] at hA hval
  obtain ⟨v0, vs0, d0, ds0, p0, q0, hargs, rfl, rfl, h0, r0⟩ := trodAll_cons hA
  obtain ⟨v1, vs1, d1, ds1, p1, q1, rfl, rfl, rfl, h1, r1⟩ := trodAll_cons r0
  obtain ⟨v2, vs2, d2, ds2, p2, q2, rfl, rfl, rfl, h2, r2⟩ := trodAll_cons r1
  obtain ⟨rfl, rfl, rfl⟩ := trodAll_nil r2
  obtain rfl : args = #[v0, v1, v2] := by cases args; simp_all
  obtain ⟨rfl, rfl⟩ := trodVars_none hV
  have k0 := h0
  have lt0 : ∀ x ∈ p0, x.block < W.heap.size := by obtain ⟨m, hm⟩ := k0; exact DataW.trod_lt m _ _ _ hm
  obtain ⟨a0, rfl, rfl, rfl, w0⟩ := open_int Try.underlying22 (hval 0 22 v0 rfl rfl) h0
  have k1 := h1
  have lt1 : ∀ x ∈ p1, x.block < W.heap.size := by obtain ⟨m, hm⟩ := k1; exact DataW.trod_lt m _ _ _ hm
  obtain ⟨a1, rfl, rfl, rfl, w1⟩ := open_int Try.underlying22 (hval 1 22 v1 rfl rfl) h1
  have k2 := h2
  have lt2 : ∀ x ∈ p2, x.block < W.heap.size := by obtain ⟨m, hm⟩ := k2; exact DataW.trod_lt m _ _ _ hm
  obtain ⟨a2, rfl, rfl, rfl, w2⟩ := open_int Try.underlying22 (hval 2 22 v2 rfl rfl) h2
  clear hA0 hval0
  refine (walk a0 a1 a2 W (wf_range w0) (wf_range w1) (wf_range w2)).mono fun e W' ⟨he, hkp⟩ => ?_
  have bel : Below W.heap.size W W' := hkp.below (Nat.le_refl _) (by simp)
  subst he
  exact ⟨_, rfl, _, _, _, [], _, [], hW', trodAll_mk1 (shut_bool Try.underlying4 _), (trodAll_cons_mk (Below.trod laidOut (by kernel_rfl) (of_decide_eq_true (by kernel_rfl)) k0 bel lt0) (trodAll_cons_mk (Below.trod laidOut (by kernel_rfl) (of_decide_eq_true (by kernel_rfl)) k1 bel lt1) (trodAll_cons_mk (Below.trod laidOut (by kernel_rfl) (of_decide_eq_true (by kernel_rfl)) k2 bel lt2) trodAll_mk0))), rfl, bel.frame _, fun h => by cases h⟩
theorem over : Rows.gateGivesRow.holds Try.pinned (OpenSpec.ofChange Rows.gateGivesSpec) :=
  OpenClaim.holds_of_wide 6 Try.f6 rfl rfl rfl rfl rfl rfl rfl ⟨rfl, rfl, rfl, rfl, rfl⟩ rfl rfl rfl rfl rfl (by kernel_rfl) Try.func6 (by kernel_rfl)
    (of_decide_eq_true (by kernel_rfl)) (by unfold Func.isWrapper; first | (rw [if_pos (by decide +kernel)]; kernel_rfl) | (rw [if_neg (by decide +kernel)]; exact ⟨rfl, rfl⟩))
    (fun os started H enc _ => lifted os started H enc)
/-- the statement -/
theorem proved : Rows.GateGivesSaid := over
end Go.Proofs.Ytdaipbaclccodaa.gateGives
