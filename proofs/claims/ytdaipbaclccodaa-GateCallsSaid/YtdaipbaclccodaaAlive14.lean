/- Statement 14: 'alive' answers true. -/
import Derived.Test.YtdaipbaclccodaaGateTxs
import Derived.Test.YtdaipbaclccodaaRef00
set_option linter.all false
namespace Go.Proofs.Ytdaipbaclccodaa
open Go.RowKit
set_option linter.unusedVariables false
set_option linter.unusedSimpArgs false

--@@ law14.alive
set_option maxRecDepth 100000 in
set_option maxHeartbeats 4000000 in
theorem alive_any (w : World) : Calls Try.prog 8 #[] w fun e w' => e = .returned (.bool true) ∧ Kept [] w w' := by
  have u1 : U64 1 := by unfold U64; omega
  have u0 : U64 0 := by unfold U64; omega
  have u2 : U64 2 := by unfold U64; omega
  have u7 : U64 7 := by unfold U64; omega
  have E1 : gOpen [] 1 3 9 = (0, [(1, ⟨3, 9, 0⟩)]) := by decide
  have E2 : gSet [(1, ⟨3, 9, 0⟩)] 1 true = (0, [(1, ⟨3, 9, 2⟩)]) := by decide
  have E3 : gSet [(1, ⟨3, 9, 2⟩)] 1 false = (13, [(1, ⟨3, 9, 2⟩)]) := by decide
  have E4 : gRead [(1, ⟨3, 9, 2⟩)] 1 0 8 = (0, 17) := by decide
  have E5 : gRead [(1, ⟨3, 9, 2⟩)] 1 1 9 = (1, 0) := by decide
  have E6 : gRead [(1, ⟨3, 9, 2⟩)] 1 2 9 = (0, 12) := by decide
  have E7 : gMask [(1, ⟨3, 9, 2⟩)] 1 = (3, 9) := by decide
  have HE := hid (And.intro E1 (And.intro E2 (And.intro E3 (And.intro E4 (And.intro E5 (And.intro E6 E7))))))
  clear E1 E2 E3 E4 E5 E6 E7
  have HU := hid (And.intro u0 (And.intro u1 (And.intro u2 u7)))
  clear u0 u1 u2 u7
  have hok : GOk [(1, ⟨3, 9, 2⟩)] := by intro p hp; simp at hp; subst hp; simp
  have hwf : GWf [(1, ⟨3, 9, 2⟩)] := ⟨by simp, by intro p hp; simp at hp; subst hp; simp, by simp⟩
  have HO := hid (And.intro hok hwf)
  clear hok hwf
  go_enter Try.func8, Try.ntmps8
  go_wp2_with fail
  refine (gnew_any 1 w).mono ?_
  rintro e w1 ⟨rfl, hG, hk⟩
  go_wp2_with fail
  refine (gopen_any _ _ _ [] 1 9 3 (by omega) w1 hG).mono ?_
  rw [HE.out.1]
  rintro e w2 ⟨rfl, hG2, hk2⟩
  have hk := hk.trans hk2 (fun x hx => .inr (by simp at hx; omega))
  clear hG hk2
  go_wp2_with fail
  refine (gset_any _ _ _ _ 1 true w2 hG2).mono ?_
  rw [HE.out.2.1]
  rintro e w3 ⟨rfl, hG3, hk3⟩
  have hk := hk.trans hk3 (fun x hx => .inr (by simp at hx; omega))
  clear hG2 hk3
  go_wp2_with fail
  refine (gset_any _ _ _ _ 1 false w3 hG3).mono ?_
  rw [HE.out.2.2.1]
  rintro e w4 ⟨rfl, hG4, hk4⟩
  have hk := hk.trans hk4 (fun x hx => .inr (by simp at hx; omega))
  clear hG3 hk4
  go_wp2_with fail
  refine (gread_any _ _ _ _ 1 0 8 w4 hG4 HO.out.1).mono ?_
  rw [HE.out.2.2.2.1]
  rintro e w5 ⟨rfl, hk5⟩
  have hG5 := hG4.kept hk5 (by simp) (by simp)
  have hk := hk.trans hk5 (fun x hx => by simp at hx)
  clear hG4 hk5
  go_wp2_with fail
  refine (gread_any _ _ _ _ 1 1 9 w5 hG5 HO.out.1).mono ?_
  rw [HE.out.2.2.2.2.1]
  rintro e w6 ⟨rfl, hk6⟩
  have hG6 := hG5.kept hk6 (by simp) (by simp)
  have hk := hk.trans hk6 (fun x hx => by simp at hx)
  clear hG5 hk6
  go_wp2_with fail
  refine (gread_any _ _ _ _ 1 2 9 w6 hG6 HO.out.1).mono ?_
  rw [HE.out.2.2.2.2.2.1]
  rintro e w7 ⟨rfl, hk7⟩
  have hG7 := hG6.kept hk7 (by simp) (by simp)
  have hk := hk.trans hk7 (fun x hx => by simp at hx)
  clear hG6 hk7
  go_wp2_with fail
  refine (gmask_any _ _ _ _ 1 w7 hG7).mono ?_
  rw [HE.out.2.2.2.2.2.2]
  rintro e w8 ⟨rfl, hk8⟩
  have hG8 := hG7.kept hk8 (by simp) (by simp)
  have hk := hk.trans hk8 (fun x hx => by simp at hx)
  clear hG7 hk8
  go_wp2_with fail
  refine (gtxs_any _ _ _ _ w8 hG8 HO.out.2).mono ?_
  rintro e w9 ⟨v, rfl, hv, hk9⟩
  have hG9 := hG8.kept hk9 (by simp) (by simp)
  have hk := hk.trans hk9 (fun x hx => by simp at hx)
  have hs1 : srt ([((1 : Int), (⟨3, 9, 2⟩ : GR))].map (·.1)) = [1] := by simp [srt]
  rw [hs1] at hv
  have hsv : SlAt w9 v 1 1 ([(1 : Int)].map (Value.int .i64)) := SlAt.of_own hv
  clear hs1
  have HSV := hid hsv
  clear hG8 hk9 hv hsv
  go_wp2_with fail
  refine (sameInts_any v _ [1] [1] _ (HSV.out.kept ((Kept.refl [] w9).alloc _)) (SlAt.of_own (ownsRow_new w9 [.int .i64 1] _ 1 1 0 (by omega) (by decide) rfl))).mono ?_
  rintro e w10 ⟨rfl, hk10⟩
  have hk10 := ((Kept.refl [] w9).alloc _).trans hk10 (fun x hx => by simp at hx)
  have hG10 := hG9.kept hk10 (by simp) (by simp)
  have hk := hk.trans hk10 (fun x hx => by simp at hx)
  clear hG9 hk10 HSV
  go_wp2_with fail
  refine (ggive_any _ _ 1 2 7 _ w10 hG10 HU.out.2.1 HU.out.2.2.1 HU.out.2.2.2).mono ?_
  rintro e w11 ⟨rfl, rfl⟩
  go_wp2_with fail
  refine (gpass_any _ _ 1 1 0 0 0 _ w10 hG10 HU.out.2.1 HU.out.2.1 HU.out.1 HU.out.1 HU.out.1).mono ?_
  rintro e w12 ⟨rfl, hk12⟩
  have hG12 := hG10.kept hk12 (by simp) (by simp)
  have hk := hk.trans hk12 (fun x hx => by simp at hx)
  clear hG10 hk12
  go_wp2_with fail
  refine (gpass_any _ _ 1 2 0 0 0 _ w12 hG12 HU.out.2.1 HU.out.2.2.1 HU.out.1 HU.out.1 HU.out.1).mono ?_
  rintro e w13 ⟨rfl, hk13⟩
  have hG13 := hG12.kept hk13 (by simp) (by simp)
  have hk := hk.trans hk13 (fun x hx => by simp at hx)
  clear hG12 hk13
  go_wp2_with fail
  refine (gclose_any _ _ _ _ 1 w13 hG13).mono ?_
  rintro e w14 ⟨rfl, hG14, hk14⟩
  have hk := hk.trans hk14 (fun x hx => .inr (by simp at hx; omega))
  clear hG13 hk14
  go_wp2_with fail
  refine (gclose_any _ _ _ _ 1 w14 hG14).mono ?_
  rintro e w15 ⟨rfl, hG15, hk15⟩
  have hk := hk.trans hk15 (fun x hx => .inr (by simp at hx; omega))
  clear hG14 hk15
  go_wp2_with fail
  go_ret
  exact ⟨rfl, hk⟩
--@@ end
end Go.Proofs.Ytdaipbaclccodaa
