/- LockAll: the walk. -/
import Derived.Test.YtiheoddlknbomaaLockArgs
set_option linter.all false
namespace Go.Proofs.Ytiheoddlknbomaa.lockAll
open Go.RowKit Go.Shelf Go.Lib Go.Sort Go.Proofs Go.Proofs.Ytiheoddlknbomaa
set_option linter.unusedVariables false
set_option linter.unusedSimpArgs false

--@@ concordatlaw08.LockAll
set_option maxHeartbeats 8000000 in
set_option maxRecDepth 100000 in
theorem walk (v0 : Value) (cs : List Cl) (w : World) (h0 : SlAt w v0 Cl.ps.length cs.length (cs.flatMap Cl.f)) (_hl : ∀ x ∈ cs, x.ok) (hroom : Roomy v0) :
    Calls Try.prog 5 #[v0] w fun e w' => e = .returned (.bool true) ∧ Kept [] w w' := by
  clear _hl
  obtain ⟨a, cap, rfl, hmax, _, hc⟩ := h0.ex
  obtain ⟨hcap, hnil⟩ := hroom _ _ _ rfl
  have H0 := hid h0
  clear h0 hc hroom
  by_cases hlen : 60 < cs.length
  · have hlenz : (60 : Int) < (cs.length : Int) := by omega
    go_enter Try.func5, Try.ntmps5
    go_wp2_with (go_at_call 9; refine (alive_any _).mono ?_; rintro e wa ⟨rfl, hka⟩)
    go_ret
    exact ⟨rfl, hka⟩
  have hlenz : (cs.length : Int) ≤ 60 := by omega
  go_enter Try.func5, Try.ntmps5
  go_wp2_with (first
    | (go_at_call 9; refine (alive_any _).mono ?_; rintro e wa ⟨rfl, hka⟩)
    | (go_at_call 10; refine Here.mk ?_))
  refine Here.of ?_
  refine (do_any _ cs wa (H0.out.kept hka) (by omega)).mono ?_
  rintro e w1 ⟨A, rfl, hT1, hk1⟩
  have HT1 := hid hT1
  have HK1 := hid (hka.trans hk1 (fun x hx => by cases hx))
  clear hT1 hk1
  obtain ⟨ok0, hrl0, hle0⟩ := doT_ok cs
  obtain ⟨t, ht⟩ : ∃ t, t = doT cs := ⟨_, rfl⟩
  rw [← ht] at HT1 ok0 hrl0 hle0
  clear ht
  have HOK := hid ok0
  have HLE := hid hle0
  have hrl : t.rows.length ≤ 60 := by omega
  clear ok0 hle0 hrl0
  go_wp2_with (go_at_call 11; refine Here.mk ?_)
  refine Here.of ?_
  refine (txs_at HT1.out HLE.out (by omega) (by omega) HOK.out).mono ?_
  rintro e w2 ⟨v, L, rfl, hL, ho, hLl, hk2⟩
  obtain ⟨va, vc, hv⟩ := ownsRow_slice ho
  subst hv
  obtain ⟨D, HD2, HD0, HDV⟩ : ∃ D : Nat → Prop, Hid (TabAt w2 D A t) ∧ Hid (∀ b, b < wa.heap.size → D b) ∧ Hid (∀ x, (Value.slice va L.length vc).ownBlock = some x → D x) :=
    ⟨_, hid (HT1.out.widen hk2 (by simp)), hid (fun b hb => .inl hb), hid (fun x hx => .inr (ho.lt x hx))⟩
  have HO := hid ho
  have HL := hid hL
  have HK2 := hid (HK1.out.trans hk2 (fun x hx => by cases hx))
  have hsa := hka.size
  clear hL ho hk2 hka HT1
  go_wp2_with fail
  go_loopg [5] L.length (fun kx s5 wr => ∃ i : Nat, s5 = .int .i64 i ∧ i ≤ L.length ∧ L.length - i ≤ kx ∧ Aside (TabAt wr D A (freeAll t (L.take i))) ∧ Aside (KD D w2 wr))
  case atStart => exact ⟨0, by first | rfl | go_num, by omega, by omega, HD2.out, ⟨rfl, rfl, rfl, Nat.le_refl _, fun _ _ => rfl⟩⟩
  case round =>
    clear HD2
    obtain ⟨i, rfl, hi, hix, HT, HK⟩ := hrel
    obtain ⟨fle, flr⟩ := freeAll_sz (L.take i) HOK.out HLE.out hrl
    have HFL := hid fle
    clear fle
    by_cases hlt : i < L.length
    · have hltz : (i : Int) < (L.length : Int) := by omega
      have HOI := hid (HK.out.own HO.out HDV.out)
      obtain ⟨g, hg⟩ := own_some HOI.out (by omega)
      subst hg
      have c0 := own_ints HOI.out hlt
      have HTK := hid (show freeAll t (L.take (i + 1)) = (freeAll t (L.take i)).freeT L[i] by rw [List.take_succ_eq_append_getElem hlt, freeAll_snoc])
      generalize L[i] = x at *
      go_wp2_with (go_at_call 14; refine Here.mk ?_)
      refine Here.of ?_
      refine (free_at HT.out HFL.out (by omega) (by omega) x).mono ?_
      rintro e w3 ⟨rfl, hT3, hK3⟩
      have HT3 := hid hT3
      have HK3 := hid (HK.out.trans hK3 (fun x hx => hx))
      clear hT3 hK3 c0
      go_wp2_with fail
      go_roundg (L.length - (i + 1))
      case measure => omega
      case rel => exact ⟨i + 1, by first | rfl | go_num, by omega, Nat.le_refl _, by show TabAt _ _ _ _; rw [HTK.out]; exact HT3.out, HK3.out⟩
    · obtain rfl : i = L.length := by omega
      have hltz : ¬ (L.length : Int) < (L.length : Int) := by omega
      rw [List.take_length] at HT HFL flr
      have HFO := hid (freeAll_ok L HOK.out).1
      have HKW := hid (show Kept [] w wr from KD.then HK2.out HK.out (fun x hx _ => HD0.out x (by omega)))
      have HLAW := hid (fun M (hM : TxsOf (freeAll t L) M) => law_all HOK.out HL.out hM 1125899906842624)
      have HTT := hid HT.out
      generalize freeAll t L = t' at *
      go_wp2_with (first
        | (go_at_call 11; refine (txs_at HTT.out HFL.out (by omega) (by omega) HFO.out).mono ?_; rintro e w4 ⟨v4, M, rfl, hM, ho4, _, hk4⟩; obtain ⟨m1, m2, m3⟩ := HLAW.out M hM; subst m1; obtain ⟨xa, xc, hx⟩ := ownsRow_slice ho4; subst hx; have HK4 := hid hk4; have HM2 := hid m2; have HM3 := hid m3; clear hM ho4 hk4 m2 m3)
        | (go_at_call 12; refine (held_at (HTT.out.kept HK4.out (by simp)) (by omega)).mono ?_; rintro e w5 ⟨v5, rfl, ho5, hk5⟩; rw [HM2.out] at ho5; obtain ⟨ya, yc, hy⟩ := ownsRow_slice ho5; subst hy; have HK5 := hid (HK4.out.trans hk5 (fun x hx => by cases hx)); clear ho5 hk5)
        | (go_at_call 17; refine (late_at (HTT.out.kept HK5.out (by simp)) HFL.out (by omega) (by omega) 1125899906842624).mono ?_; rintro e w6 ⟨v6, rfl, ho6, hk6⟩; rw [HM3.out] at ho6; obtain ⟨za, zc, hz⟩ := ownsRow_slice ho6; subst hz; have HK6 := hid (HK5.out.trans hk6 (fun x hx => by cases hx)); clear ho6 hk6))
      go_returns
      exact ⟨rfl, HKW.out.trans HK6.out (fun x hx => by cases hx)⟩
--@@ end
end Go.Proofs.Ytiheoddlknbomaa.lockAll
