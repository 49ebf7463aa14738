/- What is kept of a row, in order: slices.CompactFunc and slices.DeleteFunc at pairs. -/
import Derived.Test.YtpcpeoejcnndhaaGreatM1
set_option linter.all false
namespace Go.Proofs.YtpcpeoejcnndhaaGreat
open Go.RowKit Go.Shelf Go.Lib Go.Sort Go.Proofs
section
variable {α : Type} [Inhabited α]
def selN (keep : Nat → Bool) (d : Array α) : Nat → List α
  | 0 => []
  | n + 1 => selN keep d n ++ (if keep n = true then [d[n]!] else [])
def LaidAt (dk : Array α) (i : Nat) (l : List α) : Prop := l.length = i ∧ ∀ x, x < i → dk[x]! = l[x]!
theorem LaidAt.snoc {dk : Array α} {i : Nat} {l : List α} (h : LaidAt dk i l) (hi : i < dk.size) (y : α) : LaidAt (dk.setIfInBounds i y) (i + 1) (l ++ [y]) := by
  refine ⟨by simp [h.1], fun x hx => ?_⟩
  rw [get_setIf _ _ _ hi]
  by_cases c : x = i
  · subst c; rw [if_pos rfl, getElem!_pos _ _ (by simp [h.1]), List.getElem_append_right (by rw [h.1]; exact Nat.le_refl _)]; simp
  · rw [if_neg c, h.2 x (by omega), getElem!_pos l x (by rw [h.1]; omega), getElem!_pos _ x (by simp [h.1]; omega), List.getElem_append_left]
theorem selN_skip {keep : Nat → Bool} {d : Array α} {n : Nat} (h : keep n = false) : selN keep d (n + 1) = selN keep d n := by simp [selN, h]
theorem selN_take {keep : Nat → Bool} {d : Array α} {n : Nat} (h : keep n = true) : selN keep d (n + 1) = selN keep d n ++ [d[n]!] := by simp [selN, h]
theorem selN_all {keep : Nat → Bool} {d : Array α} : ∀ {n : Nat}, n ≤ d.size → (∀ j, j < n → keep j = true) → LaidAt d n (selN keep d n)
  | 0, _, _ => ⟨rfl, fun x hx => by omega⟩
  | n + 1, h, hk => by
    rw [selN_take (hk n (by omega))]
    have := (selN_all (n := n) (d := d) (keep := keep) (by omega) fun j hj => hk j (by omega)).snoc (by omega) d[n]!
    rwa [show d.setIfInBounds n d[n]! = d from Array.ext (by simp) fun x h1 h2 => by
      rw [Array.getElem_setIfInBounds]
      split
      · rename_i e; subst e; rw [getElem!_pos d n h2]
      · rfl] at this
theorem LaidAt.zfill {dk : Array α} {i : Nat} {l : List α} (h : LaidAt dk i l) (hi : i ≤ dk.size) (zr : α) : LaidAt (zfill zr i dk) i l :=
  ⟨h.1, fun x hx => by rw [get_zfill zr i dk hi x (by omega), if_pos hx]; exact h.2 x hx⟩
end
--@@ slices.CompactFunc
set_option maxHeartbeats 8000000 in
set_option maxRecDepth 1000000 in
theorem compact_gen {P : Program} (L : SFacts P) (FG : P.funcs[79]? = some Tryz.f79)
    (k : Nat) (aE : ∀ w, (isAgg 57).run P w = .ok true w) (zE : ∀ w, (Go.sizeOf 57).run P w = .ok k w) {α : Type} [Inhabited α] (enc : α → List Value) (zr : α) (vE : ∀ w, (zeroValue 57).run P w = .ok (.agg (enc zr).toArray) w)
    (eq : α → α → Bool) (g : Nat) (cb : Array Value) (blk off cap : Nat) (d0 d : Array α) (w0 w : World)
    (eg : ∀ args w, (callFunc g args).run P w = .ok (.enter g args) w) (hp : ∀ (W : World) (x y : α), Calls P g (#[.agg (enc x).toArray, .agg (enc y).toArray] ++ cb) W fun e w' => e = .returned (.bool (eq x y)) ∧ ∃ q os, w' = grow (W.drewN q) os)
    (R : RowK enc k w0 blk off d0) (hs : d0.size = d.size) (S : SWK enc k w0 blk off d w) (hsz : d.size < 1000000000000) (hcap : d.size ≤ cap) (keep : Nat → Bool) (hkeep : keep = fun j => j == 0 || !eq d[j]! d[j - 1]!) :
    Calls P 79 #[.slice (some ⟨blk, off, none⟩) d.size cap, .func (.func g) #[] cb] w fun e w' => ∃ (d' : Array α) (n : Nat), e = .returned (.slice (some ⟨blk, off, none⟩) n cap) ∧ LaidAt d' n (selN keep d d.size) ∧ n ≤ d.size ∧ d'.size = d.size ∧ SWK enc k w0 blk off d' w' := by
  have mixed := L.mixed; have t0 := L.t0; have a0 := L.a0; have z0 := L.z0; have v0 := L.v0; have t3 := L.t3; have a3 := L.a3; have z3 := L.z3; have v3 := L.v3; have t4 := L.t4; have a4 := L.a4; have z4 := L.z4; have v4 := L.v4; have t38 := L.t38; have a38 := L.a38; have z38 := L.z38; have v38 := L.v38; have t69 := L.t69; have a69 := L.a69; have z69 := L.z69; have v69 := L.v69; have t81 := L.t81; have a81 := L.a81; have z81 := L.z81; have v81 := L.v81
  have u3 := run_underlying L.t3; have u38 := run_underlying L.t38; have u4 := run_underlying L.t4
  have S0 : Aside (SWK enc k w0 blk off d w) := S
  have HP : Aside _ := hp
  have KP : Aside (keep = fun j => j == 0 || !eq d[j]! d[j - 1]!) := hkeep
  clear S hp hkeep
  by_cases hl : d.size < 2
  · have hlz : (d.size : Int) < 2 := by omega
    go_enter FG, Tryz.ntmps79
    go_wp2
    go_returns
    exact ⟨d, d.size, rfl, selN_all (Nat.le_refl _) fun j hj => by rw [KP.out, show j = 0 by omega]; rfl, Nat.le_refl _, rfl, S0.out⟩
  · have hlz : (2 : Int) ≤ (d.size : Int) := by omega
    go_enter FG, Tryz.ntmps79
    go_wp2
    go_loopg [5] d.size (fun kx s5 wr => ∃ i : Nat, s5 = .int .i64 i ∧ 1 ≤ i ∧ i ≤ d.size ∧ d.size - i ≤ kx ∧ Aside (SWK enc k w0 blk off d wr) ∧ Aside (∀ j, j < i → keep j = true))
    case atStart => exact ⟨1, by first | rfl | go_num, by omega, by omega, by omega, S0, by show ∀ j, j < 1 → keep j = true; intro j hj; rw [KP.out, show j = 0 by omega]; rfl⟩
    case round =>
      clear S0
      obtain ⟨i, rfl, hi1, his, hkx, S1, HK⟩ := hrel
      by_cases hlt : i < d.size
      · have hltz : (i : Int) < (d.size : Int) := by omega
        obtain ⟨i1, hi1e⟩ : ∃ q : Nat, q = i - 1 := ⟨_, rfl⟩
        have hi1z : (i : Int) - 1 = (i1 : Int) := by omega
        have hi1s : i1 < d.size := by omega
        have hi1t : i1 + 1 ≤ i ∧ i ≤ i1 + 1 := by omega
        have HI1 : Aside (i1 = i - 1) := hi1e
        clear hi1e
        have eX : ((i : Int)).toNat = i := by omega
        have pX : (0 : Int) ≤ (i : Int) := by omega
        have bX : (i : Int) < (d.size : Int) := by omega
        have rX : IntKind.i64.wrap (i : Int) = (i : Int) := by rw [IntKind.wrap_i64]; omega
        have eY : ((i1 : Int)).toNat = i1 := by omega
        have pY : (0 : Int) ≤ (i1 : Int) := by omega
        have bY : (i1 : Int) < (d.size : Int) := by omega
        have rY : IntKind.i64.wrap (i1 : Int) = (i1 : Int) := by rw [IntKind.wrap_i64]; omega
        obtain ⟨x, hx⟩ : ∃ x, x = d[i]! := ⟨_, rfl⟩
        obtain ⟨y, hy⟩ : ∃ x, x = d[i1]! := ⟨_, rfl⟩
        have la := S1.out.ld R (by omega) P i (by omega)
        have lb := S1.out.ld R (by omega) P i1 (by omega)
        rw [← hx] at la
        rw [← hy] at lb
        cases hv : eq x y with
        | false =>
          have hc : ∀ n os, Calls P g (#[.agg (enc x).toArray, .agg (enc y).toArray] ++ cb) (grow (wr.drewN n) os) fun e w' => e = .returned (.bool false) ∧ ∃ q os', w' = grow ((grow (wr.drewN n) os).drewN q) os' := fun n os => by have := HP.out (grow (wr.drewN n) os) x y; rw [hv] at this; exact this
          have HLV : Aside (keep i = true) := by show keep i = true; rw [KP.out]; simp only []; rw [← HI1.out, ← hx, ← hy, hv]; simp
          clear hx hy
          go_wp2_with fail
          go_quiet_grown (first | (go_at_fn g; refine Calls.grown_of (hc _ _)))
          have S2 : Aside (SWK enc k w0 blk off d (grow (wr.drewN nq) osq)) := S1.out.grown nq osq
          clear la lb hc S1
          generalize grow (wr.drewN nq) osq = w2 at S2 ⊢
          clear nq osq
          go_wp2
          go_roundg (d.size - (i + 1))
          case measure => omega
          case rel => exact ⟨i + 1, by first | rfl | go_num, by omega, by omega, Nat.le_refl _, S2, by
            show ∀ j, j < i + 1 → keep j = true
            intro j hj
            by_cases c : j = i
            · rw [c]; exact HLV.out
            · exact HK.out j (by omega)⟩
        | true =>
          have hc : ∀ n os, Calls P g (#[.agg (enc x).toArray, .agg (enc y).toArray] ++ cb) (grow (wr.drewN n) os) fun e w' => e = .returned (.bool true) ∧ ∃ q os', w' = grow ((grow (wr.drewN n) os).drewN q) os' := fun n os => by have := HP.out (grow (wr.drewN n) os) x y; rw [hv] at this; exact this
          have HLV : Aside (keep i = false) := by show keep i = false; rw [KP.out]; simp only []; rw [← HI1.out, ← hx, ← hy, hv]; have : (i == 0) = false := by simp; omega
                                                  simp [this]
          clear hx hy
          go_wp2_with fail
          go_quiet_grown (first | (go_at_fn g; refine Calls.grown_of (hc _ _)))
          have S2 : Aside (SWK enc k w0 blk off d (grow (wr.drewN nq) osq)) := S1.out.grown nq osq
          clear la lb hc S1
          generalize grow (wr.drewN nq) osq = w2 at S2 ⊢
          clear nq osq
          have hcapz : (d.size : Int) ≤ (cap : Int) := by omega
          go_wp2
          obtain ⟨m, hm⟩ : ∃ m : Nat, m = d.size - i := ⟨_, rfl⟩
          obtain ⟨c2, hc2⟩ : ∃ m : Nat, m = cap - i := ⟨_, rfl⟩
          rw [← hm, ← hc2]
          have hmi : m + i ≤ d.size ∧ d.size ≤ m + i := by omega
          clear hm hc2
          go_loopg [5, 7] d.size (fun kx s5 s7 wr => ∃ (i2 j : Nat) (dk : Array α), s5 = .int .i64 i2 ∧ s7 = .int .i64 j ∧ 1 ≤ j ∧ j ≤ m ∧ i2 < i + j ∧ m - j ≤ kx ∧ dk.size = d.size ∧ Aside (SWK enc k w0 blk off dk wr) ∧ Aside (LaidAt dk i2 (selN keep d (i + j))) ∧ Aside (∀ x, i + j ≤ x + 1 → dk[x]! = d[x]!))
          case atStart => exact ⟨i, 1, d, rfl, by first | rfl | go_num, by omega, by omega, by omega, by omega, rfl, S2, by show LaidAt _ _ _; rw [selN_skip HLV.out]; exact selN_all (by omega) HK.out, fun x hx => rfl⟩
          case round =>
            clear S2 HK HLV
            obtain ⟨i2, j, dk, rfl, rfl, hj1, hjm, hi2, hkx2, hds, S3, HL, HE⟩ := hrel
            by_cases hlt2 : j < m
            · have hltz2 : (j : Int) < (m : Int) := by omega
              obtain ⟨j1, hj1e⟩ : ∃ q : Nat, q = j - 1 := ⟨_, rfl⟩
              have hj1z : (j : Int) - 1 = (j1 : Int) := by omega
              have hj1t : j1 + 1 ≤ j ∧ j ≤ j1 + 1 := by omega
              clear hj1e
              obtain ⟨u, hu⟩ : ∃ q : Nat, q = i + j := ⟨_, rfl⟩
              obtain ⟨u1, hu1⟩ : ∃ q : Nat, q = i + j1 := ⟨_, rfl⟩
              have hus : u < d.size := by omega
              have hu1s : u1 < d.size := by omega
              have au : off + u * k = off + i * k + j * k := by rw [hu, Nat.add_mul, Nat.add_assoc]
              have au1 : off + u1 * k = off + i * k + j1 * k := by rw [hu1, Nat.add_mul, Nat.add_assoc]
              have huu : u1 = u - 1 := by omega
              have huz : u ≠ 0 := by omega
              have eA : ((j : Int)).toNat = j := by omega
              have pA : (0 : Int) ≤ (j : Int) := by omega
              have bA : (j : Int) < (m : Int) := by omega
              have rA : IntKind.i64.wrap (j : Int) = (j : Int) := by rw [IntKind.wrap_i64]; omega
              have eB : ((j1 : Int)).toNat = j1 := by omega
              have pB : (0 : Int) ≤ (j1 : Int) := by omega
              have bB : (j1 : Int) < (m : Int) := by omega
              have rB : IntKind.i64.wrap (j1 : Int) = (j1 : Int) := by rw [IntKind.wrap_i64]; omega
              have eC : ((i2 : Int)).toNat = i2 := by omega
              have pC : (0 : Int) ≤ (i2 : Int) := by omega
              have bC : (i2 : Int) < (d.size : Int) := by omega
              have rC : IntKind.i64.wrap (i2 : Int) = (i2 : Int) := by rw [IntKind.wrap_i64]; omega
              obtain ⟨x, hx⟩ : ∃ x, x = dk[u]! := ⟨_, rfl⟩
              obtain ⟨y, hy⟩ : ∃ x, x = dk[u1]! := ⟨_, rfl⟩
              have hxd : x = d[u]! := by rw [hx]; exact HE.out u (by omega)
              have hyd : y = d[u1]! := by rw [hy]; exact HE.out u1 (by omega)
              have la := S3.out.ld R (by omega) P u (by omega)
              have lb := S3.out.ld R (by omega) P u1 (by omega)
              rw [← hx, au] at la
              rw [← hy, au1] at lb
              have KU : keep u = !eq x y := by rw [KP.out, hxd, hyd, huu]; have : (u == 0) = false := by simpa using huz
                                               simp only [this, Bool.false_or]
              have HU : Aside (u = i + j) := hu
              have AU : Aside (off + u * k = off + i * k + j * k) := au
              have HX : Aside (x = dk[u]!) := hx
              have HXD : Aside (x = d[u]!) := hxd
              clear hy hyd hx hxd huu hu hu1 au au1
              cases hv : eq x y with
              | true =>
                have hc : ∀ n os, Calls P g (#[.agg (enc x).toArray, .agg (enc y).toArray] ++ cb) (grow (wr.drewN n) os) fun e w' => e = .returned (.bool true) ∧ ∃ q os', w' = grow ((grow (wr.drewN n) os).drewN q) os' := fun n os => by have := HP.out (grow (wr.drewN n) os) x y; rw [hv] at this; exact this
                rw [hv] at KU
                have HKU : Aside (keep u = false) := KU
                clear KU hv
                go_wp2_with fail
                go_quiet_grown (first | (go_at_fn g; refine Calls.grown_of (hc _ _)))
                have S4 : Aside (SWK enc k w0 blk off dk (grow (wr.drewN nq) osq)) := S3.out.grown nq osq
                clear la lb hc S3
                generalize grow (wr.drewN nq) osq = w4 at S4 ⊢
                clear nq osq
                go_wp2
                go_roundg (m - (j + 1))
                case measure => omega
                case rel => exact ⟨i2, j + 1, dk, rfl, by first | rfl | go_num, by omega, by omega, by omega, Nat.le_refl _, hds, S4, by show LaidAt _ _ (selN keep d (i + (j + 1))); rw [show i + (j + 1) = u + 1 by rw [HU.out]; rfl, selN_skip HKU.out, HU.out]; exact HL.out, fun x hx => HE.out x (by omega)⟩
              | false =>
                have hc : ∀ n os, Calls P g (#[.agg (enc x).toArray, .agg (enc y).toArray] ++ cb) (grow (wr.drewN n) os) fun e w' => e = .returned (.bool false) ∧ ∃ q os', w' = grow ((grow (wr.drewN n) os).drewN q) os' := fun n os => by have := HP.out (grow (wr.drewN n) os) x y; rw [hv] at this; exact this
                rw [hv] at KU
                have HKU : Aside (keep u = true) := KU
                clear KU hv
                go_wp2_with fail
                go_quiet_grown (first | (go_at_fn g; refine Calls.grown_of (hc _ _)))
                have S4 : Aside (SWK enc k w0 blk off dk (grow (wr.drewN nq) osq)) := S3.out.grown nq osq
                clear la lb hc S3
                generalize grow (wr.drewN nq) osq = w4 at S4 ⊢
                clear nq osq
                have lc := S4.out.load R (by omega) P u (by omega)
                rw [← HX.out, AU.out] at lc
                have sc := swk_st S4.out R (by omega) P i2 (by omega) x
                have nx : (enc x).length = k := R.hk _
                have S5 : Aside (SWK enc k w0 blk off (dk.setIfInBounds i2 x) (w4.setCells blk (off + i2 * k) (enc x))) := swk_put S4.out R i2 x (by omega)
                clear S4
                go_wp2
                clear lc sc
                generalize w4.setCells blk (off + i2 * k) (enc x) = w5 at S5 ⊢
                go_roundg (m - (j + 1))
                case measure => omega
                case rel => exact ⟨i2 + 1, j + 1, dk.setIfInBounds i2 x, by first | rfl | go_num, by first | rfl | go_num, by omega, by omega, by omega, Nat.le_refl _, by simpa using hds, S5, by
                    show LaidAt _ _ (selN keep d (i + (j + 1)))
                    rw [show i + (j + 1) = u + 1 by rw [HU.out]; rfl, selN_take HKU.out, ← HXD.out, HU.out]
                    exact HL.out.snoc (by omega) x, by
                    show ∀ z, i + (j + 1) ≤ z + 1 → (dk.setIfInBounds i2 x)[z]! = d[z]!
                    intro z hz
                    rw [get_setIf _ _ _ (by omega), if_neg (by omega)]
                    exact HE.out z (by omega)⟩
            · obtain rfl : j = m := by omega
              have hltz2 : ¬ (j : Int) < (j : Int) := by omega
              obtain ⟨W', hcl, S5⟩ := swk_clear (P := P) S3.out R (by omega) t38 (zr := zr) vE i2 (cap - i2) (by omega)
              rw [hds] at hcl
              have S6 : Aside (SWK enc k w0 blk off (zfill zr i2 dk) W') := S5
              clear S5
              have hi2s : (i2 : Int) ≤ (d.size : Int) := by omega
              have hi2c : (i2 : Int) ≤ (cap : Int) := by omega
              have eC : ((i2 : Int)).toNat = i2 := by omega
              have pC : (0 : Int) ≤ (i2 : Int) := by omega
              have bC : (i2 : Int) < (d.size : Int) := by omega
              have rC : IntKind.i64.wrap (i2 : Int) = (i2 : Int) := by rw [IntKind.wrap_i64]; omega
              go_wp2
              go_returns
              refine ⟨zfill zr i2 dk, i2, rfl, ?_, by omega, by rw [size_zfill _ _ _ (by omega)]; exact hds, S6.out⟩
              have := HL.out.zfill (by omega) zr
              rwa [show i + j = d.size by omega] at this
      · obtain rfl : i = d.size := by omega
        have hltz : ¬ (d.size : Int) < (d.size : Int) := by omega
        go_wp2
        go_returns
        exact ⟨d, d.size, rfl, selN_all (Nat.le_refl _) HK.out, Nat.le_refl _, rfl, S1.out⟩
--@@ end
end Go.Proofs.YtpcpeoejcnndhaaGreat
