/- slices.IndexFunc and slices.DeleteFunc at wishes. -/
import Derived.Test.YtpfgpbafechncaaGreatSel
import Derived.Test.YtpfgpbafechncaaGreatM1
import Derived.Deep.RegionLaw
set_option linter.all false
namespace Go.Proofs.YtpfgpbafechncaaGreat
open Go.RowKit Go.Shelf Go.Lib Go.Sort Go.Proofs
--@@ lock facts
structure WFacts (P : Program) : Prop where
  mixed : P.follows .mixedOrders = true
  t0 : P.underlying 0 = some (TypeDesc.tuple #[])
  a0 : ∀ w, (isAgg 0).run P w = .ok false w
  z0 : ∀ w, (Go.sizeOf 0).run P w = .ok 1 w
  v0 : ∀ w, (zeroValue 0).run P w = .ok (Value.tuple #[]) w
  t3 : P.underlying 3 = some (TypeDesc.int IntKind.i64)
  a3 : ∀ w, (isAgg 3).run P w = .ok false w
  z3 : ∀ w, (Go.sizeOf 3).run P w = .ok 1 w
  v3 : ∀ w, (zeroValue 3).run P w = .ok (Value.int IntKind.i64 0) w
  t4 : P.underlying 4 = some (TypeDesc.bool)
  a4 : ∀ w, (isAgg 4).run P w = .ok false w
  z4 : ∀ w, (Go.sizeOf 4).run P w = .ok 1 w
  v4 : ∀ w, (zeroValue 4).run P w = .ok (Value.bool false) w
  t38 : P.underlying 131 = some (TypeDesc.slice 129)
  a38 : ∀ w, (isAgg 131).run P w = .ok false w
  z38 : ∀ w, (Go.sizeOf 131).run P w = .ok 1 w
  v38 : ∀ w, (zeroValue 131).run P w = .ok (Value.slice none 0 0) w
  t69 : P.underlying 130 = some (TypeDesc.func #[129] #[4] false)
  a69 : ∀ w, (isAgg 130).run P w = .ok false w
  z69 : ∀ w, (Go.sizeOf 130).run P w = .ok 1 w
  v69 : ∀ w, (zeroValue 130).run P w = .ok (Value.nilFunc) w
  t81 : P.underlying 153 = some (TypeDesc.int IntKind.u64)
  a81 : ∀ w, (isAgg 153).run P w = .ok false w
  z81 : ∀ w, (Go.sizeOf 153).run P w = .ok 1 w
  v81 : ∀ w, (zeroValue 153).run P w = .ok (Value.int IntKind.u64 0) w
theorem wfacts : WFacts Tryz.prog where
  mixed := by kernel_rfl
  t0 := by kernel_rfl
  a0 := fun w => by kernel_rfl
  z0 := fun w => by kernel_rfl
  v0 := fun w => by kernel_rfl
  t3 := by kernel_rfl
  a3 := fun w => by kernel_rfl
  z3 := fun w => by kernel_rfl
  v3 := fun w => by kernel_rfl
  t4 := by kernel_rfl
  a4 := fun w => by kernel_rfl
  z4 := fun w => by kernel_rfl
  v4 := fun w => by kernel_rfl
  t38 := by kernel_rfl
  a38 := fun w => by kernel_rfl
  z38 := fun w => by kernel_rfl
  v38 := fun w => by kernel_rfl
  t69 := by kernel_rfl
  a69 := fun w => by kernel_rfl
  z69 := fun w => by kernel_rfl
  v69 := fun w => by kernel_rfl
  t81 := by kernel_rfl
  a81 := fun w => by kernel_rfl
  z81 := fun w => by kernel_rfl
  v81 := fun w => by kernel_rfl
--@@ slices.IndexFunc
set_option maxHeartbeats 8000000 in
set_option maxRecDepth 1000000 in
theorem windex_gen {P : Program} (L : WFacts P) (FG : P.funcs[99]? = some Tryz.f99)
    (k : Nat) (aE : ∀ w, (isAgg 129).run P w = .ok true w) (zE : ∀ w, (Go.sizeOf 129).run P w = .ok k w) {α : Type} [Inhabited α] (enc : α → List Value)
    (p : α → Bool) (g : Nat) (cb : Array Value) (blk off cap : Nat) (d0 d : Array α) (w0 w : World)
    (eg : ∀ args w, (callFunc g args).run P w = .ok (.enter g args) w) (hp : ∀ (W : World) (d' : Array α) (x : α), SWK enc k w0 blk off d' W → Calls P g (#[.agg (enc x).toArray] ++ cb) W fun e w' => e = .returned (.bool (p x)) ∧ ∃ q os, w' = grow (W.drewN q) os)
    (R : RowK enc k w0 blk off d0) (hs : d0.size = d.size) (S : SWK enc k w0 blk off d w) (hsz : d.size < 1000000000000) :
    Calls P 99 #[.slice (some ⟨blk, off, none⟩) d.size cap, .func (.func g) #[] cb] w fun e w' => SWK enc k w0 blk off d w' ∧ ((e = .returned (.int .i64 (-1)) ∧ ∀ j, j < d.size → p d[j]! = false) ∨ ∃ i : Nat, e = .returned (.int .i64 i) ∧ i < d.size ∧ p d[i]! = true ∧ ∀ j, j < i → p d[j]! = false) := by
  have mixed := L.mixed; have t0 := L.t0; have a0 := L.a0; have z0 := L.z0; have v0 := L.v0; have t3 := L.t3; have a3 := L.a3; have z3 := L.z3; have v3 := L.v3; have t4 := L.t4; have a4 := L.a4; have z4 := L.z4; have v4 := L.v4; have t38 := L.t38; have a38 := L.a38; have z38 := L.z38; have v38 := L.v38; have t69 := L.t69; have a69 := L.a69; have z69 := L.z69; have v69 := L.v69; have t81 := L.t81; have a81 := L.a81; have z81 := L.z81; have v81 := L.v81
  have u3 := run_underlying L.t3; have u38 := run_underlying L.t38; have u4 := run_underlying L.t4
  have S0 : Aside (SWK enc k w0 blk off d w) := S
  have HP : Aside _ := hp
  clear S hp
  go_enter FG, Tryz.ntmps99
  go_wp2
  go_loopg [5, 8] d.size (fun kx s5 s8 wr => ∃ i : Nat, s8 = .int .i64 i ∧ i ≤ d.size ∧ d.size - i ≤ kx ∧ Aside (SWK enc k w0 blk off d wr) ∧ Aside (∀ j, j < i → p d[j]! = false))
  case atStart => exact ⟨0, by first | rfl | go_num, by omega, by omega, S0, fun j hj => by omega⟩
  case round =>
    clear S0
    obtain ⟨i, rfl, his, hkx, S1, HK⟩ := hrel
    by_cases hlt : i < d.size
    · have hltz : (i : Int) < (d.size : Int) := by omega
      have eX : ((i : Int)).toNat = i := by omega
      have pX : (0 : Int) ≤ (i : Int) := by omega
      have bX : (i : Int) < (d.size : Int) := by omega
      have rX : IntKind.i64.wrap (i : Int) = (i : Int) := by rw [IntKind.wrap_i64]; omega
      obtain ⟨x, hx⟩ : ∃ x, x = d[i]! := ⟨_, rfl⟩
      have la := S1.out.load R (by omega) P i (by omega)
      rw [← hx] at la
      cases hv : p x with
      | false =>
        have hc : Calls P g (#[.agg (enc x).toArray] ++ cb) wr fun e w' => e = .returned (.bool false) ∧ ∃ q os, w' = grow (wr.drewN q) os := by have := HP.out wr d x S1.out; rw [hv] at this; exact this
        have HLV : Aside (p d[i]! = false) := by show p d[i]! = false; rw [← hx]; exact hv
        clear hx hv
        go_wp2_with (first | (go_at_fn g; refine hc.mono ?_; rintro e w' ⟨rfl, q, os, rfl⟩))
        have S2 : Aside (SWK enc k w0 blk off d (grow (wr.drewN q) os)) := S1.out.grown q os
        clear la hc S1
        generalize grow (wr.drewN q) os = w2 at S2 ⊢
        go_roundg (d.size - (i + 1))
        case measure => omega
        case rel => exact ⟨i + 1, by first | rfl | go_num, by omega, Nat.le_refl _, S2, by
          show ∀ j, j < i + 1 → p d[j]! = false
          intro j hj
          by_cases c : j = i
          · rw [c]; exact HLV.out
          · exact HK.out j (by omega)⟩
      | true =>
        have hc : Calls P g (#[.agg (enc x).toArray] ++ cb) wr fun e w' => e = .returned (.bool true) ∧ ∃ q os, w' = grow (wr.drewN q) os := by have := HP.out wr d x S1.out; rw [hv] at this; exact this
        have HLV : Aside (p d[i]! = true) := by show p d[i]! = true; rw [← hx]; exact hv
        clear hx hv
        go_wp2_with (first | (go_at_fn g; refine hc.mono ?_; rintro e w' ⟨rfl, q, os, rfl⟩))
        go_returns
        exact ⟨S1.out.grown q os, .inr ⟨i, rfl, hlt, HLV.out, HK.out⟩⟩
    · obtain rfl : i = d.size := by omega
      have hltz : ¬ (d.size : Int) < (d.size : Int) := by omega
      go_wp2
      go_returns
      exact ⟨S1.out, .inl ⟨rfl, HK.out⟩⟩
--@@ slices.DeleteFunc
theorem wcells_alloc_set (W : World) (c c' : List Value) (t : TypeId) (hl : c.length = c'.length) : (W.alloc (.cells c.toArray t)).setCells W.heap.size 0 c' = W.alloc (.cells c'.toArray t) := by
  have e : ∀ (pre c c' : List Value), c.length = c'.length → (W.alloc (.cells (pre ++ c).toArray t)).setCells W.heap.size pre.length c' = W.alloc (.cells (pre ++ c').toArray t) := fun pre c c' => by
    induction c' generalizing pre c with
    | nil => intro h; rw [List.eq_nil_of_length_eq_zero h]; rfl
    | cons v r ih =>
      intro h
      cases c with
      | nil => simp at h
      | cons u s =>
        have h1 : (W.alloc (.cells (pre ++ u :: s).toArray t)).setCell ⟨W.heap.size, pre.length, none⟩ v = W.alloc (.cells (pre ++ v :: s).toArray t) := by
          unfold World.setCell World.alloc
          simp only [World.mk.injEq, true_and, and_true]
          apply Array.ext_getElem?
          intro i
          simp only [Array.getElem?_modify, Array.getElem?_push]
          by_cases hi : W.heap.size = i
          · subst hi; simp
          · simp [hi, Ne.symm hi]
        rw [World.setCells, h1]
        have := ih (pre ++ [v]) s (by simpa using h)
        simpa using this
  have := e [] c c' hl
  simpa using this
theorem wnew_store {P : Program} {k : Nat} (W : World) (c c' : List Value) (t : TypeId) (hl : c.length = k) (hl' : c'.length = k) (h1 : ∀ v ∈ c', v.oneCell' = true) :
    Sem.run P (storeCells ⟨W.heap.size, 0, none⟩ c' 0) (W.alloc (.cells c.toArray t)) = .ok () (W.alloc (.cells c'.toArray t)) := by
  have hc : ∀ j, j < c'.length → ∃ u, (W.alloc (.cells c.toArray t)).cell? ⟨W.heap.size, 0 + 0 + j, none⟩ = some u := fun j hj => ⟨c[j]'(by omega), new_cell W c t _ _ (by simp)⟩
  have := run_storeCells_cells (P := P) W.heap.size 0 c' 0 (W.alloc (.cells c.toArray t)) (fun j hj => by obtain ⟨u, hu⟩ := hc j hj; rw [hu]; rfl) (fun j hj => World.frozen?_alloc_new W _ _ _) h1
  rw [this, Nat.add_zero, wcells_alloc_set W c c' t (by omega)]
theorem wnew_load {P : Program} {k : Nat} (W : World) (c : List Value) (t : TypeId) (hl : c.length = k) (n : Nat) (os : Array Obj) :
    Sem.run P (loadCellsFrom ⟨W.heap.size, 0, none⟩ 0 k #[]) (grow ((W.alloc (.cells c.toArray t)).drewN n) os) = .ok c.toArray (grow ((W.alloc (.cells c.toArray t)).drewN n) os) :=
  run_loadCellsFrom_list P _ _ c k hl fun j u hj => by
    have h1 := cells_new W c t j u hj
    have hk : Kept [] (W.alloc (.cells c.toArray t)) (grow ((W.alloc (.cells c.toArray t)).drewN n) os) := kept_grow ((Kept.refl [] _).drewN n) os
    rw [Addr.add_lit] at h1 ⊢
    exact hk.cell h1 (by simp)
set_option maxHeartbeats 8000000 in
set_option maxRecDepth 1000000 in
theorem wdelete_gen {P : Program} (L : WFacts P) (FG : P.funcs[111]? = some Tryz.f111) (FI : P.funcs[99]? = some Tryz.f99)
    (k : Nat) (aE : ∀ w, (isAgg 129).run P w = .ok true w) (zE : ∀ w, (Go.sizeOf 129).run P w = .ok k w) {α : Type} [Inhabited α] (enc : α → List Value) (zr : α) (vE : ∀ w, (zeroValue 129).run P w = .ok (.agg (enc zr).toArray) w)
    (p : α → Bool) (g : Nat) (cb : Array Value) (blk off cap : Nat) (d0 d : Array α) (w0 w : World)
    (eg : ∀ args w, (callFunc g args).run P w = .ok (.enter g args) w) (hp : ∀ (W : World) (d' : Array α) (x : α), SWK enc k w0 blk off d' W → Calls P g (#[.agg (enc x).toArray] ++ cb) W fun e w' => e = .returned (.bool (p x)) ∧ ∃ q os, w' = grow (W.drewN q) os)
    (R : RowK enc k w0 blk off d0) (hs : d0.size = d.size) (S : SWK enc k w0 blk off d w) (hsz : d.size < 1000000000000) (hcap : d.size ≤ cap) (keep : Nat → Bool) (hkeep : keep = fun j => !p d[j]!) :
    Calls P 111 #[.slice (some ⟨blk, off, none⟩) d.size cap, .func (.func g) #[] cb] w fun e w' => ∃ (d' : Array α) (n : Nat), e = .returned (.slice (some ⟨blk, off, none⟩) n cap) ∧ LaidAt d' n (selN keep d d.size) ∧ n ≤ d.size ∧ d'.size = d.size ∧ SWK enc k w0 blk off d' w' := by
  have hIF := hid (windex_gen L FI k aE zE enc p g cb blk off cap d0 d w0 w eg hp R hs S hsz)
  have eI : ∀ args w, (callFunc 99 args).run P w = .ok (.enter 99 args) w := enters_of FI (by kernel_rfl) rfl
  have mixed := L.mixed; have t0 := L.t0; have a0 := L.a0; have z0 := L.z0; have v0 := L.v0; have t3 := L.t3; have a3 := L.a3; have z3 := L.z3; have v3 := L.v3; have t4 := L.t4; have a4 := L.a4; have z4 := L.z4; have v4 := L.v4; have t38 := L.t38; have a38 := L.a38; have z38 := L.z38; have v38 := L.v38; have t69 := L.t69; have a69 := L.a69; have z69 := L.z69; have v69 := L.v69; have t81 := L.t81; have a81 := L.a81; have z81 := L.z81; have v81 := L.v81
  have u3 := run_underlying L.t3; have u38 := run_underlying L.t38; have u4 := run_underlying L.t4
  have HP : Aside _ := hp
  have KP : Aside (keep = fun j => !p d[j]!) := hkeep
  clear S hp hkeep
  rcases Classical.em (∃ i, i < d.size ∧ p d[i]! = true ∧ ∀ j, j < i → p d[j]! = false) with ⟨i0, hi0, hpi, hlo⟩ | hno
  · have hI : Calls P 99 #[.slice (some ⟨blk, off, none⟩) d.size cap, .func (.func g) #[] cb] w fun e w' => e = .returned (.int .i64 i0) ∧ SWK enc k w0 blk off d w' := hIF.out.mono (by
      rintro e w1 ⟨S1, ⟨_, h2⟩ | ⟨i, rfl, hi, h2, h3⟩⟩
      · rw [h2 i0 hi0] at hpi; cases hpi
      · refine ⟨?_, S1⟩
        have : i = i0 := by
          rcases Nat.lt_trichotomy i i0 with h | h | h
          · rw [hlo i h] at h2; cases h2
          · exact h
          · rw [h3 i0 h] at hpi; cases hpi
        rw [this])
    have HI := hid hI
    have hK0 : ∀ j, j < i0 → keep j = true := fun j hj => by rw [KP.out]; simp only []; rw [hlo j hj]; rfl
    have hK1 : keep i0 = false := by rw [KP.out]; simp only []; rw [hpi]; rfl
    have HL0 : Aside (LaidAt d i0 (selN keep d (i0 + 1))) := by show LaidAt _ _ _; rw [selN_skip hK1]; exact selN_all (by omega) hK0
    have hne1 : ((i0 : Int) == -1) = false := beq_eq_false_iff_ne.2 (by omega)
    clear hI hIF hpi hlo hK0 hK1
    go_enter FG, Tryz.ntmps111
    go_wp2_with (go_at_fn 99; refine HI.out.mono ?_; rintro e w1 ⟨rfl, S1⟩; have S2 : Aside _ := S1; clear S1)
    clear HI eI
    go_loopg [5, 6, 7] d.size (fun kx s5 s6 s7 wr => ∃ (i j : Nat) (dk : Array α), s5 = .int .i64 i ∧ s6 = .int .i64 j ∧ i < j ∧ j ≤ d.size ∧ d.size - j ≤ kx ∧ dk.size = d.size ∧ Aside (SWK enc k w0 blk off dk wr) ∧ Aside (LaidAt dk i (selN keep d j)) ∧ Aside (∀ x, j ≤ x → dk[x]! = d[x]!))
    case atStart => exact ⟨i0, i0 + 1, d, rfl, by first | rfl | go_num, by omega, by omega, by omega, rfl, S2, HL0, fun x hx => rfl⟩
    case round =>
      clear S2 HL0
      obtain ⟨i, j, dk, rfl, rfl, hij, hjs, hkx, hds, S3, HL, HE⟩ := hrel
      by_cases hlt : j < d.size
      · have hltz : (j : Int) < (d.size : Int) := by omega
        have eA : ((j : Int)).toNat = j := by omega
        have pA : (0 : Int) ≤ (j : Int) := by omega
        have bA : (j : Int) < (d.size : Int) := by omega
        have rA : IntKind.i64.wrap (j : Int) = (j : Int) := by rw [IntKind.wrap_i64]; omega
        have eC : ((i : Int)).toNat = i := by omega
        have pC : (0 : Int) ≤ (i : Int) := by omega
        have bC : (i : Int) < (d.size : Int) := by omega
        have rC : IntKind.i64.wrap (i : Int) = (i : Int) := by rw [IntKind.wrap_i64]; omega
        obtain ⟨x, hx⟩ : ∃ x, x = dk[j]! := ⟨_, rfl⟩
        have hxd : x = d[j]! := by rw [hx]; exact HE.out j (by omega)
        have la := S3.out.load R (by omega) P j (by omega)
        rw [← hx] at la
        have KU : keep j = !p x := by rw [KP.out, hxd]
        have HXD : Aside (x = d[j]!) := hxd
        clear hx hxd
        have nx : (enc x).length = k := R.hk _
        have sn := wnew_store (P := P) (k := k) wr (enc zr) (enc x) 129 (R.hk _) nx (R.h1 _)
        have ln := fun (n : Nat) (os : Array Obj) => wnew_load (P := P) (k := k) wr (enc x) 129 nx n os
        have ln0 := ln 0 #[]
        rw [grow_empty] at ln0
        have ln1 : Sem.run P (loadCellsFrom ⟨wr.heap.size, 0, none⟩ 0 k #[]) (wr.alloc (.cells (enc x).toArray 129)) = .ok (enc x).toArray (wr.alloc (.cells (enc x).toArray 129)) := ln0
        have S4 : Aside (SWK enc k w0 blk off dk (wr.alloc (.cells (enc x).toArray 129))) := S3.out.alloc _
        clear ln0
        go_wp2_with (fail)
        clear sn ln1 la S3
        generalize wr.alloc (.cells (enc x).toArray 129) = w3 at S4 ln ⊢
        generalize wr.heap.size = bN at ln ⊢
        cases hv : p x with
        | true =>
          have hc : Calls P g (#[.agg (enc x).toArray] ++ cb) w3 fun e w' => e = .returned (.bool true) ∧ ∃ q os, w' = grow (w3.drewN q) os := by have := HP.out w3 dk x S4.out; rw [hv] at this; exact this
          rw [hv] at KU
          have HKU : Aside (keep j = false) := KU
          clear KU hv
          go_wp2_with (first | (go_at_fn g; refine hc.mono ?_; rintro e w' ⟨rfl, q, os, rfl⟩))
          have S5 : Aside (SWK enc k w0 blk off dk (grow (w3.drewN q) os)) := S4.out.grown q os
          clear hc S4 ln
          generalize grow (w3.drewN q) os = w5 at S5 ⊢
          go_roundg (d.size - (j + 1))
          case measure => omega
          case rel => exact ⟨i, j + 1, dk, rfl, by first | rfl | go_num, by omega, by omega, Nat.le_refl _, hds, S5, by show LaidAt _ _ _; rw [selN_skip HKU.out]; exact HL.out, fun z hz => HE.out z (by omega)⟩
        | false =>
          have hc : Calls P g (#[.agg (enc x).toArray] ++ cb) w3 fun e w' => e = .returned (.bool false) ∧ ∃ q os, w' = grow (w3.drewN q) os := by have := HP.out w3 dk x S4.out; rw [hv] at this; exact this
          rw [hv] at KU
          have HKU : Aside (keep j = true) := KU
          clear KU hv
          have hc2 : Calls P g (#[.agg (enc x).toArray] ++ cb) w3 fun e w' => e = .returned (.bool false) ∧ SWK enc k w0 blk off dk w' ∧ Sem.run P (loadCellsFrom ⟨bN, 0, none⟩ 0 k #[]) w' = .ok (enc x).toArray w' := hc.mono (by
            rintro e w' ⟨rfl, q, os, rfl⟩
            exact ⟨rfl, S4.out.grown q os, ln q os⟩)
          have HC2 := hid hc2
          clear hc hc2 ln
          go_wp2_with (first | (go_at_fn g; refine HC2.out.mono ?_; clear HC2; rintro e w5 ⟨rfl, S5, l5⟩; have sc := swk_st S5 R (by omega) P i (by omega) x; have S6 : Aside (SWK enc k w0 blk off (dk.setIfInBounds i x) (w5.setCells blk (off + i * k) (enc x))) := swk_put S5 R i x (by omega); clear S5))
          generalize w5.setCells blk (off + i * k) (enc x) = w6 at S6 ⊢
          go_roundg (d.size - (j + 1))
          case measure => omega
          case rel => exact ⟨i + 1, j + 1, dk.setIfInBounds i x, by first | rfl | go_num, by first | rfl | go_num, by omega, by omega, Nat.le_refl _, by simpa using hds, S6, by
            show LaidAt _ _ _
            rw [selN_take HKU.out, ← HXD.out]
            exact HL.out.snoc (by omega) x, by
            show ∀ z, j + 1 ≤ z → (dk.setIfInBounds i x)[z]! = d[z]!
            intro z hz
            rw [get_setIf _ _ _ (by omega), if_neg (by omega)]
            exact HE.out z (by omega)⟩
      · obtain rfl : j = d.size := by omega
        have hltz : ¬ (d.size : Int) < (d.size : Int) := by omega
        obtain ⟨W', hcl, S5⟩ := swk_clear (P := P) S3.out R (by omega) t38 (zr := zr) vE i (cap - i) (by omega)
        rw [hds] at hcl
        have S6 : Aside (SWK enc k w0 blk off (zfill zr i dk) W') := S5
        clear S5
        have hi2s : (i : Int) ≤ (d.size : Int) := by omega
        have hi2c : (i : Int) ≤ (cap : Int) := by omega
        have eC : ((i : Int)).toNat = i := by omega
        have pC : (0 : Int) ≤ (i : Int) := by omega
        have bC : (i : Int) < (d.size : Int) := by omega
        have rC : IntKind.i64.wrap (i : Int) = (i : Int) := by rw [IntKind.wrap_i64]; omega
        go_wp2
        go_returns
        refine ⟨zfill zr i dk, i, rfl, ?_, by omega, by rw [size_zfill _ _ _ (by omega)]; exact hds, S6.out⟩
        exact HL.out.zfill (by omega) zr
  · have hall : ∀ j, j < d.size → p d[j]! = false := by
      have key : ∀ n, n ≤ d.size → ∀ j, j < n → p d[j]! = false := fun n => by
        induction n with
        | zero => intro _ j hj; omega
        | succ n ih =>
          intro hn j hj
          have h0 := ih (by omega)
          by_cases c : j = n
          · subst c
            cases hv : p d[j]! with
            | false => rfl
            | true => exact absurd ⟨j, by omega, hv, h0⟩ hno
          · exact h0 j (by omega)
      exact key d.size (Nat.le_refl _)
    have hI : Calls P 99 #[.slice (some ⟨blk, off, none⟩) d.size cap, .func (.func g) #[] cb] w fun e w' => e = .returned (.int .i64 (-1)) ∧ SWK enc k w0 blk off d w' := hIF.out.mono (by
      rintro e w1 ⟨S1, ⟨rfl, h2⟩ | ⟨i, rfl, hi, h2, h3⟩⟩
      · exact ⟨rfl, S1⟩
      · rw [hall i hi] at h2; cases h2)
    have HI := hid hI
    have HL0 : Aside (LaidAt d d.size (selN keep d d.size)) := selN_all (Nat.le_refl _) fun j hj => by rw [KP.out]; simp only []; rw [hall j hj]; rfl
    clear hI hIF hall hno
    go_enter FG, Tryz.ntmps111
    go_wp2_with (go_at_fn 99; refine HI.out.mono ?_; rintro e w1 ⟨rfl, S1⟩; have S2 : Aside _ := S1; clear S1)
    go_returns
    exact ⟨d, d.size, rfl, HL0.out, Nat.le_refl _, rfl, S2.out⟩
--@@ end
def Wi.f (w : Wi) : List Value := [.int .i64 w.tx, .bool w.ex, .int .i64 w.since, .bool w.ri]
def Wi.v (w : Wi) : Value := .agg #[.int .i64 w.tx, .bool w.ex, .int .i64 w.since, .bool w.ri]
theorem wf_len (x : Wi) : (Wi.f x).length = 4 := rfl
theorem wf_one (x : Wi) : ∀ v ∈ Wi.f x, v.oneCell' = true := fun v hv => by
  simp only [Wi.f, List.mem_cons, List.not_mem_nil, or_false] at hv
  rcases hv with rfl | rfl | rfl | rfl <;> rfl
theorem wflat_len (l : List Wi) : (l.flatMap Wi.f).length = l.length * 4 := rowK_len wf_len l
structure BlkW (T : TypeId) (w : World) (g off cap sz : Nat) (l : List Wi) : Prop where
  ex : ∃ cur, w.heap[g]? = some (.cells cur T (0, 0)) ∧ cur.size = sz ∧ ∀ j u, (l.flatMap Wi.f)[j]? = some u → cur[off + j]? = some u
  le : l.length ≤ cap
  mx : cap ≤ 9223372036854775807
  fit : off + cap * 4 ≤ sz
section
variable {T : TypeId} {w w' : World} {g off cap sz : Nat} {l : List Wi}
theorem BlkW.lt (h : BlkW T w g off cap sz l) : g < w.heap.size := by
  obtain ⟨cur, h1, _⟩ := h.ex
  exact (Array.getElem?_eq_some_iff.1 h1).1
theorem BlkW.cell (h : BlkW T w g off cap sz l) {j : Nat} {u : Value} (hj : (l.flatMap Wi.f)[j]? = some u) : w.cell? ⟨g, off + j, none⟩ = some u := by
  obtain ⟨cur, h1, _, h3⟩ := h.ex
  rw [cell_of_row w g _ cur T (0, 0) h1]
  exact h3 j u hj
theorem BlkW.frozen (h : BlkW T w g off cap sz l) (j : Nat) : w.frozen? ⟨g, j, none⟩ = false := by
  obtain ⟨cur, h1, _⟩ := h.ex
  simp [World.frozen?, h1]
theorem BlkW.kept {S : List Nat} (h : BlkW T w g off cap sz l) (hk : Kept S w w') (hg : g ∉ S) : BlkW T w' g off cap sz l := by
  obtain ⟨cur, h1, h2, h3⟩ := h.ex
  exact ⟨⟨cur, (hk.block g h.lt hg).trans h1, h2, h3⟩, h.le, h.mx, h.fit⟩
theorem BlkW.holds (h : BlkW T w g off cap sz l) : HoldsK Wi.f 4 w g off l.toArray := by
  refine holds_of_cells wf_len l.toArray (fun i hi j u hu => ?_) (fun j => h.frozen j)
  have hj : j < 4 := by have := (List.getElem?_eq_some_iff.1 hu).1; rwa [wf_len] at this
  have hi' : i < l.length := by simpa using hi
  have hb : i * 4 + j < l.length * 4 := by omega
  have hg := rowK_at (enc := Wi.f) (k := 4) wf_len l (i * 4 + j) hb
  rw [show (i * 4 + j) / 4 = i by omega, show (i * 4 + j) % 4 = j by omega] at hg
  rw [show off + i * 4 + j = off + (i * 4 + j) by omega]
  refine h.cell ?_
  rw [hg]
  have : l.toArray[i]! = l[i]! := by simp
  rw [this] at hu
  exact hu
theorem BlkW.rowK (h : BlkW T w g off cap sz l) : RowK Wi.f 4 w g off l.toArray := ⟨wf_len, wf_one, h.holds, h.lt⟩
end
theorem mapBlock_at {w : World} {b : Nat} {f : Array Value → Array Value} {cur : Array Value} {e : TypeId} {fr : Nat × Nat} (h : w.heap[b]? = some (.cells cur e fr)) : (mapBlock w b f).heap[b]? = some (.cells (f cur) e fr) := by
  simp [mapBlock, Array.getElem?_modify, h, onCells]
theorem swk_block {α : Type} [Inhabited α] {enc : α → List Value} {k : Nat} {w0 W : World} {blk off : Nat} {d : Array α} (h : SWK enc k w0 blk off d W) {cur : Array Value} {e : TypeId} {fr : Nat × Nat} (hb : w0.heap[blk]? = some (.cells cur e fr)) :
    ∃ cur', W.heap[blk]? = some (.cells cur' e fr) ∧ cur'.size = cur.size := by
  obtain ⟨n, os, rfl⟩ := h
  have h1 : (mapBlock (Sort.ahead w0 n) blk (putCells id off (flatK enc k d))).heap[blk]? = some (.cells (putCells id off (flatK enc k d) cur) e fr) := mapBlock_at hb
  refine ⟨putCells id off (flatK enc k d) cur, ?_, by simp [putCells]⟩
  unfold sortWorldK putRowK putRow grow
  rw [Array.getElem?_append_left (Array.getElem?_eq_some_iff.1 h1).1]
  exact h1
theorem swk_same {α : Type} [Inhabited α] {enc : α → List Value} {k : Nat} {w0 W : World} {blk off : Nat} {d : Array α} (h : SWK enc k w0 blk off d W) (hH : HoldsK enc k w0 blk off d) : Kept [] w0 W := by
  obtain ⟨n, os, rfl⟩ := h
  unfold sortWorldK
  rw [putRowK_self _ _ _ _ _ _ (holdsK_ahead _ _ _ n _ _ _ hH)]
  exact kept_grow ((Kept.refl [] w0).drewN n) os
theorem BlkW.of_swk {T : TypeId} {w W : World} {g off cap sz : Nat} {l : List Wi} (h : BlkW T w g off cap sz l) {d' : Array Wi} (S : SWK Wi.f 4 w g off d' W) (hd : d'.size = l.length) (l' : List Wi) (hl : l'.length ≤ d'.size) (he : ∀ x, x < l'.length → d'[x]! = l'[x]!) : BlkW T W g off cap sz l' := by
  obtain ⟨cur, h1, h2, h3⟩ := h.ex
  obtain ⟨cur', c1, c2⟩ := swk_block S h1
  have hH := S.holds h.lt h.holds (by simpa using hd)
  have hle := h.le
  have hmx := h.mx
  have hs := holdsK_slAt wf_len hH (S.lt h.lt) l' cap hl he (by omega)
  refine ⟨⟨cur', c1, by rw [c2, h2], fun j u hj => ?_⟩, by omega, h.mx, h.fit⟩
  obtain ⟨a, c, ha, _, _, hc⟩ := hs.ex
  have hpos : 0 < l'.length := by
    cases l' with
    | nil => simp at hj
    | cons y l' => simp
  obtain ⟨b, o, hb, _, hcs⟩ := hc hpos
  cases ha
  cases hb
  have := hcs j u hj
  rw [cell_of_row W g _ cur' T (0, 0) c1] at this
  exact this
def idxI (p : Wi → Bool) (l : List Wi) : Int := match l.findIdx? p with
  | none => -1
  | some i => (i : Int)
def WRow (T : TypeId) (w : World) (v : Value) (l : List Wi) : Prop := (v = .slice none 0 0 ∧ l = []) ∨ ∃ g off cap sz, v = .slice (some ⟨g, off, none⟩) l.length cap ∧ BlkW T w g off cap sz l
theorem WRow.kept {T : TypeId} {w w' : World} {v : Value} {l : List Wi} {S : List Nat} (h : WRow T w v l) (hk : Kept S w w') (hg : ∀ g, v.ownBlock = some g → g ∉ S) : WRow T w' v l := by
  rcases h with h | ⟨g, off, cap, sz, rfl, h⟩
  · exact .inl h
  · exact .inr ⟨g, off, cap, sz, rfl, h.kept hk (hg g rfl)⟩
--@@ slices.IndexFunc[[]lock.wish,lock.wish]
theorem wAgg : ∀ w, (isAgg 129).run Tryz.prog w = .ok true w := fun w => by kernel_rfl
theorem wSize : ∀ w, (Go.sizeOf 129).run Tryz.prog w = .ok 4 w := fun w => by kernel_rfl
theorem wZero : ∀ w, (zeroValue 129).run Tryz.prog w = .ok (.agg (Wi.f ⟨0, false, 0, false⟩).toArray) w := fun w => by kernel_rfl
set_option maxHeartbeats 1000000 in
set_option maxRecDepth 100000 in
theorem windex_any (v : Value) (l : List Wi) (w : World) (hv : WRow 129 w v l) (gf : Nat) (cb : Array Value) (p : Wi → Bool)
    (eg : ∀ args w, (callFunc gf args).run Tryz.prog w = .ok (.enter gf args) w)
    (hp : ∀ W, Kept v.ownBlock.toList w W → ∀ x : Wi, Calls Tryz.prog gf (#[.agg x.f.toArray] ++ cb) W fun e w' => e = .returned (.bool (p x)) ∧ ∃ q os, w' = grow (W.drewN q) os) (hl : l.length < 1000000000000) :
    Calls Tryz.prog 99 #[v, .func (.func gf) #[] cb] w fun e w' => e = .returned (.int .i64 (idxI p l)) ∧ Kept [] w w' := by
  rcases hv with ⟨rfl, rfl⟩ | ⟨g, off, cap, sz, rfl, h⟩
  · clear hp eg
    go_enter Tryz.func99, Tryz.ntmps99
    go_wp2
    go_loopg [5, 8] 0 (fun kx s5 s8 wr => s8 = .int .i64 0 ∧ wr = w)
    case atStart => exact ⟨by first | rfl | go_num, rfl⟩
    case round =>
      obtain ⟨rfl, rfl⟩ := hrel
      go_wp2
      go_returns
      exact ⟨rfl, Kept.refl _ _⟩
  · have R := h.rowK
    have := windex_gen wfacts Tryz.func99 4 wAgg wSize Wi.f p gf cb g off cap l.toArray l.toArray w w eg (fun W d' x S => hp W (swk_kept S) x) R rfl (SWK.start R.hH) (by simpa using hl)
    rw [show l.toArray.size = l.length by simp] at this
    refine this.mono ?_
    rintro e w' ⟨S, ⟨rfl, hall⟩ | ⟨i, rfl, hi, hpi, hlo⟩⟩
    · refine ⟨?_, swk_same S R.hH⟩
      have : l.findIdx? p = none := by
        rw [List.findIdx?_eq_none_iff]
        intro x hx
        obtain ⟨j, hj, rfl⟩ := List.mem_iff_getElem.1 hx
        have := hall j hj
        rw [getElem!_pos l.toArray j (by simpa using hj)] at this
        simpa using this
      unfold idxI; rw [this]
    · refine ⟨?_, swk_same S R.hH⟩
      have : l.findIdx? p = some i := by
        rw [List.findIdx?_eq_some_iff_getElem]
        refine ⟨hi, by rw [getElem!_pos l.toArray i (by simpa using hi)] at hpi; simpa using hpi, fun j hj => ?_⟩
        have := hlo j hj
        rw [getElem!_pos l.toArray j (by simp; omega)] at this
        simpa using this
      unfold idxI; rw [this]
--@@ end
theorem wselN_filter {α : Type} [Inhabited α] (q : α → Bool) (d : Array α) : ∀ n, n ≤ d.size → selN (fun j => q d[j]!) d n = (d.toList.take n).filter q
  | 0, _ => rfl
  | n + 1, hn => by
    rw [List.take_succ_eq_append_getElem (by simp; omega), List.filter_append, ← wselN_filter q d n (by omega)]
    have e : d.toList[n]'(by simp; omega) = d[n]! := by rw [getElem!_pos d n hn]; simp
    rw [e]
    cases hv : q d[n]! with
    | true => rw [selN_take hv]; simp [hv]
    | false => rw [selN_skip hv]; simp [hv]
--@@ slices.DeleteFunc[[]lock.wish,lock.wish]
set_option maxHeartbeats 1000000 in
set_option maxRecDepth 100000 in
theorem wdel_any (v : Value) (l : List Wi) (w : World) (hv : WRow 129 w v l) (gf : Nat) (cb : Array Value) (p : Wi → Bool)
    (eg : ∀ args w, (callFunc gf args).run Tryz.prog w = .ok (.enter gf args) w)
    (hp : ∀ W, Kept v.ownBlock.toList w W → ∀ x : Wi, Calls Tryz.prog gf (#[.agg x.f.toArray] ++ cb) W fun e w' => e = .returned (.bool (p x)) ∧ ∃ q os, w' = grow (W.drewN q) os) (hl : l.length < 1000000000000) :
    Calls Tryz.prog 111 #[v, .func (.func gf) #[] cb] w fun e w' => ∃ v', e = .returned v' ∧ v'.ownBlock = v.ownBlock ∧ Kept v.ownBlock.toList w w' ∧
      ((v = .slice none 0 0 ∧ v' = .slice none 0 0 ∧ l = []) ∨ ∃ g off cap sz, v = .slice (some ⟨g, off, none⟩) l.length cap ∧ BlkW 129 w g off cap sz l ∧ v' = .slice (some ⟨g, off, none⟩) (l.filter fun x => !p x).length cap ∧ BlkW 129 w' g off cap sz (l.filter fun x => !p x)) := by
  rcases hv with ⟨rfl, rfl⟩ | ⟨g, off, cap, sz, rfl, h⟩
  · have hI := hid (windex_any _ [] w (.inl ⟨rfl, rfl⟩) gf cb p eg hp (by simp))
    clear hp eg
    go_enter Tryz.func111, Tryz.ntmps111
    go_wp2_with (first
      | (go_at_call 99; refine hI.out.mono ?_; rintro e w1 ⟨rfl, hk1⟩))
    go_returns
    exact ⟨_, rfl, rfl, hk1, .inl (by simp)⟩
  · have R := h.rowK
    have := wdelete_gen wfacts Tryz.func111 Tryz.func99 4 wAgg wSize Wi.f ⟨0, false, 0, false⟩ wZero p gf cb g off cap l.toArray l.toArray w w eg (fun W d' x S => hp W (swk_kept S) x) R rfl (SWK.start R.hH) (by simpa using hl) (by simpa using h.le) (fun j => !p l.toArray[j]!) rfl
    rw [show l.toArray.size = l.length by simp] at this
    refine this.mono ?_
    rintro e w' ⟨d', n, rfl, hL, hn, hds, S⟩
    have hf : selN (fun j => !p l.toArray[j]!) l.toArray l.length = l.filter fun x => !p x := by
      have := wselN_filter (fun x => !p x) l.toArray l.length (by simp)
      rw [this]; simp
    rw [hf] at hL
    obtain ⟨rfl, hat⟩ := hL
    exact ⟨_, rfl, rfl, swk_kept S, .inr ⟨g, off, cap, sz, rfl, h, rfl, h.of_swk S (by simpa using hds) _ (by omega) hat⟩⟩
--@@ end
--@@ lock.row
def rowBs (P : Nat) (hv qv : Value) : List Nat := P :: (hv.ownBlock.toList ++ qv.ownBlock.toList)
structure RowIs (w : World) (P : Nat) (hv qv : Value) (r : Ro) : Prop where
  blk : w.heap[P]? = some (.cells #[hv, qv] 133 (0, 0))
  h : w.ownsRow 0 129 4 hv r.h.length (r.h.flatMap Wi.f)
  q : WRow 129 w qv r.q
  nd : (rowBs P hv qv).Nodup
theorem own_wrow {w : World} {v : Value} {l : List Wi} (h : w.ownsRow 0 129 4 v l.length (l.flatMap Wi.f)) : WRow 129 w v l := by
  rcases h.2 with ⟨rfl, hn⟩ | ⟨g, cap, cur, rfl, _, hg, hn, hc, hs, ht⟩
  · exact .inl ⟨rfl, List.eq_nil_of_length_eq_zero hn⟩
  · refine .inr ⟨g, 0, cap, cap * 4, rfl, ⟨cur, hg, hs, fun j u hj => ?_⟩, hn, by unfold maxLen at hc; omega, by omega⟩
    have := h.cells (g := g) rfl j u hj
    rw [Addr.add_lit, cell_of_row w g _ cur _ (0, 0) hg] at this
    exact this
theorem own_of_blk {w : World} {g cap : Nat} {l : List Wi} (h : BlkW 129 w g 0 cap (cap * 4) l) : w.ownsRow 0 129 4 (.slice (some ⟨g, 0, none⟩) l.length cap) l.length (l.flatMap Wi.f) := by
  obtain ⟨cur, h1, h2, h3⟩ := h.ex
  have hle := h.le
  refine ⟨wflat_len l, .inr ⟨g, cap, cur, rfl, Nat.zero_le _, h1, hle, by have := h.mx; unfold maxLen; omega, h2, ?_⟩⟩
  refine List.ext_getElem? fun j => ?_
  rw [List.getElem?_take]
  split
  · rename_i hj
    have hlt : j < (l.flatMap Wi.f).length := by rw [wflat_len]; exact hj
    have := h3 j _ (List.getElem?_eq_getElem hlt)
    rw [Nat.zero_add] at this
    rw [List.getElem?_eq_getElem hlt, Array.getElem?_toList]
    exact this
  · rename_i hj
    rw [List.getElem?_eq_none (by rw [wflat_len]; omega)]
theorem own_drop {w w' : World} {g cap off sz c0 : Nat} {l l' : List Wi} (h : w.ownsRow 0 129 4 (.slice (some ⟨g, off, none⟩) l.length c0) l.length (l.flatMap Wi.f)) (hb : BlkW 129 w g off cap sz l) (hc : c0 = cap) (hb' : BlkW 129 w' g off cap sz l') :
    w'.ownsRow 0 129 4 (.slice (some ⟨g, off, none⟩) l'.length cap) l'.length (l'.flatMap Wi.f) := by
  subst hc
  rcases h.2 with ⟨hv, _⟩ | ⟨g', cap', cur, hv, _, hg, hn, hm, hs, ht⟩
  · cases hv
  · cases hv
    obtain ⟨cur2, k1, k2, _⟩ := hb.ex
    rw [hg] at k1
    cases k1
    rw [hs] at k2
    subst k2
    exact own_of_blk hb'
theorem RowIs.kept {w w' : World} {P : Nat} {hv qv : Value} {r : Ro} {S : List Nat} (h : RowIs w P hv qv r) (hk : Kept S w w') (hS : ∀ x ∈ rowBs P hv qv, x ∉ S) : RowIs w' P hv qv r := by
  refine ⟨(hk.block P (Array.getElem?_eq_some_iff.1 h.blk).1 (hS P (by simp [rowBs]))).trans h.blk, ?_, h.q.kept hk (fun g hg => hS g (by simp [rowBs, hg])), h.nd⟩
  refine ⟨h.h.1, ?_⟩
  rcases h.h.2 with hn | ⟨g, cap, cur, hv', hb, hg, rest⟩
  · exact .inl hn
  · refine .inr ⟨g, cap, cur, hv', hb, ?_, rest⟩
    rw [hk.block g (Array.getElem?_eq_some_iff.1 hg).1 (hS g (by simp [rowBs, hv', Value.ownBlock]))]
    exact hg
theorem WRow.lt {T : TypeId} {w : World} {v : Value} {l : List Wi} (h : WRow T w v l) {g : Nat} (hg : v.ownBlock = some g) : g < w.heap.size := by
  rcases h with ⟨rfl, _⟩ | ⟨g', off, cap, sz, rfl, hb⟩
  · cases hg
  · cases hg; exact hb.lt
theorem RowIs.lt {w : World} {P : Nat} {hv qv : Value} {r : Ro} (h : RowIs w P hv qv r) : ∀ x ∈ rowBs P hv qv, x < w.heap.size := fun x hx => by
  simp only [rowBs, List.mem_cons, List.mem_append, Option.mem_toList] at hx
  rcases hx with rfl | hx | hx
  · exact (Array.getElem?_eq_some_iff.1 h.blk).1
  · exact (own_wrow h.h).lt hx
  · exact h.q.lt hx
theorem RowIs.c0 {w : World} {P : Nat} {hv qv : Value} {r : Ro} (h : RowIs w P hv qv r) : w.cell? ⟨P, 0, none⟩ = some hv ∧ w.cell? ⟨P, 1, none⟩ = some qv ∧ w.frozen? ⟨P, 0, none⟩ = false ∧ w.frozen? ⟨P, 1, none⟩ = false := by
  refine ⟨?_, ?_, ?_, ?_⟩ <;> simp [World.cell?, World.frozen?, h.blk]
theorem heldF {W : World} {b : Nat} {tx : Int} (h : W.cell? ⟨b, 0, none⟩ = some (.int .i64 tx)) (x : Wi) :
    Calls Tryz.prog 105 (#[.agg x.f.toArray] ++ #[.pointer (some ⟨b, 0, none⟩)]) W fun e w' => e = .returned (.bool (decide (x.tx = tx))) ∧ ∃ q os, w' = grow (W.drewN q) os := by
  obtain ⟨x1, x2, x3, x4⟩ := x
  simp only [Wi.f]
  have hb := World.block_lt_of_cell? W _ h
  dsimp only at hb
  have hne : W.heap.size ≠ b := by omega
  have hr : ((x1 : Int) == tx) = decide (x1 = tx) := by rw [Bool.eq_iff_iff]; simp
  go_enter Tryz.func105, Tryz.ntmps105
  go_wp2
  go_ret
  exact ⟨by first | rfl | (rw [hr]), 0, #[.cells #[.int .i64 x1, .bool x2, .int .i64 x3, .bool x4] 129], by rw [← alloc_eq_grow]; rfl⟩
theorem heldE : ∀ args w, (callFunc 105 args).run Tryz.prog w = .ok (.enter 105 args) w := enters_of Tryz.func105 (by kernel_rfl) rfl
def heldI (l : List Wi) (tx : Int) : Int := idxI (fun x => decide (x.tx = tx)) l
set_option maxHeartbeats 1000000 in
set_option maxRecDepth 100000 in
theorem held_any (P : Nat) (hv qv : Value) (r : Ro) (tx : Int) (w : World) (H : RowIs w P hv qv r) (hl : r.h.length < 1000000000000) :
    Calls Tryz.prog 80 #[.pointer (some ⟨P, 0, none⟩), .int .i64 tx] w fun e w' => e = .returned (.int .i64 (heldI r.h tx)) ∧ Kept [] w w' := by
  obtain ⟨c0, c1, _, _⟩ := H.c0
  have hP := H.lt P (by simp [rowBs])
  have HI := hid (windex_any hv r.h (w.alloc (.cells #[.int .i64 tx] 3)) ((own_wrow H.h).kept ((Kept.refl [] w).alloc _) (by simp)) 105 #[.pointer (some ⟨w.heap.size, 0, none⟩)] (fun x => decide (x.tx = tx)) heldE
    (fun W hk x => heldF (hk.cell (new_cell w [.int .i64 tx] 3 0 _ rfl) (fun hx => by
      have := H.lt w.heap.size (by simp only [rowBs, List.mem_cons, List.mem_append]; exact .inr (.inl hx))
      omega)) x) hl)
  have hne : w.heap.size ≠ P := by omega
  clear H
  go_enter Tryz.func80, Tryz.ntmps80
  go_wp2_with (first
    | (go_at_call 99; refine HI.out.mono ?_; rintro e w1 ⟨rfl, hk1⟩))
  go_returns
  exact ⟨rfl, ((Kept.refl [] w).alloc _).trans hk1 (fun x hx => by cases hx)⟩
--@@ end
theorem idxI_any (p : Wi → Bool) (l : List Wi) : decide (0 ≤ idxI p l) = l.any p := by
  unfold idxI
  cases h : l.findIdx? p with
  | none =>
    rw [List.findIdx?_eq_none_iff] at h
    have : l.any p = false := by simpa using h
    rw [this]; rfl
  | some i =>
    rw [List.findIdx?_eq_some_iff_getElem] at h
    obtain ⟨hi, h1, _⟩ := h
    have : l.any p = true := List.any_eq_true.2 ⟨_, List.getElem_mem hi, h1⟩
    rw [this]; simp
def barP (w : Wi) (x : Wi) : Bool := decide (x.tx ≠ w.tx) && (x.ex || w.ex)
theorem mayR_bar (h : List Wi) (w : Wi) : mayR h w = !h.any (barP w) := rfl
--@@ (*lock.row).may
theorem mayF {W : World} {b : Nat} {w : Wi} (h0 : W.cell? ⟨b, 0, none⟩ = some (.int .i64 w.tx)) (h1 : W.cell? ⟨b, 1, none⟩ = some (.bool w.ex)) (x : Wi) :
    Calls Tryz.prog 97 (#[.agg x.f.toArray] ++ #[.pointer (some ⟨b, 0, none⟩)]) W fun e w' => e = .returned (.bool (barP w x)) ∧ ∃ q os, w' = grow (W.drewN q) os := by
  obtain ⟨x1, x2, x3, x4⟩ := x
  obtain ⟨w1, w2, w3, w4⟩ := w
  simp only [Wi.f, barP]
  dsimp only at h0 h1
  have hb := World.block_lt_of_cell? W _ h0
  dsimp only at hb
  have hne : W.heap.size ≠ b := by omega
  have hw : ∃ q os, W.alloc (.cells #[.int .i64 x1, .bool x2, .int .i64 x3, .bool x4] 129) = grow (W.drewN q) os := ⟨0, #[.cells #[.int .i64 x1, .bool x2, .int .i64 x3, .bool x4] 129], by rw [← alloc_eq_grow]; rfl⟩
  have HW := hid hw
  clear hw
  by_cases hx : x1 = w1
  · have hr : ((x1 : Int) != w1) = false := by simp [hx]
    have hd : decide (x1 ≠ w1) = false := by simp [hx]
    rw [hd]
    clear hx hd
    go_enter Tryz.func97, Tryz.ntmps97
    go_wp2
    go_ret
    exact ⟨rfl, HW.out⟩
  · have hr : ((x1 : Int) != w1) = true := by simp [hx]
    have hd : decide (x1 ≠ w1) = true := by simp [hx]
    rw [hd]
    clear hx hd
    cases x2 with
    | true =>
      go_enter Tryz.func97, Tryz.ntmps97
      go_wp2
      go_ret
      exact ⟨rfl, HW.out⟩
    | false =>
      go_enter Tryz.func97, Tryz.ntmps97
      go_wp2
      go_ret
      exact ⟨rfl, HW.out⟩
theorem mayE : ∀ args w, (callFunc 97 args).run Tryz.prog w = .ok (.enter 97 args) w := enters_of Tryz.func97 (by kernel_rfl) rfl
set_option maxHeartbeats 1000000 in
set_option maxRecDepth 100000 in
theorem wcontains_any (v : Value) (l : List Wi) (w : World) (hv : WRow 129 w v l) (gf : Nat) (cb : Array Value) (p : Wi → Bool)
    (eg : ∀ args w, (callFunc gf args).run Tryz.prog w = .ok (.enter gf args) w)
    (hp : ∀ W, Kept v.ownBlock.toList w W → ∀ x : Wi, Calls Tryz.prog gf (#[.agg x.f.toArray] ++ cb) W fun e w' => e = .returned (.bool (p x)) ∧ ∃ q os, w' = grow (W.drewN q) os) (hl : l.length < 1000000000000) :
    Calls Tryz.prog 98 #[v, .func (.func gf) #[] cb] w fun e w' => e = .returned (.bool (l.any p)) ∧ Kept [] w w' := by
  have HI := hid (windex_any v l w hv gf cb p eg hp hl)
  have hi := idxI_any p l
  generalize idxI p l = n at HI hi
  rw [← hi]
  clear hp eg hv hi
  go_enter Tryz.func98, Tryz.ntmps98
  go_wp2_with (first
    | (go_at_call 99; refine HI.out.mono ?_; rintro e w1 ⟨rfl, hk1⟩))
  go_returns
  exact ⟨rfl, hk1⟩
set_option maxHeartbeats 1000000 in
set_option maxRecDepth 100000 in
theorem may_any (P : Nat) (hv qv : Value) (r : Ro) (x : Wi) (w : World) (H : RowIs w P hv qv r) (hl : r.h.length < 1000000000000) :
    Calls Tryz.prog 70 #[.pointer (some ⟨P, 0, none⟩), x.v] w fun e w' => e = .returned (.bool (mayR r.h x)) ∧ Kept [] w w' := by
  obtain ⟨c0, c1, _, _⟩ := H.c0
  have hP := H.lt P (by simp [rowBs])
  have hnb : w.heap.size ∉ hv.ownBlock.toList := fun hx => by
    have := H.lt w.heap.size (by simp only [rowBs, List.mem_cons, List.mem_append]; exact .inr (.inl hx))
    omega
  have HI := hid (wcontains_any hv r.h (w.alloc (.cells x.f.toArray 129)) ((own_wrow H.h).kept ((Kept.refl [] w).alloc _) (by simp)) 97 #[.pointer (some ⟨w.heap.size, 0, none⟩)] (barP x) mayE
    (fun W hk y => mayF (w := x) (hk.cell (new_cell w x.f 129 0 _ rfl) hnb) (hk.cell (new_cell w x.f 129 1 _ rfl) hnb) y) hl)
  rw [mayR_bar]
  generalize r.h.any (barP x) = rr at HI
  obtain ⟨x1, x2, x3, x4⟩ := x
  simp only [Wi.v]
  simp only [Wi.f] at HI
  have hne : w.heap.size ≠ P := by omega
  clear H hnb
  go_enter Tryz.func70, Tryz.ntmps70
  go_wp2_with (first
    | (go_at_call 98; refine HI.out.mono ?_; rintro e w1 ⟨rfl, hk1⟩))
  go_returns
  exact ⟨rfl, ((Kept.refl [] w).alloc _).trans hk1 (fun x hx => by cases hx)⟩
--@@ lock.drop
theorem dropF {W : World} {b : Nat} {tx : Int} (h : W.cell? ⟨b, 0, none⟩ = some (.int .i64 tx)) (x : Wi) :
    Calls Tryz.prog 112 (#[.agg x.f.toArray] ++ #[.pointer (some ⟨b, 0, none⟩)]) W fun e w' => e = .returned (.bool (decide (x.tx = tx))) ∧ ∃ q os, w' = grow (W.drewN q) os := by
  obtain ⟨x1, x2, x3, x4⟩ := x
  simp only [Wi.f]
  have hb := World.block_lt_of_cell? W _ h
  dsimp only at hb
  have hne : W.heap.size ≠ b := by omega
  have hr : ((x1 : Int) == tx) = decide (x1 = tx) := by rw [Bool.eq_iff_iff]; simp
  go_enter Tryz.func112, Tryz.ntmps112
  go_wp2
  go_ret
  exact ⟨by first | rfl | (rw [hr]), 0, #[.cells #[.int .i64 x1, .bool x2, .int .i64 x3, .bool x4] 129], by rw [← alloc_eq_grow]; rfl⟩
theorem dropE : ∀ args w, (callFunc 112 args).run Tryz.prog w = .ok (.enter 112 args) w := enters_of Tryz.func112 (by kernel_rfl) rfl
theorem dropR_eq (l : List Wi) (tx : Int) : dropR l tx = l.filter fun x => !decide (x.tx = tx) := by
  unfold dropR
  congr 1
  funext x
  by_cases h : x.tx = tx <;> simp [h]
set_option maxHeartbeats 1000000 in
set_option maxRecDepth 100000 in
theorem drop_any (v : Value) (l : List Wi) (tx : Int) (w : World) (hv : WRow 129 w v l) (hl : l.length < 1000000000000) :
    Calls Tryz.prog 92 #[v, .int .i64 tx] w fun e w' => ∃ v', e = .returned v' ∧ v'.ownBlock = v.ownBlock ∧ Kept v.ownBlock.toList w w' ∧
      ((v = .slice none 0 0 ∧ v' = .slice none 0 0 ∧ l = []) ∨ ∃ g off cap sz, v = .slice (some ⟨g, off, none⟩) l.length cap ∧ BlkW 129 w g off cap sz l ∧ v' = .slice (some ⟨g, off, none⟩) (dropR l tx).length cap ∧ BlkW 129 w' g off cap sz (dropR l tx)) := by
  rw [dropR_eq]
  have hnb : w.heap.size ∉ v.ownBlock.toList := fun hx => by
    have := hv.lt (by simpa using hx)
    omega
  have HI := hid (wdel_any v l (w.alloc (.cells #[.int .i64 tx] 3)) (hv.kept ((Kept.refl [] w).alloc _) (by simp)) 112 #[.pointer (some ⟨w.heap.size, 0, none⟩)] (fun x => decide (x.tx = tx)) dropE
    (fun W hk x => dropF (hk.cell (new_cell w [.int .i64 tx] 3 0 _ rfl) hnb) x) hl)
  have HV := hid hv
  clear hv hnb
  go_enter Tryz.func92, Tryz.ntmps92
  go_wp2_with (first
    | (go_at_call 111; refine HI.out.mono ?_; rintro e w1 ⟨v', rfl, hb, hk1, hd⟩))
  go_returns
  refine ⟨v', rfl, hb, ((Kept.refl _ w).alloc _).trans hk1 (fun x hx => .inl hx), ?_⟩
  rcases hd with h1 | ⟨g, off, cap, sz, h1, h2, h3, h4⟩
  · exact .inl h1
  · refine .inr ⟨g, off, cap, sz, h1, ?_, h3, h4⟩
    obtain ⟨cur, k1, k2, k3⟩ := h2.ex
    have hlt : g < w.heap.size := HV.out.lt (by rw [h1]; rfl)
    exact ⟨⟨cur, by rw [← k1]; exact (heap_alloc_old w _ hlt).symm, k2, k3⟩, h2.le, h2.mx, h2.fit⟩
--@@ end
theorem two_cells {w : World} {B : Nat} {t : TypeId} {x y : Value} (hb : w.heap[B]? = some (.cells #[x, y] t (0, 0))) :
    w.cell? ⟨B, 0, none⟩ = some x ∧ w.cell? ⟨B, 1, none⟩ = some y ∧ w.frozen? ⟨B, 0, none⟩ = false ∧ w.frozen? ⟨B, 1, none⟩ = false := by
  refine ⟨?_, ?_, ?_, ?_⟩ <;> simp [World.cell?, World.frozen?, hb]
theorem set1 {w : World} {B : Nat} {t : TypeId} {fr : Nat × Nat} {x y : Value} (hb : w.heap[B]? = some (.cells #[x, y] t fr)) (x' : Value) :
    (w.setCell ⟨B, 0, none⟩ x').heap[B]? = some (.cells #[x', y] t fr) := by
  simp [World.setCell, Array.getElem?_modify, hb]
theorem setq {w : World} {B : Nat} {t : TypeId} {fr : Nat × Nat} {x y : Value} (hb : w.heap[B]? = some (.cells #[x, y] t fr)) (y' : Value) :
    (w.setCell ⟨B, 1, none⟩ y').heap[B]? = some (.cells #[x, y'] t fr) := by
  simp [World.setCell, Array.getElem?_modify, hb]
theorem flat_setEx : ∀ (l : List Wi) (i : Nat), i < l.length → (l.flatMap Wi.f).set (i * 4 + 1) (.bool true) = (l.modify i setEx).flatMap Wi.f
  | x :: l, 0, _ => by
    obtain ⟨x1, x2, x3, x4⟩ := x
    simp [Wi.f, setEx]
  | x :: l, i + 1, h => by
    have ih := flat_setEx l i (by simpa using h)
    simp only [List.flatMap_cons, List.modify_succ_cons]
    rw [List.set_append, if_neg (by rw [wf_len]; omega), wf_len, show (i + 1) * 4 + 1 - 4 = i * 4 + 1 by omega, ih]
theorem own_kept {S : List Nat} {w w' : World} {base n size : Nat} {e : TypeId} {v : Value} {xs : List Value} (h : w.ownsRow base e size v n xs) (hk : Kept S w w') (hS : ∀ x, v.ownBlock = some x → x ∉ S) : w'.ownsRow base e size v n xs := by
  refine ⟨h.1, ?_⟩
  rcases h.2 with hn | ⟨g, cap, cur, hv', hb, hg, rest⟩
  · exact .inl hn
  · refine .inr ⟨g, cap, cur, hv', hb, ?_, rest⟩
    rw [hk.block g (Array.getElem?_eq_some_iff.1 hg).1 (hS g (by rw [hv']; rfl))]
    exact hg
theorem wish_cells {w : World} {l : List Wi} {b off k : Nat} (h : ∀ j u, (l.flatMap Wi.f)[j]? = some u → w.cell? ⟨b, off + j, none⟩ = some u) (hk : k < l.length) :
    w.cell? ⟨b, off + k * 4, none⟩ = some (.int .i64 l[k].tx) ∧ w.cell? ⟨b, off + k * 4 + 1, none⟩ = some (.bool l[k].ex) ∧ w.cell? ⟨b, off + k * 4 + 2, none⟩ = some (.int .i64 l[k].since) ∧ w.cell? ⟨b, off + k * 4 + 3, none⟩ = some (.bool l[k].ri) := by
  have key : ∀ j u, j < 4 → (l[k].f)[j]? = some u → w.cell? ⟨b, off + (k * 4 + j), none⟩ = some u := fun j u hj hu =>
    h _ u (by rw [flatMap_get Wi.f (c := 4) (fun _ => rfl) l k j l[k] (by simp [hk]) hj]; exact hu)
  exact ⟨key 0 _ (by omega) rfl, key 1 _ (by omega) rfl, key 2 _ (by omega) rfl, key 3 _ (by omega) rfl⟩
--@@ (*lock.row).grant
theorem grant_end {w w1 w2 : World} {P g2 c2 : Nat} {hv qv : Value} {r : Ro} {x : Wi} (HR : RowIs w1 P hv qv r) (hPw : P < w1.heap.size) (hK1 : Kept (P :: hv.ownBlock.toList) w w1)
    (hown2 : w2.ownsRow 0 129 4 (.slice (some ⟨g2, 0, none⟩) (r.h.length + 1) c2) (r.h.length + 1) (r.h.flatMap Wi.f ++ x.f)) (hk2 : Kept hv.ownBlock.toList w1 w2) (hb2 : w2.heap[P]? = some (.cells #[hv, qv] 133 (0, 0)))
    (hg2 : g2 ∈ hv.ownBlock.toList ∨ w1.heap.size ≤ g2) (hs : w.heap.size ≤ w1.heap.size) :
    (Ending.returned (.tuple #[]) : Ending) = .returned (.tuple #[]) ∧ ∃ hv', RowIs (w2.setCell ⟨P, 0, none⟩ (.slice (some ⟨g2, 0, none⟩) (r.h.length + 1) c2)) P hv' qv ⟨r.h ++ [x], r.q⟩ ∧ (∀ b ∈ rowBs P hv' qv, b ∈ rowBs P hv qv ∨ w.heap.size ≤ b) ∧ Kept (P :: hv.ownBlock.toList) w (w2.setCell ⟨P, 0, none⟩ (.slice (some ⟨g2, 0, none⟩) (r.h.length + 1) c2)) := by
  have hnd := HR.nd
  simp only [rowBs, List.nodup_cons, List.mem_append, not_or, List.nodup_append] at hnd
  have hgP : g2 ≠ P := fun e => by
    subst e
    rcases hg2 with h | h
    · exact hnd.1.1 h
    · omega
  have hgq : g2 ∉ qv.ownBlock.toList := fun hq => by
    rcases hg2 with h | h
    · exact hnd.2.2.2 g2 h g2 hq rfl
    · have := HR.q.lt (by simpa using hq); omega
  refine ⟨rfl, _, ⟨set1 hb2 _, ?_, ?_, ?_⟩, ?_, ?_⟩
  · show World.ownsRow _ _ _ _ _ _ _
    have := own_kept hown2 ((Kept.refl [P] w2).setCell (p := ⟨P, 0, none⟩) (.inl (by simp)) (.slice (some ⟨g2, 0, none⟩) (r.h.length + 1) c2)) (fun y hy => by cases hy; simpa using hgP)
    simpa using this
  · refine WRow.kept (HR.q.kept hk2 (fun y hy hx => hnd.2.2.2 y hx y (by simpa using hy) rfl)) ((Kept.refl [P] w2).setCell (p := ⟨P, 0, none⟩) (.inl (by simp)) _) (fun y hy hx => ?_)
    simp at hx
    subst hx
    exact hnd.1.2 (by simpa using hy)
  · simp only [rowBs, List.nodup_cons, List.mem_append, not_or, List.nodup_append, Value.ownBlock, Option.toList_some, List.mem_singleton]
    exact ⟨⟨fun e => hgP e.symm, hnd.1.2⟩, by simp, hnd.2.2.1, fun a ha b hb e => by subst ha; subst e; exact hgq hb⟩
  · intro b hb
    simp only [rowBs, Value.ownBlock, Option.toList_some, List.mem_cons, List.mem_append, List.not_mem_nil, or_false] at hb ⊢
    rcases hb with rfl | rfl | hb
    · exact .inl (.inl rfl)
    · rcases hg2 with h | h
      · exact .inl (.inr (.inl h))
      · exact .inr (by omega)
    · exact .inl (.inr (.inr hb))
  · refine Kept.setCell (hK1.trans hk2 (fun y hy => .inl (List.mem_cons_of_mem _ hy))) (.inl (by simp)) _
theorem wishInfo : (Tryz.prog.info? 129).map (fun i => (i.zero, i.size, i.bytes)) = some (some (.agg #[.int .i64 0, .bool false, .int .i64 0, .bool false]), 4, 32) := by kernel_rfl
set_option maxHeartbeats 4000000 in
set_option maxRecDepth 100000 in
theorem grant_any (P : Nat) (hv qv : Value) (r : Ro) (x : Wi) (w : World) (H : RowIs w P hv qv r) (hl : r.h.length < 1000000000) :
    Calls Tryz.prog 71 #[.pointer (some ⟨P, 0, none⟩), x.v] w fun e w' => e = .returned (.tuple #[]) ∧ ∃ hv', RowIs w' P hv' qv ⟨grantR r.h x, r.q⟩ ∧ (∀ b ∈ rowBs P hv' qv, b ∈ rowBs P hv qv ∨ w.heap.size ≤ b) ∧ Kept (P :: hv.ownBlock.toList) w w' := by
  have hP := H.lt P (by simp [rowBs])
  have hne : w.heap.size ≠ P := by omega
  have HF := hid wishInfo
  have hlts := H.lt
  have HLT := hid hlts
  have hxb : ∀ y ∈ rowBs P hv qv, y ≠ w.heap.size := fun y hy e => by have := hlts y hy; omega
  have HXB := hid hxb
  clear hlts hxb
  have H1 := hid (H.kept ((Kept.refl [] w).alloc (.cells x.f.toArray 129)) (fun _ _ => by simp))
  have HH := hid (held_any P hv qv r x.tx (w.alloc (.cells x.f.toArray 129)) H1.out (by omega))
  have HX := hid (fun W (hk : Kept [] (w.alloc (.cells x.f.toArray 129)) W) j u h => hk.cell (new_cell w x.f 129 j u h) (by simp))
  have hgr : grantR r.h x = match heldAt r.h x.tx with
    | some i => r.h.modify i setEx
    | none => r.h ++ [x] := rfl
  have hhi : heldI r.h x.tx = match heldAt r.h x.tx with
    | none => -1
    | some i => (i : Int) := rfl
  cases hh : heldAt r.h x.tx with
  | some i =>
    rw [hh] at hgr hhi
    obtain ⟨hi, _, _⟩ := heldAt_some hh
    rw [hgr]
    rw [hhi] at HH
    clear hgr hhi hh
    rcases H.h.2 with ⟨_, hn⟩ | ⟨g, cap, cur, rfl, _⟩
    · omega
    have HG := hid (fun W (hk : Kept [] (w.alloc (.cells x.f.toArray 129)) W) => H1.out.kept hk (fun _ _ => by simp))
    have hgP : g ≠ P := fun e => by have := H.nd; subst e; simp [rowBs, Value.ownBlock] at this
    have hgq : g ∉ qv.ownBlock.toList := fun hx => by
      have := H.nd
      simp only [rowBs, Value.ownBlock, Option.toList_some, List.cons_append, List.nil_append, List.nodup_cons] at this
      exact this.2.1 hx
    have hgs : g < w.heap.size := HLT.out g (by simp [rowBs, Value.ownBlock])
    have HGQ := hid hgq
    clear H H1 hgq
    have hiz : (i : Int) < (r.h.length : Int) := by omega
    obtain ⟨x1, x2, x3, x4⟩ := x
    simp only [Wi.v]
    simp only [Wi.f] at HH HX HG
    go_enter Tryz.func71, Tryz.ntmps71
    go_wp2_with (first
      | (go_at_call 80; refine HH.out.mono ?_; clear HH; rintro e w1 ⟨rfl, hk1⟩; have HR := hid (HG.out w1 hk1); obtain ⟨c0, c1, f0, f1⟩ := HR.out.c0; have hcell := wish_cells (fun j u hj => by have := HR.out.h.cells (g := g) rfl j u hj; rw [Addr.add_lit] at this; exact this) hi; simp only [Nat.zero_add] at hcell; obtain ⟨d0, d1, d2, d3⟩ := hcell; have hfz : w1.frozen? ⟨g, i * 4 + 1, none⟩ = false := (by obtain ⟨g', cap', cur', hv', _, hb', _⟩ := HR.out.h.2.resolve_left (fun h => by cases h.1); cases hv'; simp [World.frozen?, hb']); have HK1 := hid (Kept.trans ((Kept.refl (P :: (Value.slice (some ⟨g, 0, none⟩) r.h.length cap).ownBlock.toList) w).alloc _) hk1 (fun x hx => by cases hx)); clear hk1))
    go_returns
    refine ⟨rfl, _, ⟨?_, ?_, ?_, ?_⟩, fun b hb => .inl hb, HK1.out.setCell (.inl (by simp [Value.ownBlock])) _⟩
    · rw [← HR.out.blk]
      exact Below.heap_setCell _ _ _ _ (by exact fun e => hgP e.symm)
    · show World.ownsRow _ _ _ _ _ _ _
      rw [List.length_modify, ← flat_setEx _ _ hi]
      exact ownsRow_set HR.out.h _ _ (by rw [wflat_len]; omega)
    · exact HR.out.q.kept ((Kept.refl [g] w1).setCell (.inl (by simp)) _) (fun y hy => by
        have := HGQ.out
        rw [hy] at this
        simp at this
        simp
        exact fun e => this e.symm)
    · exact HR.out.nd
  | none =>
    rw [hh] at hgr hhi
    rw [hgr]
    rw [hhi] at HH
    clear hgr hhi hh
    have HG := hid (fun W (hk : Kept [] (w.alloc (.cells x.f.toArray 129)) W) => H1.out.kept hk (fun _ _ => by simp))
    obtain ⟨ha, hc, rfl⟩ := ownsRow_slice H.h
    clear H H1
    obtain ⟨x1, x2, x3, x4⟩ := x
    simp only [Wi.v]
    simp only [Wi.f] at HH HX HG
    go_enter Tryz.func71, Tryz.ntmps71
    go_wp2_with (first
      | (go_at_call 80; refine HH.out.mono ?_; clear HH; rintro e w1 ⟨rfl, hk1⟩; have HR := hid (HG.out w1 hk1); obtain ⟨c0, c1, f0, f1⟩ := HR.out.c0; have z0 := HX.out w1 hk1 0 _ rfl; have z1 := HX.out w1 hk1 1 _ rfl; have z2 := HX.out w1 hk1 2 _ rfl; have z3 := HX.out w1 hk1 3 _ rfl; have HK1 := hid (Kept.trans ((Kept.refl (P :: (Value.slice ha r.h.length hc).ownBlock.toList) w).alloc _) hk1 (fun x hx => by cases hx)); have hs1 := hk1.size; clear hk1))
    have hPw : P < w1.heap.size := by simp at hs1; omega
    have HPn := hid (show P ∉ (Value.slice ha r.h.length hc).ownBlock.toList from fun hx => by
      have := HR.out.nd
      simp only [rowBs, List.nodup_cons, List.mem_append] at this
      exact this.1 (.inl hx))
    go_wp2_with fail
    go_region_law ((rw [if_pos (by rfl)]; refine wp_append_ow (.tmp 22) (.tmp 24) 131 rfl 129 (.agg #[.int .i64 0, .bool false, .int .i64 0, .bool false]) 4 32 Tryz.underlying131 HF.out rfl (by decide) (by decide) 0 (.slice ha r.h.length hc) r.h.length (r.h.flatMap Wi.f) rfl (own_kept HR.out.h (((Kept.refl [] w1).drew).alloc (.cells (Wi.f ⟨x1, x2, x3, x4⟩).toArray 129)) (fun _ _ => List.not_mem_nil)) ⟨w1.heap.size, 0, none⟩ 1 1 (Wi.f ⟨x1, x2, x3, x4⟩) rfl rfl (fun j u h => cells_new w1.drew (Wi.f ⟨x1, x2, x3, x4⟩) 129 j u h) (wf_one _) (by decide) (by omega) (Nat.zero_le _) ?_; intro g2 c2 w2 hown2 hgr2 hwh2; have hk2 : Kept (Value.slice ha r.h.length hc).ownBlock.toList w1 w2 := Kept.trans (((Kept.refl _ w1).drew).alloc _) (Kept.of_grown hgr2 _ (fun k hk => by simpa using hk)) (fun x hx => .inl hx); have hPn : P ∉ (Value.slice ha r.h.length hc).ownBlock.toList := HPn.out; have hb2 := (hk2.block P hPw hPn).trans HR.out.blk; obtain ⟨c0', c1', f0', f1'⟩ := two_cells hb2))
    all_goals go_returns
    all_goals
      have hg2 : g2 ∈ (Value.slice ha r.h.length hc).ownBlock.toList ∨ w1.heap.size ≤ g2 := by
        rcases hwh2 with h | h
        · exact .inl (by simpa using h)
        · exact .inr (by rw [h]; simp)
      exact grant_end HR.out hPw HK1.out hown2 hk2 hb2 hg2 (by simp at hs1; omega)
--@@ end
theorem onR_nil (h : List Wi) : onR h [] = (h, []) := by unfold onR; rfl
theorem onR_go {h : List Wi} {x : Wi} {qs : List Wi} (hm : mayR h x = true) : onR h (x :: qs) = onR (grantR h x) qs := by rw [onR, if_pos hm]
theorem onR_stop {h : List Wi} {x : Wi} {qs : List Wi} (hm : mayR h x = false) : onR h (x :: qs) = (h, x :: qs) := by rw [onR, if_neg (by simp [hm])]
theorem grantR_len (h : List Wi) (w : Wi) : (grantR h w).length ≤ h.length + 1 := by
  unfold grantR
  split
  · simp
  · simp
theorem BlkW.tail {T : TypeId} {w : World} {g off cap sz : Nat} {x : Wi} {qs : List Wi} (h : BlkW T w g off cap sz (x :: qs)) : BlkW T w g (off + 4) (cap - 1) sz qs := by
  obtain ⟨cur, h1, h2, h3⟩ := h.ex
  have hle := h.le
  have hfit := h.fit
  simp only [List.length_cons] at hle
  refine ⟨⟨cur, h1, h2, fun j u hj => ?_⟩, by omega, by have := h.mx; omega, by omega⟩
  have := h3 (4 + j) u (by rw [List.flatMap_cons, List.getElem?_append_right (by rw [wf_len]; omega), wf_len, Nat.add_sub_cancel_left]; exact hj)
  rw [← this, Nat.add_assoc]
theorem BlkW.nil0 {T : TypeId} {w : World} {g off cap sz : Nat} {l : List Wi} (h : BlkW T w g off cap sz l) : BlkW T w g off 0 sz [] := by
  obtain ⟨cur, h1, h2, h3⟩ := h.ex
  exact ⟨⟨cur, h1, h2, fun j u hj => by simp at hj⟩, by simp, by omega, by have := h.fit; omega⟩
--@@ (*lock.row).on
theorem row_setq {w : World} {P : Nat} {hv qv qv' : Value} {h q qs : List Wi} (H : RowIs w P hv qv ⟨h, q⟩) (hq : WRow 129 w qv' qs) (ho : qv'.ownBlock = qv.ownBlock) : RowIs (w.setCell ⟨P, 1, none⟩ qv') P hv qv' ⟨h, qs⟩ := by
  have hnd := H.nd
  have hnd' := hnd
  simp only [rowBs, List.nodup_cons, List.mem_append, not_or] at hnd
  refine ⟨setq H.blk _, own_kept H.h ((Kept.refl [P] w).setCell (p := ⟨P, 1, none⟩) (.inl (by simp)) qv') (fun y hy hx => ?_), hq.kept ((Kept.refl [P] w).setCell (p := ⟨P, 1, none⟩) (.inl (by simp)) qv') (fun y hy hx => ?_), by unfold rowBs at hnd' ⊢; rw [ho]; exact hnd'⟩
  · simp at hx; subst hx; exact hnd.1.1 (by simpa using hy)
  · simp at hx; subst hx; rw [ho] at hy; exact hnd.1.2 (by simpa using hy)
set_option maxHeartbeats 4000000 in
set_option maxRecDepth 100000 in
theorem rowOn_any (P : Nat) (hv qv : Value) (r : Ro) (w : World) (H : RowIs w P hv qv r) (hl : r.h.length + r.q.length < 100000000) :
    Calls Tryz.prog 113 #[.pointer (some ⟨P, 0, none⟩)] w fun e w' => e = .returned (.tuple #[]) ∧ ∃ hv' qv', RowIs w' P hv' qv' ⟨(onR r.h r.q).1, (onR r.h r.q).2⟩ ∧ (∀ b ∈ rowBs P hv' qv', b ∈ rowBs P hv qv ∨ w.heap.size ≤ b) ∧ Kept (rowBs P hv qv) w w' ∧ WRow 129 w' qv r.q := by
  have H0 := hid H
  have HLT := hid H.lt
  have HND := hid H.nd
  obtain ⟨rh, rq⟩ := r
  dsimp only at *
  clear H
  go_enter Tryz.func113, Tryz.ntmps113
  go_wp2_with fail
  go_loopg [] rq.length (fun kx wr => ∃ hv' qv' h' qs, qs.length ≤ kx ∧ h'.length + qs.length ≤ rh.length + rq.length ∧ Aside (RowIs wr P hv' qv' ⟨h', qs⟩) ∧ Aside (onR rh rq = onR h' qs) ∧ Aside (∀ b ∈ rowBs P hv' qv', b ∈ rowBs P hv qv ∨ w.heap.size ≤ b) ∧ Aside (Kept (rowBs P hv qv) w wr) ∧ Aside (WRow 129 wr qv rq) ∧ Aside (∀ b ∈ qv.ownBlock.toList, b ∉ P :: hv'.ownBlock.toList))
  case atStart => exact ⟨hv, qv, rh, rq, Nat.le_refl _, Nat.le_refl _, H0.out, rfl, fun b hb => .inl hb, Kept.refl _ _, H0.out.q, fun b hb hx => by
    have := HND.out
    simp only [rowBs, List.nodup_cons, List.mem_append, not_or, List.nodup_append] at this
    rcases List.mem_cons.1 hx with rfl | hx
    · exact this.1.2 hb
    · exact this.2.2.2 b hx b hb rfl⟩
  case round =>
    obtain ⟨hv', qv', h', qs, hqs, hln, HR, HON, HSub, HK, HQ, HDj⟩ := hrel
    obtain ⟨c0, c1, f0, f1⟩ := HR.out.c0
    cases qs with
    | nil =>
      rcases HR.out.q with ⟨rfl, _⟩ | ⟨g, off, cap, sz, rfl, hb⟩
      · go_wp2_with fail
        go_returns
        exact ⟨rfl, _, _, by rw [HON.out, onR_nil]; exact HR.out, HSub.out, HK.out, HQ.out⟩
      · go_wp2_with fail
        go_returns
        exact ⟨rfl, _, _, by rw [HON.out, onR_nil]; exact HR.out, HSub.out, HK.out, HQ.out⟩
    | cons x qs =>
      rcases HR.out.q with ⟨_, hnil⟩ | ⟨g, off, cap, sz, rfl, hb⟩
      · cases hnil
      have hcell := wish_cells (fun j u hj => hb.cell hj) (show 0 < (x :: qs).length by simp)
      simp only [Nat.zero_mul, Nat.add_zero, List.getElem_cons_zero] at hcell
      obtain ⟨d0, d1, d2, d3⟩ := hcell
      have HBk := hid hb
      have hmx := hb.mx
      have hfit := hb.fit
      have hle := hb.le
      clear hb
      have HM := hid (may_any P hv' _ ⟨h', x :: qs⟩ x wr HR.out (by simp at hln ⊢; omega))
      dsimp only at HM
      cases hm : mayR h' x with
      | false =>
        rw [hm] at HM
        have HST := hid (onR_stop (qs := qs) hm)
        clear hm
        obtain ⟨x1, x2, x3, x4⟩ := x
        simp only [Wi.v] at HM
        dsimp only at d0 d1 d2 d3
        go_wp2_with (first
          | (go_at_call 70; refine HM.out.mono ?_; clear HM; rintro e w2 ⟨rfl, hk2⟩; have HK2 := hid hk2; clear hk2 c0 c1 f0 f1 d0 d1 d2 d3))
        go_returns
        exact ⟨rfl, _, _, by rw [HON.out, HST.out]; exact HR.out.kept HK2.out (fun _ _ => by simp), HSub.out, HK.out.trans HK2.out (fun x hx => by cases hx), HQ.out.kept HK2.out (fun _ _ => by simp)⟩
      | true =>
        rw [hm] at HM
        have HGO := hid (onR_go (qs := qs) hm)
        clear hm
        obtain ⟨x1, x2, x3, x4⟩ := x
        simp only [Wi.v] at HM
        dsimp only at d0 d1 d2 d3 HR HSub c1 hle
        simp only [List.length_cons] at c1 hle HR HSub hln
        by_cases hc1 : cap = 1
        · subst hc1
          have hq0 : qs = [] := List.eq_nil_of_length_eq_zero (by omega)
          subst hq0
          go_wp2_with (first
            | (go_at_call 70; refine HM.out.mono ?_; clear HM; rintro e w2 ⟨rfl, hk2⟩; have HR2 := hid (HR.out.kept hk2 (fun _ _ => by simp)); have HB2 := hid (HBk.out.kept hk2 (by simp)); have HQ2 := hid (HQ.out.kept hk2 (fun _ _ => by simp)); clear c0 c1 f0 f1 d0 d1 d2 d3; obtain ⟨c0, c1, f0, f1⟩ := HR2.out.c0; have hcell := wish_cells (fun j u hj => HB2.out.cell hj) (show 0 < [Wi.mk x1 x2 x3 x4].length by simp); simp only [Nat.zero_mul, Nat.add_zero, List.getElem_cons_zero] at hcell; obtain ⟨d0, d1, d2, d3⟩ := hcell; have HK2 := hid (HK.out.trans hk2 (fun x hx => by cases hx)); have hs2 := hk2.size; have hPl := HR2.out.lt P (by simp [rowBs]); have hPne : w2.heap.size ≠ P := (by omega); clear hk2)
            | (go_at_call 71; refine (grant_any P hv' (.slice (some ⟨g, off, none⟩) ([] : List Wi).length 0) ⟨h', ([] : List Wi)⟩ ⟨x1, x2, x3, x4⟩ _ ((row_setq HR2.out (.inr ⟨g, off, 0, sz, rfl, HB2.out.nil0⟩) rfl).kept ((Kept.refl [] _).alloc (.cells (Wi.f ⟨x1, x2, x3, x4⟩).toArray 129)) (fun _ _ => by simp)) (by simp at hln ⊢; omega)).mono ?_; rintro e w4 ⟨rfl, hv4, HR4, hsub4, hk4⟩; have HRR := hid HR4; have HS4 := hid hsub4; have HK4 := hid hk4; clear HR4 hsub4 hk4 c0 c1 f0 f1 d0 d1 d2 d3))
          go_roundg ([] : List Wi).length
          case measure => simp at hqs ⊢; try omega
          case rel =>
            have hk3 := ((HK2.out.setCell (p := ⟨P, 1, none⟩) (.inl (by simp [rowBs])) (.slice (some ⟨g, off, none⟩) ([] : List Wi).length 0)).alloc (.cells (Wi.f ⟨x1, x2, x3, x4⟩).toArray 129))
            have hsz : w2.heap.size + 1 = ((w2.setCell ⟨P, 1, none⟩ (.slice (some ⟨g, off, none⟩) ([] : List Wi).length 0)).alloc (.cells (Wi.f ⟨x1, x2, x3, x4⟩).toArray 129)).heap.size := by simp
            have hq3 := (HQ2.out.kept ((Kept.refl [P] _).setCell (p := ⟨P, 1, none⟩) (.inl (by simp)) (.slice (some ⟨g, off, none⟩) ([] : List Wi).length 0)) (fun y hy hx => by simp at hx; subst hx; exact HDj.out y (by simpa using hy) (by simp))).kept ((Kept.refl [] _).alloc (.cells (Wi.f ⟨x1, x2, x3, x4⟩).toArray 129)) (fun _ _ => by simp)
            have hsub : ∀ b ∈ rowBs P hv' (.slice (some ⟨g, off, none⟩) ([] : List Wi).length 0), b ∈ rowBs P hv qv ∨ w.heap.size ≤ b := HSub.out
            have hw := HK2.out.size
            refine ⟨hv4, _, grantR h' ⟨x1, x2, x3, x4⟩, ([] : List Wi), Nat.le_refl _, by have := grantR_len h' ⟨x1, x2, x3, x4⟩; simp at hln ⊢; omega, HRR.out, by show _ = _; rw [HON.out, HGO.out], fun b hb => ?_, ?_, ?_, fun b hb hx => ?_⟩
            · rcases HS4.out b hb with h | h
              · exact hsub b h
              · exact .inr (by omega)
            · refine hk3.trans HK4.out (fun y hy => ?_)
              rcases hsub y (by simp only [rowBs, List.mem_cons, List.mem_append] at hy ⊢; exact hy.imp_right .inl) with h | h
              · exact .inl h
              · exact .inr h
            · exact hq3.kept HK4.out (fun y hy hx => HDj.out y (by simpa using hy) hx)
            · have hbl := HLT.out b (by simp only [rowBs, List.mem_cons, List.mem_append]; exact .inr (.inr hb))
              rcases List.mem_cons.1 hx with rfl | hx
              · exact HDj.out _ hb (by simp)
              · rcases HS4.out b (by simp only [rowBs, List.mem_cons, List.mem_append]; exact .inr (.inl hx)) with h | h
                · have hnd := HRR.out.nd
                  simp only [rowBs, List.nodup_cons, List.mem_append, not_or, List.nodup_append] at hnd
                  simp only [rowBs, List.mem_cons, List.mem_append] at h
                  rcases h with h | h | h
                  · exact HDj.out b hb (by simp [h])
                  · exact HDj.out b hb (List.mem_cons_of_mem _ h)
                  · exact hnd.2.2.2 b hx b h rfl
                · omega
        · have hc2 : ¬ (cap : Int) = 1 := by omega
          go_wp2_with (first
            | (go_at_call 70; refine HM.out.mono ?_; clear HM; rintro e w2 ⟨rfl, hk2⟩; have HR2 := hid (HR.out.kept hk2 (fun _ _ => by simp)); have HB2 := hid (HBk.out.kept hk2 (by simp)); have HQ2 := hid (HQ.out.kept hk2 (fun _ _ => by simp)); clear c0 c1 f0 f1 d0 d1 d2 d3; obtain ⟨c0, c1, f0, f1⟩ := HR2.out.c0; have hcell := wish_cells (fun j u hj => HB2.out.cell hj) (show 0 < (Wi.mk x1 x2 x3 x4 :: qs).length by simp); simp only [Nat.zero_mul, Nat.add_zero, List.getElem_cons_zero] at hcell; obtain ⟨d0, d1, d2, d3⟩ := hcell; have HK2 := hid (HK.out.trans hk2 (fun x hx => by cases hx)); have hs2 := hk2.size; have hPl := HR2.out.lt P (by simp [rowBs]); have hPne : w2.heap.size ≠ P := (by omega); clear hk2)
            | (go_at_call 71; refine (grant_any P hv' (.slice (some ⟨g, off + 4, none⟩) qs.length (cap - 1)) ⟨h', qs⟩ ⟨x1, x2, x3, x4⟩ _ ((row_setq HR2.out (.inr ⟨g, off + 4, cap - 1, sz, rfl, HB2.out.tail⟩) rfl).kept ((Kept.refl [] _).alloc (.cells (Wi.f ⟨x1, x2, x3, x4⟩).toArray 129)) (fun _ _ => by simp)) (by simp at hln ⊢; omega)).mono ?_; rintro e w4 ⟨rfl, hv4, HR4, hsub4, hk4⟩; have HRR := hid HR4; have HS4 := hid hsub4; have HK4 := hid hk4; clear HR4 hsub4 hk4 c0 c1 f0 f1 d0 d1 d2 d3))
          go_roundg qs.length
          case measure => simp at hqs ⊢; try omega
          case rel =>
            have hk3 := ((HK2.out.setCell (p := ⟨P, 1, none⟩) (.inl (by simp [rowBs])) (.slice (some ⟨g, off + 4, none⟩) qs.length (cap - 1))).alloc (.cells (Wi.f ⟨x1, x2, x3, x4⟩).toArray 129))
            have hsz : w2.heap.size + 1 = ((w2.setCell ⟨P, 1, none⟩ (.slice (some ⟨g, off + 4, none⟩) qs.length (cap - 1))).alloc (.cells (Wi.f ⟨x1, x2, x3, x4⟩).toArray 129)).heap.size := by simp
            have hq3 := (HQ2.out.kept ((Kept.refl [P] _).setCell (p := ⟨P, 1, none⟩) (.inl (by simp)) (.slice (some ⟨g, off + 4, none⟩) qs.length (cap - 1))) (fun y hy hx => by simp at hx; subst hx; exact HDj.out y (by simpa using hy) (by simp))).kept ((Kept.refl [] _).alloc (.cells (Wi.f ⟨x1, x2, x3, x4⟩).toArray 129)) (fun _ _ => by simp)
            have hsub : ∀ b ∈ rowBs P hv' (.slice (some ⟨g, off + 4, none⟩) qs.length (cap - 1)), b ∈ rowBs P hv qv ∨ w.heap.size ≤ b := HSub.out
            have hw := HK2.out.size
            refine ⟨hv4, _, grantR h' ⟨x1, x2, x3, x4⟩, qs, Nat.le_refl _, by have := grantR_len h' ⟨x1, x2, x3, x4⟩; simp at hln ⊢; omega, HRR.out, by show _ = _; rw [HON.out, HGO.out], fun b hb => ?_, ?_, ?_, fun b hb hx => ?_⟩
            · rcases HS4.out b hb with h | h
              · exact hsub b h
              · exact .inr (by omega)
            · refine hk3.trans HK4.out (fun y hy => ?_)
              rcases hsub y (by simp only [rowBs, List.mem_cons, List.mem_append] at hy ⊢; exact hy.imp_right .inl) with h | h
              · exact .inl h
              · exact .inr h
            · exact hq3.kept HK4.out (fun y hy hx => HDj.out y (by simpa using hy) hx)
            · have hbl := HLT.out b (by simp only [rowBs, List.mem_cons, List.mem_append]; exact .inr (.inr hb))
              rcases List.mem_cons.1 hx with rfl | hx
              · exact HDj.out _ hb (by simp)
              · rcases HS4.out b (by simp only [rowBs, List.mem_cons, List.mem_append]; exact .inr (.inl hx)) with h | h
                · have hnd := HRR.out.nd
                  simp only [rowBs, List.nodup_cons, List.mem_append, not_or, List.nodup_append] at hnd
                  simp only [rowBs, List.mem_cons, List.mem_append] at h
                  rcases h with h | h | h
                  · exact HDj.out b hb (by simp [h])
                  · exact HDj.out b hb (List.mem_cons_of_mem _ h)
                  · exact hnd.2.2.2 b hx b h rfl
                · omega
--@@ end
end Go.Proofs.YtpfgpbafechncaaGreat
