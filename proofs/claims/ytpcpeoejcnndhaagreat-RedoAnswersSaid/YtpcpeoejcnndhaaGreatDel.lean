/- slices.IndexFunc and slices.DeleteFunc at pairs. -/
import Derived.Test.YtpcpeoejcnndhaaGreatSel
set_option linter.all false
namespace Go.Proofs.YtpcpeoejcnndhaaGreat
open Go.RowKit Go.Shelf Go.Lib Go.Sort Go.Proofs
--@@ slices.IndexFunc
set_option maxHeartbeats 8000000 in
set_option maxRecDepth 1000000 in
theorem index_gen {P : Program} (L : SFacts P) (FG : P.funcs[63]? = some Tryz.f63)
    (k : Nat) (aE : ∀ w, (isAgg 57).run P w = .ok true w) (zE : ∀ w, (Go.sizeOf 57).run P w = .ok k w) {α : Type} [Inhabited α] (enc : α → List Value)
    (p : α → Bool) (g : Nat) (cb : Array Value) (blk off cap : Nat) (d0 d : Array α) (w0 w : World)
    (eg : ∀ args w, (callFunc g args).run P w = .ok (.enter g args) w) (hp : ∀ (W : World) (x : α), Calls P g (#[.agg (enc x).toArray] ++ cb) W fun e w' => e = .returned (.bool (p x)) ∧ ∃ q os, w' = grow (W.drewN q) os)
    (R : RowK enc k w0 blk off d0) (hs : d0.size = d.size) (S : SWK enc k w0 blk off d w) (hsz : d.size < 1000000000000) :
    Calls P 63 #[.slice (some ⟨blk, off, none⟩) d.size cap, .func (.func g) #[] cb] w fun e w' => SWK enc k w0 blk off d w' ∧ ((e = .returned (.int .i64 (-1)) ∧ ∀ j, j < d.size → p d[j]! = false) ∨ ∃ i : Nat, e = .returned (.int .i64 i) ∧ i < d.size ∧ p d[i]! = true ∧ ∀ j, j < i → p d[j]! = false) := by
  have mixed := L.mixed; have t0 := L.t0; have a0 := L.a0; have z0 := L.z0; have v0 := L.v0; have t3 := L.t3; have a3 := L.a3; have z3 := L.z3; have v3 := L.v3; have t4 := L.t4; have a4 := L.a4; have z4 := L.z4; have v4 := L.v4; have t38 := L.t38; have a38 := L.a38; have z38 := L.z38; have v38 := L.v38; have t69 := L.t69; have a69 := L.a69; have z69 := L.z69; have v69 := L.v69; have t81 := L.t81; have a81 := L.a81; have z81 := L.z81; have v81 := L.v81
  have u3 := run_underlying L.t3; have u38 := run_underlying L.t38; have u4 := run_underlying L.t4
  have S0 : Aside (SWK enc k w0 blk off d w) := S
  have HP : Aside _ := hp
  clear S hp
  go_enter FG, Tryz.ntmps63
  go_wp2
  go_loopg [5, 8] d.size (fun kx s5 s8 wr => ∃ i : Nat, s8 = .int .i64 i ∧ i ≤ d.size ∧ d.size - i ≤ kx ∧ Aside (SWK enc k w0 blk off d wr) ∧ Aside (∀ j, j < i → p d[j]! = false))
  case atStart => exact ⟨0, by first | rfl | go_num, by omega, by omega, S0, fun j hj => by omega⟩
  case round =>
    clear S0
    obtain ⟨i, rfl, his, hkx, S1, HK⟩ := hrel
    by_cases hlt : i < d.size
    · have hltz : (i : Int) < (d.size : Int) := by omega
      have eX : ((i : Int)).toNat = i := by omega
      have pX : (0 : Int) ≤ (i : Int) := by omega
      have bX : (i : Int) < (d.size : Int) := by omega
      have rX : IntKind.i64.wrap (i : Int) = (i : Int) := by rw [IntKind.wrap_i64]; omega
      obtain ⟨x, hx⟩ : ∃ x, x = d[i]! := ⟨_, rfl⟩
      have la := S1.out.load R (by omega) P i (by omega)
      rw [← hx] at la
      cases hv : p x with
      | false =>
        have hc : Calls P g (#[.agg (enc x).toArray] ++ cb) wr fun e w' => e = .returned (.bool false) ∧ ∃ q os, w' = grow (wr.drewN q) os := by have := HP.out wr x; rw [hv] at this; exact this
        have HLV : Aside (p d[i]! = false) := by show p d[i]! = false; rw [← hx]; exact hv
        clear hx hv
        go_wp2_with (first | (go_at_fn g; refine hc.mono ?_; rintro e w' ⟨rfl, q, os, rfl⟩))
        have S2 : Aside (SWK enc k w0 blk off d (grow (wr.drewN q) os)) := S1.out.grown q os
        clear la hc S1
        generalize grow (wr.drewN q) os = w2 at S2 ⊢
        go_roundg (d.size - (i + 1))
        case measure => omega
        case rel => exact ⟨i + 1, by first | rfl | go_num, by omega, Nat.le_refl _, S2, by
          show ∀ j, j < i + 1 → p d[j]! = false
          intro j hj
          by_cases c : j = i
          · rw [c]; exact HLV.out
          · exact HK.out j (by omega)⟩
      | true =>
        have hc : Calls P g (#[.agg (enc x).toArray] ++ cb) wr fun e w' => e = .returned (.bool true) ∧ ∃ q os, w' = grow (wr.drewN q) os := by have := HP.out wr x; rw [hv] at this; exact this
        have HLV : Aside (p d[i]! = true) := by show p d[i]! = true; rw [← hx]; exact hv
        clear hx hv
        go_wp2_with (first | (go_at_fn g; refine hc.mono ?_; rintro e w' ⟨rfl, q, os, rfl⟩))
        go_returns
        exact ⟨S1.out.grown q os, .inr ⟨i, rfl, hlt, HLV.out, HK.out⟩⟩
    · obtain rfl : i = d.size := by omega
      have hltz : ¬ (d.size : Int) < (d.size : Int) := by omega
      go_wp2
      go_returns
      exact ⟨S1.out, .inl ⟨rfl, HK.out⟩⟩
--@@ slices.DeleteFunc
theorem cells_alloc_set (W : World) (c c' : List Value) (t : TypeId) (hl : c.length = c'.length) : (W.alloc (.cells c.toArray t)).setCells W.heap.size 0 c' = W.alloc (.cells c'.toArray t) := by
  have e : ∀ (pre c c' : List Value), c.length = c'.length → (W.alloc (.cells (pre ++ c).toArray t)).setCells W.heap.size pre.length c' = W.alloc (.cells (pre ++ c').toArray t) := fun pre c c' => by
    induction c' generalizing pre c with
    | nil => intro h; rw [List.eq_nil_of_length_eq_zero h]; rfl
    | cons v r ih =>
      intro h
      cases c with
      | nil => simp at h
      | cons u s =>
        have h1 : (W.alloc (.cells (pre ++ u :: s).toArray t)).setCell ⟨W.heap.size, pre.length, none⟩ v = W.alloc (.cells (pre ++ v :: s).toArray t) := by
          unfold World.setCell World.alloc
          simp only [World.mk.injEq, true_and, and_true]
          apply Array.ext_getElem?
          intro i
          simp only [Array.getElem?_modify, Array.getElem?_push]
          by_cases hi : W.heap.size = i
          · subst hi; simp
          · simp [hi, Ne.symm hi]
        rw [World.setCells, h1]
        have := ih (pre ++ [v]) s (by simpa using h)
        simpa using this
  have := e [] c c' hl
  simpa using this
theorem new_store {P : Program} {k : Nat} (W : World) (c c' : List Value) (t : TypeId) (hl : c.length = k) (hl' : c'.length = k) (h1 : ∀ v ∈ c', v.oneCell' = true) :
    Sem.run P (storeCells ⟨W.heap.size, 0, none⟩ c' 0) (W.alloc (.cells c.toArray t)) = .ok () (W.alloc (.cells c'.toArray t)) := by
  have hc : ∀ j, j < c'.length → ∃ u, (W.alloc (.cells c.toArray t)).cell? ⟨W.heap.size, 0 + 0 + j, none⟩ = some u := fun j hj => ⟨c[j]'(by omega), new_cell W c t _ _ (by simp)⟩
  have := run_storeCells_cells (P := P) W.heap.size 0 c' 0 (W.alloc (.cells c.toArray t)) (fun j hj => by obtain ⟨u, hu⟩ := hc j hj; rw [hu]; rfl) (fun j hj => World.frozen?_alloc_new W _ _ _) h1
  rw [this, Nat.add_zero, cells_alloc_set W c c' t (by omega)]
theorem new_load {P : Program} {k : Nat} (W : World) (c : List Value) (t : TypeId) (hl : c.length = k) (n : Nat) (os : Array Obj) :
    Sem.run P (loadCellsFrom ⟨W.heap.size, 0, none⟩ 0 k #[]) (grow ((W.alloc (.cells c.toArray t)).drewN n) os) = .ok c.toArray (grow ((W.alloc (.cells c.toArray t)).drewN n) os) :=
  run_loadCellsFrom_list P _ _ c k hl fun j u hj => by
    have h1 := cells_new W c t j u hj
    have hk : Kept [] (W.alloc (.cells c.toArray t)) (grow ((W.alloc (.cells c.toArray t)).drewN n) os) := kept_grow ((Kept.refl [] _).drewN n) os
    rw [Addr.add_lit] at h1 ⊢
    exact hk.cell h1 (by simp)
set_option maxHeartbeats 8000000 in
set_option maxRecDepth 1000000 in
theorem delete_gen {P : Program} (L : SFacts P) (FG : P.funcs[81]? = some Tryz.f81) (FI : P.funcs[63]? = some Tryz.f63)
    (k : Nat) (aE : ∀ w, (isAgg 57).run P w = .ok true w) (zE : ∀ w, (Go.sizeOf 57).run P w = .ok k w) {α : Type} [Inhabited α] (enc : α → List Value) (zr : α) (vE : ∀ w, (zeroValue 57).run P w = .ok (.agg (enc zr).toArray) w)
    (p : α → Bool) (g : Nat) (cb : Array Value) (blk off cap : Nat) (d0 d : Array α) (w0 w : World)
    (eg : ∀ args w, (callFunc g args).run P w = .ok (.enter g args) w) (hp : ∀ (W : World) (x : α), Calls P g (#[.agg (enc x).toArray] ++ cb) W fun e w' => e = .returned (.bool (p x)) ∧ ∃ q os, w' = grow (W.drewN q) os)
    (R : RowK enc k w0 blk off d0) (hs : d0.size = d.size) (S : SWK enc k w0 blk off d w) (hsz : d.size < 1000000000000) (hcap : d.size ≤ cap) (keep : Nat → Bool) (hkeep : keep = fun j => !p d[j]!) :
    Calls P 81 #[.slice (some ⟨blk, off, none⟩) d.size cap, .func (.func g) #[] cb] w fun e w' => ∃ (d' : Array α) (n : Nat), e = .returned (.slice (some ⟨blk, off, none⟩) n cap) ∧ LaidAt d' n (selN keep d d.size) ∧ n ≤ d.size ∧ d'.size = d.size ∧ SWK enc k w0 blk off d' w' := by
  have hIF := hid (index_gen L FI k aE zE enc p g cb blk off cap d0 d w0 w eg hp R hs S hsz)
  have eI : ∀ args w, (callFunc 63 args).run P w = .ok (.enter 63 args) w := enters_of FI (by kernel_rfl) rfl
  have mixed := L.mixed; have t0 := L.t0; have a0 := L.a0; have z0 := L.z0; have v0 := L.v0; have t3 := L.t3; have a3 := L.a3; have z3 := L.z3; have v3 := L.v3; have t4 := L.t4; have a4 := L.a4; have z4 := L.z4; have v4 := L.v4; have t38 := L.t38; have a38 := L.a38; have z38 := L.z38; have v38 := L.v38; have t69 := L.t69; have a69 := L.a69; have z69 := L.z69; have v69 := L.v69; have t81 := L.t81; have a81 := L.a81; have z81 := L.z81; have v81 := L.v81
  have u3 := run_underlying L.t3; have u38 := run_underlying L.t38; have u4 := run_underlying L.t4
  have HP : Aside _ := hp
  have KP : Aside (keep = fun j => !p d[j]!) := hkeep
  clear S hp hkeep
  rcases Classical.em (∃ i, i < d.size ∧ p d[i]! = true ∧ ∀ j, j < i → p d[j]! = false) with ⟨i0, hi0, hpi, hlo⟩ | hno
  · have hI : Calls P 63 #[.slice (some ⟨blk, off, none⟩) d.size cap, .func (.func g) #[] cb] w fun e w' => e = .returned (.int .i64 i0) ∧ SWK enc k w0 blk off d w' := hIF.out.mono (by
      rintro e w1 ⟨S1, ⟨_, h2⟩ | ⟨i, rfl, hi, h2, h3⟩⟩
      · rw [h2 i0 hi0] at hpi; cases hpi
      · refine ⟨?_, S1⟩
        have : i = i0 := by
          rcases Nat.lt_trichotomy i i0 with h | h | h
          · rw [hlo i h] at h2; cases h2
          · exact h
          · rw [h3 i0 h] at hpi; cases hpi
        rw [this])
    have HI := hid hI
    have hK0 : ∀ j, j < i0 → keep j = true := fun j hj => by rw [KP.out]; simp only []; rw [hlo j hj]; rfl
    have hK1 : keep i0 = false := by rw [KP.out]; simp only []; rw [hpi]; rfl
    have HL0 : Aside (LaidAt d i0 (selN keep d (i0 + 1))) := by show LaidAt _ _ _; rw [selN_skip hK1]; exact selN_all (by omega) hK0
    have hne1 : ((i0 : Int) == -1) = false := beq_eq_false_iff_ne.2 (by omega)
    clear hI hIF hpi hlo hK0 hK1
    go_enter FG, Tryz.ntmps81
    go_wp2_with (go_at_fn 63; refine HI.out.mono ?_; rintro e w1 ⟨rfl, S1⟩; have S2 : Aside _ := S1; clear S1)
    clear HI eI
    go_loopg [5, 6, 7] d.size (fun kx s5 s6 s7 wr => ∃ (i j : Nat) (dk : Array α), s5 = .int .i64 i ∧ s6 = .int .i64 j ∧ i < j ∧ j ≤ d.size ∧ d.size - j ≤ kx ∧ dk.size = d.size ∧ Aside (SWK enc k w0 blk off dk wr) ∧ Aside (LaidAt dk i (selN keep d j)) ∧ Aside (∀ x, j ≤ x → dk[x]! = d[x]!))
    case atStart => exact ⟨i0, i0 + 1, d, rfl, by first | rfl | go_num, by omega, by omega, by omega, rfl, S2, HL0, fun x hx => rfl⟩
    case round =>
      clear S2 HL0
      obtain ⟨i, j, dk, rfl, rfl, hij, hjs, hkx, hds, S3, HL, HE⟩ := hrel
      by_cases hlt : j < d.size
      · have hltz : (j : Int) < (d.size : Int) := by omega
        have eA : ((j : Int)).toNat = j := by omega
        have pA : (0 : Int) ≤ (j : Int) := by omega
        have bA : (j : Int) < (d.size : Int) := by omega
        have rA : IntKind.i64.wrap (j : Int) = (j : Int) := by rw [IntKind.wrap_i64]; omega
        have eC : ((i : Int)).toNat = i := by omega
        have pC : (0 : Int) ≤ (i : Int) := by omega
        have bC : (i : Int) < (d.size : Int) := by omega
        have rC : IntKind.i64.wrap (i : Int) = (i : Int) := by rw [IntKind.wrap_i64]; omega
        obtain ⟨x, hx⟩ : ∃ x, x = dk[j]! := ⟨_, rfl⟩
        have hxd : x = d[j]! := by rw [hx]; exact HE.out j (by omega)
        have la := S3.out.load R (by omega) P j (by omega)
        rw [← hx] at la
        have KU : keep j = !p x := by rw [KP.out, hxd]
        have HXD : Aside (x = d[j]!) := hxd
        clear hx hxd
        have nx : (enc x).length = k := R.hk _
        have sn := new_store (P := P) (k := k) wr (enc zr) (enc x) 57 (R.hk _) nx (R.h1 _)
        have ln := fun (n : Nat) (os : Array Obj) => new_load (P := P) (k := k) wr (enc x) 57 nx n os
        have ln0 := ln 0 #[]
        rw [grow_empty] at ln0
        have ln1 : Sem.run P (loadCellsFrom ⟨wr.heap.size, 0, none⟩ 0 k #[]) (wr.alloc (.cells (enc x).toArray 57)) = .ok (enc x).toArray (wr.alloc (.cells (enc x).toArray 57)) := ln0
        have S4 : Aside (SWK enc k w0 blk off dk (wr.alloc (.cells (enc x).toArray 57))) := S3.out.alloc _
        clear ln0
        go_wp2_with (fail)
        clear sn ln1 la S3
        generalize wr.alloc (.cells (enc x).toArray 57) = w3 at S4 ln ⊢
        generalize wr.heap.size = bN at ln ⊢
        cases hv : p x with
        | true =>
          have hc : Calls P g (#[.agg (enc x).toArray] ++ cb) w3 fun e w' => e = .returned (.bool true) ∧ ∃ q os, w' = grow (w3.drewN q) os := by have := HP.out w3 x; rw [hv] at this; exact this
          rw [hv] at KU
          have HKU : Aside (keep j = false) := KU
          clear KU hv
          go_wp2_with (first | (go_at_fn g; refine hc.mono ?_; rintro e w' ⟨rfl, q, os, rfl⟩))
          have S5 : Aside (SWK enc k w0 blk off dk (grow (w3.drewN q) os)) := S4.out.grown q os
          clear hc S4 ln
          generalize grow (w3.drewN q) os = w5 at S5 ⊢
          go_roundg (d.size - (j + 1))
          case measure => omega
          case rel => exact ⟨i, j + 1, dk, rfl, by first | rfl | go_num, by omega, by omega, Nat.le_refl _, hds, S5, by show LaidAt _ _ _; rw [selN_skip HKU.out]; exact HL.out, fun z hz => HE.out z (by omega)⟩
        | false =>
          have hc : Calls P g (#[.agg (enc x).toArray] ++ cb) w3 fun e w' => e = .returned (.bool false) ∧ ∃ q os, w' = grow (w3.drewN q) os := by have := HP.out w3 x; rw [hv] at this; exact this
          rw [hv] at KU
          have HKU : Aside (keep j = true) := KU
          clear KU hv
          have hc2 : Calls P g (#[.agg (enc x).toArray] ++ cb) w3 fun e w' => e = .returned (.bool false) ∧ SWK enc k w0 blk off dk w' ∧ Sem.run P (loadCellsFrom ⟨bN, 0, none⟩ 0 k #[]) w' = .ok (enc x).toArray w' := hc.mono (by
            rintro e w' ⟨rfl, q, os, rfl⟩
            exact ⟨rfl, S4.out.grown q os, ln q os⟩)
          have HC2 := hid hc2
          clear hc hc2 ln
          go_wp2_with (first | (go_at_fn g; refine HC2.out.mono ?_; clear HC2; rintro e w5 ⟨rfl, S5, l5⟩; have sc := swk_st S5 R (by omega) P i (by omega) x; have S6 : Aside (SWK enc k w0 blk off (dk.setIfInBounds i x) (w5.setCells blk (off + i * k) (enc x))) := swk_put S5 R i x (by omega); clear S5))
          generalize w5.setCells blk (off + i * k) (enc x) = w6 at S6 ⊢
          go_roundg (d.size - (j + 1))
          case measure => omega
          case rel => exact ⟨i + 1, j + 1, dk.setIfInBounds i x, by first | rfl | go_num, by first | rfl | go_num, by omega, by omega, Nat.le_refl _, by simpa using hds, S6, by
            show LaidAt _ _ _
            rw [selN_take HKU.out, ← HXD.out]
            exact HL.out.snoc (by omega) x, by
            show ∀ z, j + 1 ≤ z → (dk.setIfInBounds i x)[z]! = d[z]!
            intro z hz
            rw [get_setIf _ _ _ (by omega), if_neg (by omega)]
            exact HE.out z (by omega)⟩
      · obtain rfl : j = d.size := by omega
        have hltz : ¬ (d.size : Int) < (d.size : Int) := by omega
        obtain ⟨W', hcl, S5⟩ := swk_clear (P := P) S3.out R (by omega) t38 (zr := zr) vE i (cap - i) (by omega)
        rw [hds] at hcl
        have S6 : Aside (SWK enc k w0 blk off (zfill zr i dk) W') := S5
        clear S5
        have hi2s : (i : Int) ≤ (d.size : Int) := by omega
        have hi2c : (i : Int) ≤ (cap : Int) := by omega
        have eC : ((i : Int)).toNat = i := by omega
        have pC : (0 : Int) ≤ (i : Int) := by omega
        have bC : (i : Int) < (d.size : Int) := by omega
        have rC : IntKind.i64.wrap (i : Int) = (i : Int) := by rw [IntKind.wrap_i64]; omega
        go_wp2
        go_returns
        refine ⟨zfill zr i dk, i, rfl, ?_, by omega, by rw [size_zfill _ _ _ (by omega)]; exact hds, S6.out⟩
        exact HL.out.zfill (by omega) zr
  · have hall : ∀ j, j < d.size → p d[j]! = false := by
      have key : ∀ n, n ≤ d.size → ∀ j, j < n → p d[j]! = false := fun n => by
        induction n with
        | zero => intro _ j hj; omega
        | succ n ih =>
          intro hn j hj
          have h0 := ih (by omega)
          by_cases c : j = n
          · subst c
            cases hv : p d[j]! with
            | false => rfl
            | true => exact absurd ⟨j, by omega, hv, h0⟩ hno
          · exact h0 j (by omega)
      exact key d.size (Nat.le_refl _)
    have hI : Calls P 63 #[.slice (some ⟨blk, off, none⟩) d.size cap, .func (.func g) #[] cb] w fun e w' => e = .returned (.int .i64 (-1)) ∧ SWK enc k w0 blk off d w' := hIF.out.mono (by
      rintro e w1 ⟨S1, ⟨rfl, h2⟩ | ⟨i, rfl, hi, h2, h3⟩⟩
      · exact ⟨rfl, S1⟩
      · rw [hall i hi] at h2; cases h2)
    have HI := hid hI
    have HL0 : Aside (LaidAt d d.size (selN keep d d.size)) := selN_all (Nat.le_refl _) fun j hj => by rw [KP.out]; simp only []; rw [hall j hj]; rfl
    clear hI hIF hall hno
    go_enter FG, Tryz.ntmps81
    go_wp2_with (go_at_fn 63; refine HI.out.mono ?_; rintro e w1 ⟨rfl, S1⟩; have S2 : Aside _ := S1; clear S1)
    go_returns
    exact ⟨d, d.size, rfl, HL0.out, Nat.le_refl _, rfl, S2.out⟩
--@@ end
end Go.Proofs.YtpcpeoejcnndhaaGreat
