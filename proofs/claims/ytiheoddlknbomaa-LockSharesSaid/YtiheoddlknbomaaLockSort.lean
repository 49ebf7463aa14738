/- Keys sorted; a row of keys of the call's own. -/
import Derived.Test.YtiheoddlknbomaaLockComp
import Derived.Test.YtiheoddlknbomaaLay
import Derived.Shelf.SlSortCmp.NoneTotal
set_option linter.all false
namespace Go.Proofs.Ytiheoddlknbomaa
open Go.RowKit Go.Shelf Go.Lib Go.Sort Go.Proofs
set_option linter.unusedVariables false
set_option linter.unusedSimpArgs false

theorem k4_len (x : K4) : (K4.f x).length = 4 := rfl
theorem k4_one (x : K4) : ∀ v ∈ K4.f x, v.oneCell' = true := fun v hv => by
  simp [K4.f] at hv
  rcases hv with rfl | rfl | rfl | rfl <;> rfl
theorem own_holdsK {w : World} {base n g cap : Nat} {e : TypeId} {l : List K4} (h : w.ownsRow base e 4 (.slice (some ⟨g, 0, none⟩) n cap) n (l.flatMap K4.f)) : HoldsK K4.f 4 w g 0 l.toArray := by
  refine holds_of_cells k4_len l.toArray (fun i hi j u hu => ?_) (fun j => h.frozenAt j)
  have hj : j < 4 := by have := (List.getElem?_eq_some_iff.1 hu).1; rwa [k4_len] at this
  have hi' : i < l.length := by simpa using hi
  have hb : i * 4 + j < l.length * 4 := by omega
  have hg := rowK_at (enc := K4.f) (k := 4) k4_len l (i * 4 + j) hb
  rw [show (i * 4 + j) / 4 = i by omega, show (i * 4 + j) % 4 = j by omega] at hg
  have e1 : l.toArray[i]! = l[i]! := by simp
  rw [e1] at hu
  have := h.cells (g := g) rfl (i * 4 + j) u (by rw [hg]; exact hu)
  rw [Addr.add_lit] at this
  rw [show 0 + i * 4 + j = 0 + (i * 4 + j) by omega]
  exact this
theorem own_swkK {w W : World} {base n g cap : Nat} {e : TypeId} {ps : List K4} (h : w.ownsRow base e 4 (.slice (some ⟨g, 0, none⟩) n cap) n (ps.flatMap K4.f)) (hn : n = ps.length) {d' : Array K4} (S : SWK K4.f 4 w g 0 d' W) (hd : d'.size = n)
    (l' : List K4) (hl : l'.length ≤ d'.size) (he : ∀ x, x < l'.length → d'[x]! = l'[x]!) : W.ownsRow base e 4 (.slice (some ⟨g, 0, none⟩) l'.length cap) l'.length (l'.flatMap K4.f) := by
  have hH0 := own_holdsK h
  rcases h.2 with ⟨hv, _⟩ | ⟨g', cap', cur, hv, hb, hg, hle, hm, hs, ht⟩
  · cases hv
  · cases hv
    have hgl := (Array.getElem?_eq_some_iff.1 hg).1
    obtain ⟨cur', c1, c2⟩ := swk_block S hg
    have hH := S.holds hgl hH0 (by simp [hd, hn])
    have hslt := holdsK_slAt k4_len hH (S.lt hgl) l' cap hl he (by unfold maxLen at hm; omega)
    refine ⟨rowK_len k4_len l', .inr ⟨g, cap, cur', rfl, hb, c1, by omega, hm, by rw [c2, hs], ?_⟩⟩
    refine List.ext_getElem? fun j => ?_
    rw [List.getElem?_take]
    split
    · rename_i hj
      have hlt : j < (l'.flatMap K4.f).length := by rw [rowK_len k4_len]; exact hj
      obtain ⟨a, c, ha, _, _, hc⟩ := hslt.ex
      obtain ⟨b, o, hb2, _, hcs⟩ := hc (by omega)
      cases ha
      cases hb2
      have := hcs j _ (List.getElem?_eq_getElem hlt)
      rw [cell_of_row W g _ cur' e (0, 0) c1, Nat.zero_add] at this
      rw [List.getElem?_eq_getElem hlt, Array.getElem?_toList]
      exact this
    · rename_i hj
      rw [List.getElem?_eq_none (by rw [rowK_len k4_len]; omega)]
--@@ bytes.Compare
theorem u8_bytesL (l : List UInt8) : Lib.bytesOf (l.map fun b => (b.toNat : Int)) = l := by
  induction l with
  | nil => rfl
  | cons x l ih => simp only [List.map_cons, Lib.bytesOf] at ih ⊢; rw [ih]; simp
theorem K4.get_fL (x : K4) (j : Nat) (n : Int) (h : (x.bs.map fun b => (b.toNat : Int))[j]? = some n) : x.f[j]? = some (.int .u8 n) := by
  have e : x.f = (x.bs.map fun b => (b.toNat : Int)).map (Value.int .u8) := rfl
  rw [e, List.getElem?_map, h]; rfl
theorem run_bytesKL {P : Program} (a : Addr) (x : K4) (w : World) (c : Nat) (hx : ∀ (j : Nat) (u : Value), x.f[j]? = some u → w.cell? (a.add j) = some u) :
    (Extern.Bytes.bytesOf (.slice (some a) 4 c)).run P w = .ok ⟨x.bs.toArray⟩ w := by
  have := Lib.run_loadBytesX (P := P) w (x.bs.map fun b => (b.toNat : Int)) a .empty (fun j n hj => hx j _ (K4.get_fL x j n hj))
  have hl : (x.bs.map fun b => (b.toNat : Int)).length = 4 := rfl
  rw [hl, u8_bytesL] at this
  simp only [Extern.Bytes.bytesOf]
  rw [this]
  rfl
set_option maxHeartbeats 1000000 in
theorem bcompareL_any (a b : Addr) (x y : K4) (w : World) (c c' : Nat) (hx : ∀ (j : Nat) (u : Value), x.f[j]? = some u → w.cell? (a.add j) = some u) (hy : ∀ (j : Nat) (u : Value), y.f[j]? = some u → w.cell? (b.add j) = some u) :
    Calls Try.prog 45 #[.slice (some a) 4 c, .slice (some b) 4 c'] w fun e w' => e = .returned (.int .i64 (ordK x y)) ∧ w' = w := by
  have hX := run_bytesKL (P := Try.prog) a x w c hx
  have hY := run_bytesKL (P := Try.prog) b y w c' hy
  clear hx hy
  have hrun : (Extern.BytealgCompare.compare #[.slice (some a) 4 c, .slice (some b) 4 c']).run Try.prog w = .ok (.int .i64 (ordK x y)) w := by
    change Sem.run Try.prog (do pure (goInt (Extern.BytealgCompare.cmp (← Extern.Bytes.bytesOf (.slice (some a) 4 c)) (← Extern.Bytes.bytesOf (.slice (some b) 4 c'))))) w = _
    simp only [Sem.run_bind, Sem.run_pure, hX, hY, Result.andThen]
    rw [Lib.cmp_eq]
    rfl
  have HR := hid hrun
  clear hrun hX hY
  go_enter Try.func45, Try.ntmps45
  go_wp2
  rw [run_callFunc_extern Try.func57 (by kernel_rfl) (by kernel_rfl) (by kernel_rfl) (e := Extern.BytealgCompare.compare) (by kernel_rfl), HR.out]
  simp only [Result.andThen]
  rw [Oper.upon_value]
  go_wp2
  go_ret
  exact ⟨rfl, rfl⟩
theorem key_atL {w : World} {b : Nat} {cs : List Value} {t : TypeId} (h : w.heap[b]? = some (.cells cs.toArray t (0, 0))) (x : K4) (hx : ∀ (j : Nat) (u : Value), x.f[j]? = some u → cs[j]? = some u) (n : Nat) :
    ∀ (j : Nat) (u : Value), x.f[j]? = some u → (w.drewN n).cell? ((⟨b, 0, none⟩ : Addr).add j) = some u := fun j u hj => by
  have hadd : (⟨b, 0, none⟩ : Addr).add j = ⟨b, j, none⟩ := by unfold Addr.add; split <;> simp_all
  have h' : (w.drewN n).heap[b]? = some (.cells cs.toArray t (0, 0)) := h
  rw [hadd, cell_of_row _ _ j cs.toArray t (0, 0) h']
  simpa using hx j u hj
--@@ lock.sort$1
set_option maxHeartbeats 1000000 in
theorem kord_any (x y : K4) (w : World) :
    Calls Try.prog 44 #[x.v, y.v] w fun e w' => e = .returned (.int .i64 (ordK x y)) ∧ ∃ q os, w' = Go.Sort.grow (w.drewN q) os := by
  have hX := hid (key_atL (w := (w.alloc (.cells x.f.toArray 32)).alloc (.cells y.f.toArray 32)) (b := w.heap.size) (by rw [Below.heap_alloc _ _ _ (by simp)]; exact heap_alloc_new w _) x (fun j u hj => hj))
  have hY := hid (key_atL (w := (w.alloc (.cells x.f.toArray 32)).alloc (.cells y.f.toArray 32)) (b := w.heap.size + 1) (by have := heap_alloc_new (w.alloc (.cells x.f.toArray 32)) (.cells y.f.toArray 32); simpa using this) y (fun j u hj => hj))
  obtain ⟨a1, a2, a3, a4⟩ := x
  obtain ⟨b1, b2, b3, b4⟩ := y
  simp only [K4.v, K4.f] at hX hY ⊢
  go_enter Try.func44, Try.ntmps44
  go_wp2_with fail
  go_quiet ((go_at_call 45; exact Calls.quiet_of_same (bcompareL_any _ _ ⟨a1, a2, a3, a4⟩ ⟨b1, b2, b3, b4⟩ _ _ _ (hX.out _) (hY.out _))))
  go_wp2
  go_ret
  exact ⟨rfl, _, _, by rw [Go.Sort.alloc_eq_grow, Go.Sort.alloc_eq_grow, Go.Sort.grow_grow]; rfl⟩
--@@ lock.sort
theorem cmpK (blk off size : Nat) (w : World) : CmpLays Try.prog 44 #[] K4.f 4 ordK blk off size w := fun m os dk hdk x y => kord_any x y _
theorem aggK : ∀ w, (isAgg 32).run Try.prog w = .ok true w := fun w => by kernel_rfl
theorem sizK : ∀ w, (Go.sizeOf 32).run Try.prog w = .ok 4 w := fun w => by kernel_rfl
theorem swoK : SWO (ltOf ordK) := by
  have e : ltOf ordK = fun x y : K4 => decide (x.num < y.num) := by
    funext x y; exact ordK_neg _ _
  rw [e]
  exact ⟨fun x => by simp, fun x y z h1 h2 => by simp only [decide_eq_true_eq] at *; omega, fun x y z h1 h2 => by simp only [decide_eq_false_iff_not] at *; omega⟩
theorem sortFuncK (v : Value) (base n : Nat) (ps : List K4) (w : World) (hown : w.ownsRow base 32 4 v n (ps.flatMap K4.f)) (hnl : n = ps.length) (hl : ps.length ≤ 100000) :
    Calls Try.prog 43 #[v, .func (.func 44) #[] #[]] w fun e w' => e = .returned (.tuple #[]) ∧ w'.ownsRow base 32 4 v n ((sortK ps).flatMap K4.f) ∧ Kept v.ownBlock.toList w w' := by
  have eO : ∀ args w, (callFunc 44 args).run Try.prog w = .ok (.enter 44 args) w := enters_of (Try.func44) (by kernel_rfl) rfl
  subst hnl
  rcases Nat.eq_zero_or_pos ps.length with h0 | hne
  · have hps : ps = [] := List.eq_nil_of_length_eq_zero h0
    subst hps
    obtain ⟨a, cap, rfl⟩ := ownsRow_slice hown
    refine (AnyF.slices_SortFunc_none Try.laySortKeys a cap _ w).mono ?_
    rintro e w' ⟨rfl, rfl⟩
    exact ⟨rfl, by rw [show sortK [] = [] by simp [sortK]]; exact hown, Kept.refl _ _⟩
  · have hH := hown
    rcases hown.2 with ⟨_, hz⟩ | ⟨g, cap, cur, rfl, hb, hg, hle, _⟩
    · omega
    · have hgl := (Array.getElem?_eq_some_iff.1 hg).1
      have := AnyQ.slices_SortFunc Try.laySortKeys 4 aggK sizK K4.f k4_len k4_one ordK swoK 44 #[] g 0 cap ps.toArray w eO (cmpK _ _ _ _) (own_holdsK hown) hgl (by simp; omega)
      refine (show Calls _ _ #[.slice (some ⟨g, 0, none⟩) ps.length cap, _] _ _ from this).mono ?_
      rintro e w' ⟨rfl, d', n, os, hP, hS, rfl⟩
      have hsz : d'.size = ps.length := by have := hP.1; simpa using this
      have S1 : SWK K4.f 4 w g 0 d' (sortWorldK K4.f 4 w g 0 n d' os) := ⟨n, os, rfl⟩
      have hperm : d'.toList.Perm ps := by
        have h1 := hP.2.2
        have e1 : d'.extract 0 ps.toArray.size = d' := by rw [show ps.toArray.size = d'.size by simp [hsz]]; simp
        have e2 : ps.toArray.extract 0 ps.toArray.size = ps.toArray := by simp
        rw [e1, e2] at h1
        simpa using h1
      have hkeys : d'.toList = sortK ps := sortK_eq hperm (by
        rw [List.pairwise_iff_getElem]
        intro i j hi hj hij
        have := hS i j (Nat.zero_le _) hij (by simpa [hsz] using hj)
        rw [getElem!_pos d' i (by simpa using hi), getElem!_pos d' j (by simpa using hj)] at this
        have h2 : ¬ (d'[j]'(by simpa using hj)).num < (d'[i]'(by simpa using hi)).num := fun h => by
          have e := ordK_neg (d'[j]'(by simpa using hj)) (d'[i]'(by simpa using hi))
          rw [decide_eq_true h] at e
          unfold ltOf at this
          rw [e] at this; cases this
        simpa using h2)
      have hr := own_swkK hown rfl S1 hsz d'.toList (by simp) (fun x hx => by rw [getElem!_pos d' x (by simpa using hx), getElem!_pos d'.toList x hx]; simp)
      rw [hkeys] at hr
      have hlen : (sortK ps).length = ps.length := (sortK_perm ps).length_eq
      rw [hlen] at hr
      exact ⟨rfl, hr, swk_kept S1⟩
set_option maxHeartbeats 1000000 in
theorem lsort_any (v : Value) (base n : Nat) (ps : List K4) (w : World) (hown : w.ownsRow base 32 4 v n (ps.flatMap K4.f)) (hnl : n = ps.length) (hl : ps.length ≤ 100000) :
    Calls Try.prog 28 #[v] w fun e w' => e = .returned (.tuple #[]) ∧ w'.ownsRow base 32 4 v n ((sortK ps).flatMap K4.f) ∧ Kept v.ownBlock.toList w w' := by
  have HF := hid (sortFuncK v base n ps w hown hnl hl)
  clear hown hnl hl
  go_enter Try.func28, Try.ntmps28
  go_wp2_with (go_at_call 43; refine HF.out.mono ?_; rintro e w' ⟨rfl, h⟩)
  go_end0
  exact ⟨rfl, h⟩
--@@ slices.Compact
theorem laid_comp (d : Array K4) (l : List K4) (hd : d = l.toArray) : ∀ n, n ≤ l.length → selN (fun j => j == 0 || !decide (d[j]! = d[j - 1]!)) d n = compN l n
  | 0, _ => rfl
  | n + 1, h => by
    have ih := laid_comp d l hd n (by omega)
    subst hd
    have e : ∀ j, l.toArray[j]! = l[j]! := fun j => by first | rfl | rw [List.getElem!_toArray]
    show selN _ _ n ++ (if (n == 0 || !decide (l.toArray[n]! = l.toArray[n - 1]!)) = true then [l.toArray[n]!] else []) = compN l n ++ (if n = 0 ∨ l[n]! ≠ l[n - 1]! then [l[n]!] else [])
    rw [ih, e n, e (n - 1)]
    congr 1
    generalize l[n]! = a
    generalize l[n - 1]! = b
    by_cases h0 : n = 0
    · simp [h0]
    · by_cases h1 : a = b
      · simp [h0, h1]
      · simp [h0, h1]
theorem compN_len (l : List K4) : ∀ n, (compN l n).length ≤ n
  | 0 => by simp [compN]
  | n + 1 => by
    have := compN_len l n
    simp only [compN, List.length_append]
    split <;> simp <;> omega
set_option maxHeartbeats 1000000 in
set_option maxRecDepth 100000 in
theorem compactK_any (v : Value) (base n : Nat) (ps : List K4) (w : World) (hown : w.ownsRow base 32 4 v n (ps.flatMap K4.f)) (hnl : n = ps.length) (hl : ps.length ≤ 100000) :
    Calls Try.prog 29 #[v] w fun e w' => ∃ v', e = .returned v' ∧ w'.ownsRow base 32 4 v' (compK ps).length ((compK ps).flatMap K4.f) ∧ Kept v.ownBlock.toList w w' ∧ v'.ownBlock = v.ownBlock := by
  subst hnl
  rcases hown.2 with ⟨rfl, hz⟩ | ⟨g, cap, cur, rfl, hb, hg, hle, hm, _⟩
  · have hps : ps = [] := List.eq_nil_of_length_eq_zero hz
    subst hps
    have HO := hid hown
    clear hown hz hl
    go_enter Try.func29, Try.ntmps29
    go_wp2
    go_returns
    exact ⟨_, rfl, HO.out, Kept.refl _ _, rfl⟩
  · have hgl := (Array.getElem?_eq_some_iff.1 hg).1
    have hH := own_holdsK hown
    have := kcomp_gen 4 aggK sizK K4.f ⟨0, 0, 0, 0⟩ (fun w => by kernel_rfl) (fun x y => decide (x = y)) g 0 cap ps.toArray ps.toArray w w (fun x y w => eqK w x y) (fun x y w => neK w x y) (fun op a b x y w => run_eqGuard_agg w op _ a b _ _ (by kernel_rfl)) ⟨k4_len, k4_one, hH, hgl⟩ rfl (SWK.start hH) (by simp; omega) (by simp; omega) _ rfl
    refine (show Calls _ _ #[.slice (some ⟨g, 0, none⟩) ps.length cap] _ _ from this).mono ?_
    rintro e w' ⟨d', n, rfl, hL, hn, hd, S1⟩
    rw [show ps.toArray.size = ps.length by simp] at hL hn hd
    rw [laid_comp _ ps rfl _ (Nat.le_refl _)] at hL
    have hl2 : (compK ps).length = n := hL.1
    have hr := own_swkK hown rfl S1 hd (compK ps) (by omega) (fun x hx => hL.2 x (by omega))
    rw [hl2] at hr
    exact ⟨_, rfl, by rw [hl2]; exact hr, swk_kept S1, rfl⟩
--@@ end
end Go.Proofs.Ytiheoddlknbomaa
