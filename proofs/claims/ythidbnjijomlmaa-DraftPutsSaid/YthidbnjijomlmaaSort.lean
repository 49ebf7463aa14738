/- draft.Sort: the map of pairs. -/
import Derived.Test.YthidbnjijomlmaaSortLaw
import Derived.Test.YthidbnjijomlmaaDel
import Derived.Shelf.SlSortCmp.NoneTotal
set_option linter.all false
namespace Go.Proofs.Ythidbnjijomlmaa
open Go.RowKit Go.Shelf Go.Lib Go.Sort Go.Proofs
set_option linter.unusedVariables false
set_option linter.unusedSimpArgs false

--@@ draft.Sort
set_option maxHeartbeats 1000000 in
theorem eqPair_any (x y : Pr) (w : World) :
    Calls Try.prog 41 #[x.v, y.v] w fun e w' => e = .returned (.bool (decide (x.key = y.key))) ∧ ∃ q os, w' = grow (w.drewN q) os := by
  have hq := hid (fun (w : World) => eqK w x.key y.key)
  obtain ⟨⟨a1, a2, a3, a4⟩, ⟨a5, a6⟩⟩ := x
  obtain ⟨⟨b1, b2, b3, b4⟩, ⟨b5, b6⟩⟩ := y
  simp only [K4.v] at hq
  simp only [Pr.v]
  generalize decide ((⟨a1, a2, a3, a4⟩ : K4) = ⟨b1, b2, b3, b4⟩) = r at hq ⊢
  go_enter Try.func41, Try.ntmps41
  have hq2 := hq.out
  clear hq
  go_wp2
  go_returns
  exact ⟨rfl, 0, _, by rw [alloc_eq_grow, alloc_eq_grow, grow_grow]; rfl⟩
set_option maxHeartbeats 1000000 in
theorem there_any (x : Pr) (w : World) :
    Calls Try.prog 43 #[x.v] w fun e w' => e = .returned (.bool (!x.val.there)) ∧ ∃ q os, w' = grow (w.drewN q) os := by
  obtain ⟨⟨a1, a2, a3, a4⟩, ⟨a5, a6⟩⟩ := x
  simp only [Pr.v]
  go_enter Try.func43, Try.ntmps43
  go_wp2
  go_returns
  exact ⟨rfl, 0, _, by rw [alloc_eq_grow]; rfl⟩
theorem ownsRow_holds {w : World} {base n g cap : Nat} {e : TypeId} {l : List Pr} (h : w.ownsRow base e 6 (.slice (some ⟨g, 0, none⟩) n cap) n (l.flatMap Pr.f)) (hn : n = l.length) (d : Array (Pr × Nat)) (hd : d.size = l.length) (hx : ∀ x, x < d.size → d[x]!.1 = l[x]!) : HoldsK encT 6 w g 0 d := by
  refine holds_of_cells encT_len d (fun i hi j u hu => ?_) (fun j => h.frozenAt j)
  have hj : j < 6 := by have := (List.getElem?_eq_some_iff.1 hu).1; rwa [encT_len] at this
  have hb : i * 6 + j < l.length * 6 := by rw [hd] at hi; omega
  have hg := rowK_at (enc := Pr.f) (k := 6) (fun x => rfl) l (i * 6 + j) hb
  rw [show (i * 6 + j) / 6 = i by omega, show (i * 6 + j) % 6 = j by omega, ← hx i hi] at hg
  have := h.cells (g := g) rfl (i * 6 + j) u (by rw [hg]; exact hu)
  rw [Addr.add_lit] at this
  rw [show 0 + i * 6 + j = 0 + (i * 6 + j) by omega]
  exact this
set_option maxHeartbeats 1000000 in
set_option maxRecDepth 100000 in
theorem clone_any (v : Value) (l : List Pr) (w : World) (h : SlAt w v 6 l.length (l.flatMap Pr.f)) (hl : l.length ≤ 100000) (hne : 0 < l.length) :
    Calls Try.prog 37 #[v] w fun e w' => ∃ g cap, e = .returned (.slice (some ⟨g, 0, none⟩) l.length cap) ∧ w.heap.size ≤ g ∧ g < w'.heap.size ∧ l.length ≤ cap ∧ w'.ownsRow w.heap.size 54 6 (.slice (some ⟨g, 0, none⟩) l.length cap) l.length (l.flatMap Pr.f) ∧ Kept [] w w' := by
  obtain ⟨a, cap, rfl, h1, h2, h3⟩ := h.ex
  obtain ⟨b, off, rfl, h4, h5⟩ := h3 hne
  obtain ⟨i0, hi, z, hz, hz1, hz2, hz3⟩ : ∃ i0, Try.prog.info? 54 = some i0 ∧ ∃ z, i0.zero = some z ∧ i0.size = 6 ∧ z.cells.size = 6 ∧ i0.bytes ≤ 64 := ⟨_, rfl, _, rfl, by kernel_rfl, by kernel_rfl, by decide⟩
  refine (AnyE.slices_Clone Try.layClonePairs i0 z 6 i0.bytes hi hz hz1 rfl hz2 (by omega) sizP b off l.length cap (l.flatMap Pr.f) w h2 (by unfold maxLen; omega) ?_ h5 ?_).mono ?_
  · have := Nat.mul_le_mul (Nat.le_refl l.length) hz3; omega
  · intro u hu
    obtain ⟨x, _, hx⟩ := List.mem_flatMap.1 hu
    exact encT_one (x, 0) u hx
  · rintro e w' ⟨v', rfl, hown, hnil, hb⟩
    have hown' := hown
    rcases hown.2 with ⟨rfl, hz⟩ | ⟨g, cap', cur, rfl, hg1, hg2, hg3, _⟩
    · exact absurd rfl hnil
    · exact ⟨g, cap', rfl, hg1, (Array.getElem?_eq_some_iff.1 hg2).1, hg3, hown', Kept.of_below hb (Nat.le_refl _) []⟩
theorem tagged_rev (l : List Pr) : (tagged l).reverse.size = l.length ∧ ∀ x, x < (tagged l).reverse.size → (tagged l).reverse[x]!.1 = l[x]! := by
  refine ⟨by simp [tagged], fun x hx => ?_⟩
  have hx' : x < l.length := by simpa [tagged] using hx
  rw [getElem!_pos _ x hx, getElem!_pos l x hx']
  simp [tagged]
  congr 1
  omega
theorem swk_holds_rev {w1 : World} {n g : Nat} (d : Array (Pr × Nat)) (hH : HoldsK encT 6 w1 g 0 d) (hg : g < w1.heap.size) (d' : Array (Pr × Nat)) (hs : d'.size = d.size) :
    HoldsK encT 6 (putRowK encT 6 (Sort.ahead w1 n) g 0 d') g 0 d' ∧ Kept [g] w1 (putRowK encT 6 (Sort.ahead w1 n) g 0 d') ∧ g < (putRowK encT 6 (Sort.ahead w1 n) g 0 d').heap.size := by
  refine ⟨holdsK_putRowK encT 6 _ g 0 d d' (holdsK_ahead encT 6 w1 n g 0 d hH) hs, swk_kept (dk := d') (enc := encT) (k := 6) (off := 0) ⟨n, #[], by unfold sortWorldK; rw [grow_empty]⟩, by rw [size_putRowK]; exact hg⟩
theorem sortP_flat (c : List (Pr × Nat)) : (c.filter fun x => !(!x.1.val.there)).map (·.1) = thereP (c.map (·.1)) := by
  induction c with
  | nil => rfl
  | cons x c ih =>
    unfold thereP at ih ⊢
    simp only [List.map_cons, List.filter_cons, Bool.not_not] at ih ⊢
    split
    · simp [ih]
    · exact ih
theorem flat_fst (c : List (Pr × Nat)) : c.flatMap encT = (c.map (·.1)).flatMap Pr.f := by
  induction c with
  | nil => rfl
  | cons x c ih => simp [ih, encT]
set_option maxHeartbeats 4000000 in
set_option maxRecDepth 100000 in
/-- the five steps, of a row of the function's own -/
theorem sort_own (g cap : Nat) (l : List Pr) (w1 : World) (hne : 0 < l.length) (hl : l.length ≤ 100000) (hcap : l.length ≤ cap) (hg : g < w1.heap.size) (hH : HoldsK encT 6 w1 g 0 (tagged l).reverse) (Q : Ending → World → Prop)
    (hQ : ∀ v' w', (∃ g n c, v' = .slice (some ⟨g, 0, none⟩) n c) → SlAt w' v' 6 (sortP l).length ((sortP l).flatMap Pr.f) → Kept [g] w1 w' → Q (.returned v') w') :
    ∃ C2 : World → Prop, Calls Try.prog 38 #[.slice (some ⟨g, 0, none⟩) l.length cap] w1 (fun e w' => e = .returned (.tuple #[]) ∧ C2 w') ∧
    ∀ w2, C2 w2 → ∃ C3 : World → Prop, Calls Try.prog 39 #[.slice (some ⟨g, 0, none⟩) l.length cap, .func (.func 34) #[] #[]] w2 (fun e w' => e = .returned (.tuple #[]) ∧ C3 w') ∧
    ∀ w3, C3 w3 → ∃ C4 : Nat → World → Prop, Calls Try.prog 40 #[.slice (some ⟨g, 0, none⟩) l.length cap, .func (.func 41) #[] #[]] w3 (fun e w' => ∃ n, e = .returned (.slice (some ⟨g, 0, none⟩) n cap) ∧ C4 n w') ∧
    ∀ n w4, C4 n w4 → Calls Try.prog 42 #[.slice (some ⟨g, 0, none⟩) n cap, .func (.func 43) #[] #[]] w4 fun e w' => ∃ v', e = .returned v' ∧ Q (.returned v') w' := by
  obtain ⟨hs, _⟩ := tagged_rev l
  have hts := tagged_size l
  refine ⟨fun w2 => HoldsK encT 6 w2 g 0 (tagged l) ∧ Kept [g] w1 w2 ∧ g < w2.heap.size, ?_, fun w2 ⟨H2, K2, g2⟩ => ?_⟩
  · have := AnyQ.slices_Reverse Try.layRevPairs 6 aggP sizP encT encT_len encT_one g 0 cap (tagged l).reverse w1 hH (by omega)
    rw [hs] at this
    refine this.mono ?_
    rintro e w' ⟨rfl, n, rfl⟩
    rw [Array.reverse_reverse]
    exact ⟨rfl, swk_holds_rev _ hH hg (tagged l) (by omega)⟩
  have R2 : RowK encT 6 w2 g 0 (tagged l) := ⟨encT_len, encT_one, H2, g2⟩
  refine ⟨fun w3 => SWK encT 6 w2 g 0 (stab (ltOf cfT) (tagged l).size (tagged l)) w3, ?_, fun w3 S3 => ?_⟩
  · have := sortStable_any g 0 cap (tagged l) (tagged l) w2 w2 R2 rfl (SWK.start H2) (by omega)
    rw [hts] at this ⊢
    exact this
  have hlaw := sort_law l
  have zs : (stab (ltOf cfT) (tagged l).size (tagged l)).size = (tagged l).size := size_stab _ _ _
  generalize stab (ltOf cfT) (tagged l).size (tagged l) = st at S3 hlaw zs
  generalize hc : selN (fun j => j == 0 || !eqT st[j]! st[j - 1]!) st st.size = c at hlaw
  refine ⟨fun n w4 => HoldsK encT 6 w4 g 0 c.toArray ∧ n = c.length ∧ c.length ≤ cap ∧ c.length ≤ 100000 ∧ Kept [g] w1 w4 ∧ g < w4.heap.size, ?_, fun n w4 ⟨H4, hn, hcc, hc1, K4, g4⟩ => ?_⟩
  · have := compact_gen sfacts Try.func40 6 aggP sizP encT (⟨⟨0, 0, 0, 0⟩, V.zero⟩, 0) (fun w => by kernel_rfl) eqT 41 #[] g 0 cap (tagged l) st w2 w3 (enters_of Try.func41 (by kernel_rfl) rfl) (fun W x y => eqPair_any x.1 y.1 W) R2 zs.symm S3 (by omega) (by omega) _ rfl
    rw [hc] at this
    rw [show l.length = st.size by omega]
    refine this.mono ?_
    rintro e w' ⟨d', n, rfl, hlaid, hn, hds, S4⟩
    have hH' := S4.holds R2.hblk R2.hH (by omega)
    refine ⟨n, rfl, holdsK_laid encT_len hH' c (by rw [hlaid.1]; omega) (fun x hx => hlaid.2 x (by rw [← hlaid.1]; exact hx)), hlaid.1.symm, by rw [hlaid.1]; omega, by rw [hlaid.1]; omega, K2.trans (swk_kept S4) (fun x hx => .inl hx), S4.lt R2.hblk⟩
  · have R4 : RowK encT 6 w4 g 0 c.toArray := ⟨encT_len, encT_one, H4, g4⟩
    have := delete_gen sfacts Try.func42 Try.func51 6 aggP sizP encT (⟨⟨0, 0, 0, 0⟩, V.zero⟩, 0) (fun w => by kernel_rfl) (fun x => !x.1.val.there) 43 #[] g 0 cap c.toArray c.toArray w4 w4 (enters_of Try.func43 (by kernel_rfl) rfl) (fun W x => there_any x.1 W) R4 rfl (SWK.start H4) (by simp; omega) (by simpa using hcc) _ rfl
    rw [show n = c.toArray.size by simpa using hn]
    refine this.mono ?_
    rintro e w' ⟨d', n', rfl, hlaid, hn', hds, S5⟩
    rw [selN_filter (fun x => !(!x.1.val.there)) c.toArray c.toArray.size (Nat.le_refl _), List.take_of_length_le (by simp)] at hlaid
    refine ⟨_, rfl, hQ _ _ ⟨_, _, _, rfl⟩ ?_ (K4.trans (swk_kept S5) fun x hx => .inl hx)⟩
    have hr := holdsK_slAt (w := w') encT_len (S5.holds R4.hblk R4.hH hds) (S5.lt R4.hblk) (c.filter fun x => !(!x.1.val.there)) cap (by rw [hlaid.1]; omega) (fun x hx => hlaid.2 x (by rw [← hlaid.1]; exact hx)) (by rw [hlaid.1]; simp at hn'; omega)
    rw [flat_fst, sortP_flat, hlaw] at hr
    have e : (c.filter fun x => !(!x.1.val.there)).length = (sortP l).length := by
      have := congrArg List.length (sortP_flat c)
      rw [hlaw] at this
      simpa [sortP] using this
    rw [e] at hr
    have e2 : n' = (sortP l).length := by rw [← e, ← hlaid.1]
    rw [e2]
    exact hr
set_option maxHeartbeats 4000000 in
set_option maxRecDepth 100000 in
theorem sort_some (v : Value) (l : List Pr) (w : World) (h : SlAt w v 6 l.length (l.flatMap Pr.f)) (hl : l.length ≤ 100000) (hne : 0 < l.length) :
    Calls Try.prog 25 #[v] w fun e w' => ∃ v', e = .returned v' ∧ (∃ g n c, v' = .slice (some ⟨g, 0, none⟩) n c) ∧ SlAt w' v' 6 (sortP l).length ((sortP l).flatMap Pr.f) ∧ Kept [] w w' := by
  have HC := hid (clone_any v l w h hl hne)
  clear h
  go_enter Try.func25, Try.ntmps25
  go_wp2_with (first
    | (go_at_call 37; refine HC.out.mono ?_; clear HC; rintro e w1 ⟨g, cap, rfl, hg0, hg, hcap, hown, hk⟩;
       obtain ⟨C2, c2, h2⟩ := sort_own g cap l w1 hne hl hcap hg (ownsRow_holds hown rfl _ (tagged_rev l).1 (tagged_rev l).2) (fun e w' => ∃ v', e = .returned v' ∧ (∃ g n c, v' = .slice (some ⟨g, 0, none⟩) n c) ∧ SlAt w' v' 6 (sortP l).length ((sortP l).flatMap Pr.f) ∧ Kept [] w w') (fun v' w' hv hs hk' => ⟨v', rfl, hv, hs, hk.trans hk' (fun x hx => .inr (by simp at hx; omega))⟩);
       have HC2 := hid c2; have H2 := hid h2; clear c2 h2 hown)
    | (go_at_call 38; refine HC2.out.mono ?_; clear HC2; rintro e w2 ⟨rfl, q2⟩; obtain ⟨C3, c3, h3⟩ := H2.out w2 q2; have HC3 := hid c3; have H3 := hid h3; clear c3 h3 q2 H2)
    | (go_at_call 39; refine HC3.out.mono ?_; clear HC3; rintro e w3 ⟨rfl, q3⟩; obtain ⟨C4, c4, h4⟩ := H3.out w3 q3; have HC4 := hid c4; have H4 := hid h4; clear c4 h4 q3 H3)
    | (go_at_call 40; refine HC4.out.mono ?_; clear HC4; rintro e w4 ⟨n, rfl, q4⟩; have HC5 := hid (H4.out n w4 q4); clear q4 H4)
    | (go_at_call 42; refine HC5.out.mono ?_; clear HC5; rintro e w5 ⟨v', rfl, q5⟩))
  go_returns
  exact q5
set_option maxHeartbeats 1000000 in
set_option maxRecDepth 100000 in
theorem stable_none (a : Option Addr) (cap : Nat) (fv : Value) (w : World) :
    Calls Try.prog 50 #[.slice a 0 cap, .int .i64 0, fv] w fun e w' => e = .returned (.tuple #[]) ∧ w' = w := by
  have HI := hid (fun (w : World) => AnyF.insertionSortCmpFunc_none Try.layInsPairs a cap fv w)
  go_enter Try.func50, Try.ntmps50
  go_wp2
  go_loopg [7, 8] 0 (fun kx sa sb wr => sa = .int .i64 0 ∧ sb = .int .i64 20 ∧ wr = w)
  case atStart => exact ⟨by first | rfl | go_num, by first | rfl | go_num, rfl⟩
  case round =>
    obtain ⟨rfl, rfl, rfl⟩ := hrel
    go_wp2_with (go_at_call 52; refine (HI.out _).mono ?_; rintro e w1 ⟨rfl, rfl⟩)
    go_loopg [6, 7, 8, 9] 0 (fun kx ss sa sb sm wr => ss = .int .i64 20 ∧ wr = w1)
    case atStart => exact ⟨by first | rfl | go_num, rfl⟩
    case round =>
      obtain ⟨rfl, rfl⟩ := hrel
      go_wp2
      go_end0
      exact ⟨rfl, rfl⟩
set_option maxHeartbeats 1000000 in
set_option maxRecDepth 100000 in
theorem sortStable_none (a : Option Addr) (cap : Nat) (fv : Value) (w : World) :
    Calls Try.prog 39 #[.slice a 0 cap, fv] w fun e w' => e = .returned (.tuple #[]) ∧ w' = w := by
  have HI := hid (fun (w : World) => stable_none a cap fv w)
  go_enter Try.func39, Try.ntmps39
  go_wp2_with (go_at_call 50; refine (HI.out _).mono ?_; rintro e w1 ⟨rfl, rfl⟩)
  go_end0
  exact ⟨rfl, rfl⟩
set_option maxHeartbeats 1000000 in
set_option maxRecDepth 100000 in
theorem compact_none (a : Option Addr) (cap : Nat) (fv : Value) (w : World) :
    Calls Try.prog 40 #[.slice a 0 cap, fv] w fun e w' => e = .returned (.slice a 0 cap) ∧ w' = w := by
  go_enter Try.func40, Try.ntmps40
  go_wp2
  go_returns
  exact ⟨rfl, rfl⟩
set_option maxHeartbeats 1000000 in
set_option maxRecDepth 100000 in
theorem index_none (a : Option Addr) (cap : Nat) (fv : Value) (w : World) :
    Calls Try.prog 51 #[.slice a 0 cap, fv] w fun e w' => e = .returned (.int .i64 (-1)) ∧ w' = w := by
  go_enter Try.func51, Try.ntmps51
  go_wp2
  go_loopg [5, 8] 0 (fun kx s5 s8 wr => s8 = .int .i64 0 ∧ wr = w)
  case atStart => exact ⟨by first | rfl | go_num, rfl⟩
  case round =>
    obtain ⟨rfl, rfl⟩ := hrel
    go_wp2
    go_returns
    exact ⟨rfl, rfl⟩
set_option maxHeartbeats 1000000 in
set_option maxRecDepth 100000 in
theorem delete_none (a : Option Addr) (cap : Nat) (fv : Value) (w : World) :
    Calls Try.prog 42 #[.slice a 0 cap, fv] w fun e w' => e = .returned (.slice a 0 cap) ∧ w' = w := by
  have HI := hid (fun (w : World) => index_none a cap fv w)
  go_enter Try.func42, Try.ntmps42
  go_wp2_with (go_at_call 51; refine (HI.out _).mono ?_; rintro e w1 ⟨rfl, rfl⟩)
  go_returns
  exact ⟨rfl, rfl⟩
set_option maxRecDepth 100000 in
theorem clone_none (a : Option Addr) (cap : Nat) (w : World) (ha : ∀ x, a = some x → x.spot = none) :
    Calls Try.prog 37 #[.slice a 0 cap] w fun e w' => ∃ a' cap', e = .returned (.slice a' 0 cap') ∧ ((∀ x, a' = some x → x.spot = none) ∧ (a' = none → cap' = 0)) ∧ Kept [] w w' := by
  cases a with
  | none => exact (AnyE.slices_Clone_nil Try.layClonePairs 0 cap w).mono fun e w' ⟨h1, h2⟩ => ⟨none, 0, h1, ⟨fun x h => (by cases h), fun _ => rfl⟩, by rw [h2]; exact Kept.refl _ _⟩
  | some x =>
    obtain ⟨b, off, sp⟩ := x
    have hsp : sp = none := ha _ rfl
    subst hsp
    obtain ⟨i0, hi, z, hz, hz1, hz2, hz3⟩ : ∃ i0, Try.prog.info? 54 = some i0 ∧ ∃ z, i0.zero = some z ∧ i0.size = 6 ∧ z.cells.size = 6 ∧ i0.bytes ≤ 64 := ⟨_, rfl, _, rfl, by kernel_rfl, by kernel_rfl, by decide⟩
    refine (AnyE.slices_Clone Try.layClonePairs i0 z 6 i0.bytes hi hz hz1 rfl hz2 (by omega) sizP b off 0 cap [] w rfl (by unfold maxLen; omega) (by omega) (fun j u h => by simp at h) (fun u hu => by cases hu)).mono ?_
    rintro e w' ⟨v', rfl, hown, hnil, hb⟩
    rcases hown.2 with ⟨rfl, hz⟩ | ⟨g, cap', cur, rfl, hg1, hg2, hg3, _⟩
    · exact absurd rfl hnil
    · exact ⟨_, cap', rfl, ⟨fun x h => (by cases h; rfl), fun h => (by cases h)⟩, Kept.of_below hb (Nat.le_refl _) []⟩
set_option maxHeartbeats 1000000 in
set_option maxRecDepth 100000 in
theorem sort_none (a : Option Addr) (cap : Nat) (w : World) (ha : ∀ x, a = some x → x.spot = none) :
    Calls Try.prog 25 #[.slice a 0 cap] w fun e w' => ∃ a' cap', e = .returned (.slice a' 0 cap') ∧ ((∀ x, a' = some x → x.spot = none) ∧ (a' = none → cap' = 0)) ∧ Kept [] w w' := by
  have HC := hid (clone_none a cap w ha)
  clear ha
  go_enter Try.func25, Try.ntmps25
  go_wp2_with (first
    | (go_at_call 37; refine HC.out.mono ?_; clear HC; rintro e w1 ⟨a', cap', rfl, hsp, hk⟩; have HSP := hid hsp; clear hsp)
    | (go_at_call 38; refine (AnyQ.slices_Reverse_empty Try.layRevPairs _ _ _).mono ?_; rintro e w2 ⟨rfl, rfl⟩)
    | (go_at_call 39; refine (sortStable_none _ _ _ _).mono ?_; rintro e w2 ⟨rfl, rfl⟩)
    | (go_at_call 40; refine (compact_none _ _ _ _).mono ?_; rintro e w2 ⟨rfl, rfl⟩)
    | (go_at_call 42; refine (delete_none _ _ _ _).mono ?_; rintro e w2 ⟨rfl, rfl⟩))
  go_returns
  exact ⟨_, _, rfl, HSP.out, hk⟩
--@@ end
end Go.Proofs.Ythidbnjijomlmaa
