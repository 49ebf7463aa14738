/- draft.Sort: the map of pairs. -/
import Derived.Test.YtpcpeoejcnndhaaGreatM7
import Derived.Test.YtpcpeoejcnndhaaGreatDel
import Derived.Test.YtpcpeoejcnndhaaGreatM1
import Derived.Test.YtpcpeoejcnndhaaGreatM2
import Derived.Shelf.SlSortCmp.NoneTotal
import Derived.Laws.AppendOwnNone
import Derived.Deep.RegionLaw
set_option linter.all false
namespace Go.Proofs.YtpcpeoejcnndhaaGreat
open Go.RowKit Go.Shelf Go.Lib Go.Sort Go.Proofs
--@@ draft.Sort
set_option maxHeartbeats 1000000 in
theorem eqPair_any (x y : Pr) (w : World) :
    Calls Tryz.prog 80 #[x.v, y.v] w fun e w' => e = .returned (.bool (decide (x.key = y.key))) ∧ ∃ q os, w' = grow (w.drewN q) os := by
  have hq := hid (fun (w : World) => eqK w x.key y.key)
  obtain ⟨⟨a1, a2, a3, a4⟩, ⟨a5, a6⟩⟩ := x
  obtain ⟨⟨b1, b2, b3, b4⟩, ⟨b5, b6⟩⟩ := y
  simp only [K4.v] at hq
  simp only [Pr.v]
  generalize decide ((⟨a1, a2, a3, a4⟩ : K4) = ⟨b1, b2, b3, b4⟩) = r at hq ⊢
  go_enter Tryz.func80, Tryz.ntmps80
  have hq2 := hq.out
  clear hq
  go_wp2
  go_returns
  exact ⟨rfl, 0, _, by rw [alloc_eq_grow, alloc_eq_grow, grow_grow]; rfl⟩
set_option maxHeartbeats 1000000 in
theorem there_any (x : Pr) (w : World) :
    Calls Tryz.prog 82 #[x.v] w fun e w' => e = .returned (.bool (!x.val.there)) ∧ ∃ q os, w' = grow (w.drewN q) os := by
  obtain ⟨⟨a1, a2, a3, a4⟩, ⟨a5, a6⟩⟩ := x
  simp only [Pr.v]
  go_enter Tryz.func82, Tryz.ntmps82
  go_wp2
  go_returns
  exact ⟨rfl, 0, _, by rw [alloc_eq_grow]; rfl⟩
theorem ownsRow_holds {w : World} {base n g cap : Nat} {e : TypeId} {l : List Pr} (h : w.ownsRow base e 6 (.slice (some ⟨g, 0, none⟩) n cap) n (l.flatMap Pr.f)) (hn : n = l.length) (d : Array (Pr × Nat)) (hd : d.size = l.length) (hx : ∀ x, x < d.size → d[x]!.1 = l[x]!) : HoldsK encT 6 w g 0 d := by
  refine holds_of_cells encT_len d (fun i hi j u hu => ?_) (fun j => h.frozenAt j)
  have hj : j < 6 := by have := (List.getElem?_eq_some_iff.1 hu).1; rwa [encT_len] at this
  have hb : i * 6 + j < l.length * 6 := by rw [hd] at hi; omega
  have hg := rowK_at (enc := Pr.f) (k := 6) (fun x => rfl) l (i * 6 + j) hb
  rw [show (i * 6 + j) / 6 = i by omega, show (i * 6 + j) % 6 = j by omega, ← hx i hi] at hg
  have := h.cells (g := g) rfl (i * 6 + j) u (by rw [hg]; exact hu)
  rw [Addr.add_lit] at this
  rw [show 0 + i * 6 + j = 0 + (i * 6 + j) by omega]
  exact this
set_option maxHeartbeats 1000000 in
set_option maxRecDepth 100000 in
theorem clone_any (v : Value) (l : List Pr) (w : World) (h : SlAt w v 6 l.length (l.flatMap Pr.f)) (hl : l.length ≤ 100000) (hne : 0 < l.length) :
    Calls Tryz.prog 75 #[v] w fun e w' => ∃ g cap, e = .returned (.slice (some ⟨g, 0, none⟩) l.length cap) ∧ w.heap.size ≤ g ∧ g < w'.heap.size ∧ l.length ≤ cap ∧ w'.ownsRow w.heap.size 57 6 (.slice (some ⟨g, 0, none⟩) l.length cap) l.length (l.flatMap Pr.f) ∧ Kept [] w w' := by
  obtain ⟨a, cap, rfl, h1, h2, h3⟩ := h.ex
  obtain ⟨b, off, rfl, h4, h5⟩ := h3 hne
  obtain ⟨i0, hi, z, hz, hz1, hz2, hz3⟩ : ∃ i0, Tryz.prog.info? 57 = some i0 ∧ ∃ z, i0.zero = some z ∧ i0.size = 6 ∧ z.cells.size = 6 ∧ i0.bytes ≤ 64 := ⟨_, rfl, _, rfl, by kernel_rfl, by kernel_rfl, by decide⟩
  refine (AnyE.slices_Clone Tryz.layClonePairs i0 z 6 i0.bytes hi hz hz1 rfl hz2 (by omega) sizP b off l.length cap (l.flatMap Pr.f) w h2 (by unfold maxLen; omega) ?_ h5 ?_).mono ?_
  · have := Nat.mul_le_mul (Nat.le_refl l.length) hz3; omega
  · intro u hu
    obtain ⟨x, _, hx⟩ := List.mem_flatMap.1 hu
    exact encT_one (x, 0) u hx
  · rintro e w' ⟨v', rfl, hown, hnil, hb⟩
    have hown' := hown
    rcases hown.2 with ⟨rfl, hz⟩ | ⟨g, cap', cur, rfl, hg1, hg2, hg3, _⟩
    · exact absurd rfl hnil
    · exact ⟨g, cap', rfl, hg1, (Array.getElem?_eq_some_iff.1 hg2).1, hg3, hown', Kept.of_below hb (Nat.le_refl _) []⟩
theorem tagged_rev (l : List Pr) : (tagged l).reverse.size = l.length ∧ ∀ x, x < (tagged l).reverse.size → (tagged l).reverse[x]!.1 = l[x]! := by
  refine ⟨by simp [tagged], fun x hx => ?_⟩
  have hx' : x < l.length := by simpa [tagged] using hx
  rw [getElem!_pos _ x hx, getElem!_pos l x hx']
  simp [tagged]
  congr 1
  omega
theorem swk_holds_rev {w1 : World} {n g : Nat} (d : Array (Pr × Nat)) (hH : HoldsK encT 6 w1 g 0 d) (hg : g < w1.heap.size) (d' : Array (Pr × Nat)) (hs : d'.size = d.size) :
    HoldsK encT 6 (putRowK encT 6 (Sort.ahead w1 n) g 0 d') g 0 d' ∧ Kept [g] w1 (putRowK encT 6 (Sort.ahead w1 n) g 0 d') ∧ g < (putRowK encT 6 (Sort.ahead w1 n) g 0 d').heap.size := by
  refine ⟨holdsK_putRowK encT 6 _ g 0 d d' (holdsK_ahead encT 6 w1 n g 0 d hH) hs, swk_kept (dk := d') (enc := encT) (k := 6) (off := 0) ⟨n, #[], by unfold sortWorldK; rw [grow_empty]⟩, by rw [size_putRowK]; exact hg⟩
theorem sortP_flat (c : List (Pr × Nat)) : (c.filter fun x => !(!x.1.val.there)).map (·.1) = thereP (c.map (·.1)) := by
  induction c with
  | nil => rfl
  | cons x c ih =>
    unfold thereP at ih ⊢
    simp only [List.map_cons, List.filter_cons, Bool.not_not] at ih ⊢
    split
    · simp [ih]
    · exact ih
theorem flat_fst (c : List (Pr × Nat)) : c.flatMap encT = (c.map (·.1)).flatMap Pr.f := by
  induction c with
  | nil => rfl
  | cons x c ih => simp [ih, encT]
set_option maxHeartbeats 4000000 in
set_option maxRecDepth 100000 in
theorem sort_own (g cap : Nat) (l : List Pr) (w1 : World) (hne : 0 < l.length) (hl : l.length ≤ 100000) (hcap : l.length ≤ cap) (hg : g < w1.heap.size) (hH : HoldsK encT 6 w1 g 0 (tagged l).reverse) (Q : Ending → World → Prop)
    (hQ : ∀ v' w', (∃ n c, v' = .slice (some ⟨g, 0, none⟩) n c) → SlAt w' v' 6 (sortP l).length ((sortP l).flatMap Pr.f) → Kept [g] w1 w' → Q (.returned v') w') :
    ∃ C2 : World → Prop, Calls Tryz.prog 76 #[.slice (some ⟨g, 0, none⟩) l.length cap] w1 (fun e w' => e = .returned (.tuple #[]) ∧ C2 w') ∧
    ∀ w2, C2 w2 → ∃ C3 : World → Prop, Calls Tryz.prog 77 #[.slice (some ⟨g, 0, none⟩) l.length cap, .func (.func 78) #[] #[]] w2 (fun e w' => e = .returned (.tuple #[]) ∧ C3 w') ∧
    ∀ w3, C3 w3 → ∃ C4 : Nat → World → Prop, Calls Tryz.prog 79 #[.slice (some ⟨g, 0, none⟩) l.length cap, .func (.func 80) #[] #[]] w3 (fun e w' => ∃ n, e = .returned (.slice (some ⟨g, 0, none⟩) n cap) ∧ C4 n w') ∧
    ∀ n w4, C4 n w4 → Calls Tryz.prog 81 #[.slice (some ⟨g, 0, none⟩) n cap, .func (.func 82) #[] #[]] w4 fun e w' => ∃ v', e = .returned v' ∧ Q (.returned v') w' := by
  obtain ⟨hs, _⟩ := tagged_rev l
  have hts := tagged_size l
  refine ⟨fun w2 => HoldsK encT 6 w2 g 0 (tagged l) ∧ Kept [g] w1 w2 ∧ g < w2.heap.size, ?_, fun w2 ⟨H2, K2, g2⟩ => ?_⟩
  · have := AnyQ.slices_Reverse Tryz.layRevPairs 6 aggP sizP encT encT_len encT_one g 0 cap (tagged l).reverse w1 hH (by omega)
    rw [hs] at this
    refine this.mono ?_
    rintro e w' ⟨rfl, n, rfl⟩
    rw [Array.reverse_reverse]
    exact ⟨rfl, swk_holds_rev _ hH hg (tagged l) (by omega)⟩
  have R2 : RowK encT 6 w2 g 0 (tagged l) := ⟨encT_len, encT_one, H2, g2⟩
  refine ⟨fun w3 => SWK encT 6 w2 g 0 (stab (ltOf cfT) (tagged l).size (tagged l)) w3, ?_, fun w3 S3 => ?_⟩
  · have := sortStable_any g 0 cap (tagged l) (tagged l) w2 w2 R2 rfl (SWK.start H2) (by omega)
    rw [hts] at this ⊢
    exact this
  have hlaw := sort_law l
  have zs : (stab (ltOf cfT) (tagged l).size (tagged l)).size = (tagged l).size := size_stab _ _ _
  generalize stab (ltOf cfT) (tagged l).size (tagged l) = st at S3 hlaw zs
  generalize hc : selN (fun j => j == 0 || !eqT st[j]! st[j - 1]!) st st.size = c at hlaw
  refine ⟨fun n w4 => HoldsK encT 6 w4 g 0 c.toArray ∧ n = c.length ∧ c.length ≤ cap ∧ c.length ≤ 100000 ∧ Kept [g] w1 w4 ∧ g < w4.heap.size, ?_, fun n w4 ⟨H4, hn, hcc, hc1, K4, g4⟩ => ?_⟩
  · have := compact_gen sfacts Tryz.func79 6 aggP sizP encT (⟨⟨0, 0, 0, 0⟩, V.zero⟩, 0) (fun w => by kernel_rfl) eqT 80 #[] g 0 cap (tagged l) st w2 w3 (enters_of Tryz.func80 (by kernel_rfl) rfl) (fun W x y => eqPair_any x.1 y.1 W) R2 zs.symm S3 (by omega) (by omega) _ rfl
    rw [hc] at this
    rw [show l.length = st.size by omega]
    refine this.mono ?_
    rintro e w' ⟨d', n, rfl, hlaid, hn, hds, S4⟩
    have hH' := S4.holds R2.hblk R2.hH (by omega)
    refine ⟨n, rfl, holdsK_laid encT_len hH' c (by rw [hlaid.1]; omega) (fun x hx => hlaid.2 x (by rw [← hlaid.1]; exact hx)), hlaid.1.symm, by rw [hlaid.1]; omega, by rw [hlaid.1]; omega, K2.trans (swk_kept S4) (fun x hx => .inl hx), S4.lt R2.hblk⟩
  · have R4 : RowK encT 6 w4 g 0 c.toArray := ⟨encT_len, encT_one, H4, g4⟩
    have := delete_gen sfacts Tryz.func81 Tryz.func63 6 aggP sizP encT (⟨⟨0, 0, 0, 0⟩, V.zero⟩, 0) (fun w => by kernel_rfl) (fun x => !x.1.val.there) 82 #[] g 0 cap c.toArray c.toArray w4 w4 (enters_of Tryz.func82 (by kernel_rfl) rfl) (fun W x => there_any x.1 W) R4 rfl (SWK.start H4) (by simp; omega) (by simpa using hcc) _ rfl
    rw [show n = c.toArray.size by simpa using hn]
    refine this.mono ?_
    rintro e w' ⟨d', n', rfl, hlaid, hn', hds, S5⟩
    rw [selN_filter (fun x => !(!x.1.val.there)) c.toArray c.toArray.size (Nat.le_refl _), List.take_of_length_le (by simp)] at hlaid
    refine ⟨_, rfl, hQ _ _ ⟨_, _, rfl⟩ ?_ (K4.trans (swk_kept S5) fun x hx => .inl hx)⟩
    have hr := holdsK_slAt (w := w') encT_len (S5.holds R4.hblk R4.hH hds) (S5.lt R4.hblk) (c.filter fun x => !(!x.1.val.there)) cap (by rw [hlaid.1]; omega) (fun x hx => hlaid.2 x (by rw [← hlaid.1]; exact hx)) (by rw [hlaid.1]; simp at hn'; omega)
    rw [flat_fst, sortP_flat, hlaw] at hr
    have e : (c.filter fun x => !(!x.1.val.there)).length = (sortP l).length := by
      have := congrArg List.length (sortP_flat c)
      rw [hlaw] at this
      simpa [sortP] using this
    rw [e] at hr
    have e2 : n' = (sortP l).length := by rw [← e, ← hlaid.1]
    rw [e2]
    exact hr
set_option maxHeartbeats 4000000 in
set_option maxRecDepth 100000 in
theorem sort_someF (v : Value) (l : List Pr) (w : World) (h : SlAt w v 6 l.length (l.flatMap Pr.f)) (hl : l.length ≤ 100000) (hne : 0 < l.length) :
    Calls Tryz.prog 67 #[v] w fun e w' => ∃ v', e = .returned v' ∧ (∃ g n c, v' = .slice (some ⟨g, 0, none⟩) n c ∧ w.heap.size ≤ g) ∧ SlAt w' v' 6 (sortP l).length ((sortP l).flatMap Pr.f) ∧ Kept [] w w' := by
  have HC := hid (clone_any v l w h hl hne)
  clear h
  go_enter Tryz.func67, Tryz.ntmps67
  go_wp2_with (first
    | (go_at_call 75; refine HC.out.mono ?_; clear HC; rintro e w1 ⟨g, cap, rfl, hg0, hg, hcap, hown, hk⟩;
       obtain ⟨C2, c2, h2⟩ := sort_own g cap l w1 hne hl hcap hg (ownsRow_holds hown rfl _ (tagged_rev l).1 (tagged_rev l).2) (fun e w' => ∃ v', e = .returned v' ∧ (∃ g n c, v' = .slice (some ⟨g, 0, none⟩) n c ∧ w.heap.size ≤ g) ∧ SlAt w' v' 6 (sortP l).length ((sortP l).flatMap Pr.f) ∧ Kept [] w w') (fun v' w' hv hs hk' => ⟨v', rfl, (by obtain ⟨n, c, hv⟩ := hv; exact ⟨g, n, c, hv, hg0⟩), hs, hk.trans hk' (fun x hx => .inr (by simp at hx; omega))⟩);
       have HC2 := hid c2; have H2 := hid h2; clear c2 h2 hown)
    | (go_at_call 76; refine HC2.out.mono ?_; clear HC2; rintro e w2 ⟨rfl, q2⟩; obtain ⟨C3, c3, h3⟩ := H2.out w2 q2; have HC3 := hid c3; have H3 := hid h3; clear c3 h3 q2 H2)
    | (go_at_call 77; refine HC3.out.mono ?_; clear HC3; rintro e w3 ⟨rfl, q3⟩; obtain ⟨C4, c4, h4⟩ := H3.out w3 q3; have HC4 := hid c4; have H4 := hid h4; clear c4 h4 q3 H3)
    | (go_at_call 79; refine HC4.out.mono ?_; clear HC4; rintro e w4 ⟨n, rfl, q4⟩; have HC5 := hid (H4.out n w4 q4); clear q4 H4)
    | (go_at_call 81; refine HC5.out.mono ?_; clear HC5; rintro e w5 ⟨v', rfl, q5⟩))
  go_returns
  exact q5
theorem sort_some (v : Value) (l : List Pr) (w : World) (h : SlAt w v 6 l.length (l.flatMap Pr.f)) (hl : l.length ≤ 100000) (hne : 0 < l.length) :
    Calls Tryz.prog 67 #[v] w fun e w' => ∃ v', e = .returned v' ∧ (∃ g n c, v' = .slice (some ⟨g, 0, none⟩) n c) ∧ SlAt w' v' 6 (sortP l).length ((sortP l).flatMap Pr.f) ∧ Kept [] w w' :=
  (sort_someF v l w h hl hne).mono fun e w' ⟨v', h1, ⟨g, n, c, h2, _⟩, h3, h4⟩ => ⟨v', h1, ⟨g, n, c, h2⟩, h3, h4⟩
set_option maxHeartbeats 1000000 in
set_option maxRecDepth 100000 in
theorem stable_none (a : Option Addr) (cap : Nat) (fv : Value) (w : World) :
    Calls Tryz.prog 104 #[.slice a 0 cap, .int .i64 0, fv] w fun e w' => e = .returned (.tuple #[]) ∧ w' = w := by
  have HI := hid (fun (w : World) => AnyF.insertionSortCmpFunc_none Tryz.layInsPairs a cap fv w)
  go_enter Tryz.func104, Tryz.ntmps104
  go_wp2
  go_loopg [7, 8] 0 (fun kx sa sb wr => sa = .int .i64 0 ∧ sb = .int .i64 20 ∧ wr = w)
  case atStart => exact ⟨by first | rfl | go_num, by first | rfl | go_num, rfl⟩
  case round =>
    obtain ⟨rfl, rfl, rfl⟩ := hrel
    go_wp2_with (go_at_call 95; refine (HI.out _).mono ?_; rintro e w1 ⟨rfl, rfl⟩)
    go_loopg [6, 7, 8, 9] 0 (fun kx ss sa sb sm wr => ss = .int .i64 20 ∧ wr = w1)
    case atStart => exact ⟨by first | rfl | go_num, rfl⟩
    case round =>
      obtain ⟨rfl, rfl⟩ := hrel
      go_wp2
      go_end0
      exact ⟨rfl, rfl⟩
set_option maxHeartbeats 1000000 in
set_option maxRecDepth 100000 in
theorem sortStable_none (a : Option Addr) (cap : Nat) (fv : Value) (w : World) :
    Calls Tryz.prog 77 #[.slice a 0 cap, fv] w fun e w' => e = .returned (.tuple #[]) ∧ w' = w := by
  have HI := hid (fun (w : World) => stable_none a cap fv w)
  go_enter Tryz.func77, Tryz.ntmps77
  go_wp2_with (go_at_call 104; refine (HI.out _).mono ?_; rintro e w1 ⟨rfl, rfl⟩)
  go_end0
  exact ⟨rfl, rfl⟩
set_option maxHeartbeats 1000000 in
set_option maxRecDepth 100000 in
theorem compact_none (a : Option Addr) (cap : Nat) (fv : Value) (w : World) :
    Calls Tryz.prog 79 #[.slice a 0 cap, fv] w fun e w' => e = .returned (.slice a 0 cap) ∧ w' = w := by
  go_enter Tryz.func79, Tryz.ntmps79
  go_wp2
  go_returns
  exact ⟨rfl, rfl⟩
set_option maxHeartbeats 1000000 in
set_option maxRecDepth 100000 in
theorem index_none (a : Option Addr) (cap : Nat) (fv : Value) (w : World) :
    Calls Tryz.prog 63 #[.slice a 0 cap, fv] w fun e w' => e = .returned (.int .i64 (-1)) ∧ w' = w := by
  go_enter Tryz.func63, Tryz.ntmps63
  go_wp2
  go_loopg [5, 8] 0 (fun kx s5 s8 wr => s8 = .int .i64 0 ∧ wr = w)
  case atStart => exact ⟨by first | rfl | go_num, rfl⟩
  case round =>
    obtain ⟨rfl, rfl⟩ := hrel
    go_wp2
    go_returns
    exact ⟨rfl, rfl⟩
set_option maxHeartbeats 1000000 in
set_option maxRecDepth 100000 in
theorem delete_none (a : Option Addr) (cap : Nat) (fv : Value) (w : World) :
    Calls Tryz.prog 81 #[.slice a 0 cap, fv] w fun e w' => e = .returned (.slice a 0 cap) ∧ w' = w := by
  have HI := hid (fun (w : World) => index_none a cap fv w)
  go_enter Tryz.func81, Tryz.ntmps81
  go_wp2_with (go_at_call 63; refine (HI.out _).mono ?_; rintro e w1 ⟨rfl, rfl⟩)
  go_returns
  exact ⟨rfl, rfl⟩
set_option maxRecDepth 100000 in
theorem clone_none (a : Option Addr) (cap : Nat) (w : World) (ha : ∀ x, a = some x → x.spot = none) :
    Calls Tryz.prog 75 #[.slice a 0 cap] w fun e w' => ∃ a' cap', e = .returned (.slice a' 0 cap') ∧ ((∀ x, a' = some x → x.spot = none) ∧ (a' = none → cap' = 0)) ∧ Kept [] w w' := by
  cases a with
  | none => exact (AnyE.slices_Clone_nil Tryz.layClonePairs 0 cap w).mono fun e w' ⟨h1, h2⟩ => ⟨none, 0, h1, ⟨fun x h => (by cases h), fun _ => rfl⟩, by rw [h2]; exact Kept.refl _ _⟩
  | some x =>
    obtain ⟨b, off, sp⟩ := x
    have hsp : sp = none := ha _ rfl
    subst hsp
    obtain ⟨i0, hi, z, hz, hz1, hz2, hz3⟩ : ∃ i0, Tryz.prog.info? 57 = some i0 ∧ ∃ z, i0.zero = some z ∧ i0.size = 6 ∧ z.cells.size = 6 ∧ i0.bytes ≤ 64 := ⟨_, rfl, _, rfl, by kernel_rfl, by kernel_rfl, by decide⟩
    refine (AnyE.slices_Clone Tryz.layClonePairs i0 z 6 i0.bytes hi hz hz1 rfl hz2 (by omega) sizP b off 0 cap [] w rfl (by unfold maxLen; omega) (by omega) (fun j u h => by simp at h) (fun u hu => by cases hu)).mono ?_
    rintro e w' ⟨v', rfl, hown, hnil, hb⟩
    rcases hown.2 with ⟨rfl, hz⟩ | ⟨g, cap', cur, rfl, hg1, hg2, hg3, _⟩
    · exact absurd rfl hnil
    · exact ⟨_, cap', rfl, ⟨fun x h => (by cases h; rfl), fun h => (by cases h)⟩, Kept.of_below hb (Nat.le_refl _) []⟩
set_option maxHeartbeats 1000000 in
set_option maxRecDepth 100000 in
theorem sort_none (a : Option Addr) (cap : Nat) (w : World) (ha : ∀ x, a = some x → x.spot = none) :
    Calls Tryz.prog 67 #[.slice a 0 cap] w fun e w' => ∃ a' cap', e = .returned (.slice a' 0 cap') ∧ ((∀ x, a' = some x → x.spot = none) ∧ (a' = none → cap' = 0)) ∧ Kept [] w w' := by
  have HC := hid (clone_none a cap w ha)
  clear ha
  go_enter Tryz.func67, Tryz.ntmps67
  go_wp2_with (first
    | (go_at_call 75; refine HC.out.mono ?_; clear HC; rintro e w1 ⟨a', cap', rfl, hsp, hk⟩; have HSP := hid hsp; clear hsp)
    | (go_at_call 76; refine (AnyQ.slices_Reverse_empty Tryz.layRevPairs _ _ _).mono ?_; rintro e w2 ⟨rfl, rfl⟩)
    | (go_at_call 77; refine (sortStable_none _ _ _ _).mono ?_; rintro e w2 ⟨rfl, rfl⟩)
    | (go_at_call 79; refine (compact_none _ _ _ _).mono ?_; rintro e w2 ⟨rfl, rfl⟩)
    | (go_at_call 81; refine (delete_none _ _ _ _).mono ?_; rintro e w2 ⟨rfl, rfl⟩))
  go_returns
  exact ⟨_, _, rfl, HSP.out, hk⟩
--@@ end
--@@ end
--@@ slices.Concat
set_option maxRecDepth 100000 in
theorem grow_nil (n : Nat) (w : World) (hl : n ≤ 100000) :
    Calls Tryz.prog 83 #[.slice none 0 0, .int .i64 n] w fun e w' => ∃ v, e = .returned v ∧ w'.ownsRow w.heap.size 57 6 v 0 [] ∧ Kept [] w w' := by
  rcases Nat.eq_zero_or_pos n with rfl | hn
  · refine (Any8.slices_Grow_room Tryz.layGrowPairs none 0 0 0 w (by omega) (by omega) (by omega) (by omega)).mono ?_
    rintro e w' ⟨rfl, rfl⟩
    exact ⟨_, rfl, ⟨rfl, .inl ⟨rfl, rfl⟩⟩, Kept.refl _ _⟩
  · obtain ⟨i0, hi, z, hz, hz1, hz2, hz3⟩ : ∃ i0, Tryz.prog.info? 57 = some i0 ∧ ∃ z, i0.zero = some z ∧ i0.size = 6 ∧ z.cells.size = 6 ∧ i0.bytes ≤ 64 := ⟨_, rfl, _, rfl, by kernel_rfl, by kernel_rfl, by decide⟩
    refine (Any8.slices_Grow_grow Tryz.layGrowPairs i0 z hi hz (by omega) none 0 0 n [] w (by omega) (by omega) (by have := Nat.mul_le_mul (Nat.le_refl (0 + n)) hz3; omega) (by omega) (by simp) (fun _ => rfl) (fun a h => by cases h)).mono ?_
    rintro e w' ⟨rfl, rfl⟩
    have hge := grownCap_ge w (0 + n) 0 57
    have hle := grownCap_le_maxLen w (0 + n) 0 57 (by unfold maxLen; omega)
    refine ⟨_, rfl, ⟨rfl, .inr ⟨w.heap.size, _, _, rfl, Nat.le_refl _, heap_alloc_new w.drew _, Nat.zero_le _, hle, ?_, by simp⟩⟩, (Kept.refl [] w).drew.alloc _⟩
    have hge2 : 0 + n ≤ grownCap w (0 + n) 0 (Tryz.layGrowPairs_ren.t 25) := hge
    have e1 : ∀ m, (Builtin.zeroCells z.cells m).size = m * 6 := fun m => by rw [size_zeroCells, hz2]
    generalize grownCap w (0 + n) 0 (Tryz.layGrowPairs_ren.t 25) = c at hge2 ⊢
    simp only [Array.size_append, e1]
    simp
    omega
theorem pairInfo : (Tryz.prog.info? 57).map (fun i => (i.zero, i.size, i.bytes)) = some (some (.agg #[.int .u8 0, .int .u8 0, .int .u8 0, .int .u8 0, .bool false, .int .i64 0]), 6, 24) := by kernel_rfl
theorem wpList_append_pr {w : World} {ops : Array Oper} {rest : List Oper} {o : Oper} {a : Act} {Q : Exit → Act → World → Prop} (hgd : o.guard = none) (s x : Operand)
    (ho : o.op = .call { callee := .builtin .append, args := #[s, x], argTypes := #[29, 29] })
    (base : Nat) (v : Value) (n : Nat) (xs : List Value) (hs : a.eval s = v) (hown : w.ownsRow base 57 6 v n xs) (vx : Value) (l : List Pr) (hx : a.eval x = vx) (hp : PrAt w vx l)
    (hn : n + l.length ≤ 100000) (hbase : base ≤ w.heap.size)
    (h : ∀ v' w', w'.ownsRow base 57 6 v' (n + l.length) (xs ++ l.flatMap Pr.f) → w.grownBy w' v.ownBlock → wpList Tryz.prog ops Q rest (a.put o.dst v') w') : wpList Tryz.prog ops Q (o :: rest) a w := by
  obtain ⟨ax, c, rfl, h1, h2, h3⟩ := hp.at'.ex
  obtain ⟨i, hi, hz0, hz1, hz2⟩ := info_parts pairInfo
  cases ax with
  | none =>
    have hl0 : l = [] := by
      cases l with
      | nil => rfl
      | cons y l => obtain ⟨b, off, e, _⟩ := h3 (by simp); cases e
    subst hl0
    have hc0 := hp.nl _ _ rfl
    subst hc0
    refine wpList_append_own_none hgd s x 29 ho base 57 i 6 Tryz.underlying29 hi v n xs hs hown hx (h v w (by simpa using hown) ?_)
    exact World.grownBy.refl _ _
  | some ad =>
    refine wpList_append_is hgd s x 29 ho 57 _ 6 24 Tryz.underlying29 pairInfo rfl (by decide) (by decide) base v n xs hs hown ad l.length c (l.flatMap Pr.f) hx h2 ?_ ?_ (by omega) hbase (fun v' w' g1 g2 _ => h v' w' g1 g2)
    · intro j u hj
      have hpos : 0 < l.length := by
        cases l with
        | nil => simp at hj
        | cons y l => simp
      obtain ⟨b, off, e, _, hcs⟩ := h3 hpos
      cases e
      rw [Addr.add_lit]
      exact hcs j u hj
    · intro u hu
      obtain ⟨y, _, hy⟩ := List.mem_flatMap.1 hu
      exact encT_one (y, 0) u hy
set_option maxHeartbeats 4000000 in
set_option maxRecDepth 100000 in
theorem concat_any (B : Nat) (v1 v2 : Value) (l1 l2 : List Pr) (w : World) (hB : w.heap[B]? = some (.cells #[v1, v2] 29 (0, 0))) (h1 : PrAt w v1 l1) (h2 : PrAt w v2 l2) (m1 : l1.length ≤ 20000) (m2 : l2.length ≤ 20000) :
    Calls Tryz.prog 68 #[.slice (some ⟨B, 0, none⟩) 2 2] w fun e w' => ∃ v, e = .returned v ∧ PrAt w' v (l1 ++ l2) ∧ Kept [] w w' := by
  have c0 : w.cell? ⟨B, 0, none⟩ = some v1 := by simp [World.cell?, hB]
  have c1 : w.cell? ⟨B, 1, none⟩ = some v2 := by simp [World.cell?, hB]
  obtain ⟨a1, cap1, rfl, _⟩ := h1.at'.ex
  obtain ⟨a2, cap2, rfl, _⟩ := h2.at'.ex
  have HB := hid hB
  have H1 := hid h1
  have H2 := hid h2
  clear hB h1 h2
  go_enter Tryz.func68, Tryz.ntmps68
  go_wp2
  go_loopg [3, 11] 2 (fun kx s3 s11 wr => wr = w ∧ ∃ (k : Nat), s11 = .int .i64 k ∧ k ≤ 2 ∧ 2 - k ≤ kx ∧ ((k = 0 ∧ s3 = .int .i64 0) ∨ (k = 1 ∧ s3 = .int .i64 (l1.length : Int)) ∨ (k = 2 ∧ s3 = .int .i64 ((l1.length + l2.length : Nat) : Int))))
  case atStart => exact ⟨rfl, 0, by first | rfl | go_num, by omega, by omega, .inl ⟨rfl, by first | rfl | go_num⟩⟩
  case round =>
    obtain ⟨rfl, k, rfl, hk, hkx, ⟨rfl, rfl⟩ | ⟨rfl, rfl⟩ | ⟨rfl, rfl⟩⟩ := hrel
    · have hpos : (0 : Int) ≤ (l1.length : Int) := by omega
      go_wp2
      go_roundg 1
      case measure => omega
      case rel => exact ⟨rfl, 1, by first | rfl | go_num, by omega, by omega, .inr (.inl ⟨rfl, by first | rfl | go_num⟩)⟩
    · have hpos : (0 : Int) ≤ (l1.length : Int) + (l2.length : Int) := by omega
      go_wp2
      go_roundg 0
      case measure => omega
      case rel => exact ⟨rfl, 2, by first | rfl | go_num, by omega, by omega, .inr (.inr ⟨rfl, by first | rfl | go_num | (congr 1; omega)⟩)⟩
    · go_wp2_with (first | (go_at_call 83; refine (grow_nil (l1.length + l2.length) _ (by omega)).mono ?_; rintro e w1 ⟨v, rfl, hown, hk⟩))
      have HO := hid hown
      have HK := hid hk
      clear hown hk
      go_loopg [6, 27] 2 (fun kx s6 s27 w2 => ∃ (k : Nat) (acc : List Pr), s27 = .int .i64 k ∧ k ≤ 2 ∧ 2 - k ≤ kx ∧ ((k = 0 ∧ acc = []) ∨ (k = 1 ∧ acc = l1) ∨ (k = 2 ∧ acc = l1 ++ l2)) ∧ Aside (w2.ownsRow wr.heap.size 57 6 s6 acc.length (acc.flatMap Pr.f)) ∧ Aside (Kept [] wr w2))
      case atStart => exact ⟨0, [], by first | rfl | go_num, by omega, by omega, .inl ⟨rfl, rfl⟩, HO.out, HK.out⟩
      case round =>
        clear HO HK
        obtain ⟨k, acc, rfl, hk, hkx, hcase, HO, HK⟩ := hrel
        have b0 := HK.out.cell c0 (by simp)
        have b1 := HK.out.cell c1 (by simp)
        have hsz := HK.out.size
        rcases hcase with ⟨rfl, rfl⟩ | ⟨rfl, rfl⟩ | ⟨rfl, rfl⟩
        · go_wp2_with (first | (at_builtin; refine wpList_append_pr rfl _ _ rfl _ _ _ _ rfl HO.out _ l1 rfl (H1.out.kept HK.out) (by simp; omega) hsz ?_; intro v' w3 hown3 hgrow))
          have HK3 := hid (HK.out.grown_own HO.out hgrow (Nat.le_refl _))
          have HO3 := hid hown3
          clear hown3 hgrow
          go_roundg 1
          case measure => omega
          case rel => exact ⟨1, l1, by first | rfl | go_num, by omega, by omega, .inr (.inl ⟨rfl, rfl⟩), by have := HO3.out; show World.ownsRow _ _ _ _ _ _ _; simpa using this, HK3.out⟩
        · go_wp2_with (first | (at_builtin; refine wpList_append_pr rfl _ _ rfl _ _ _ _ rfl HO.out _ l2 rfl (H2.out.kept HK.out) (by omega) hsz ?_; intro v' w3 hown3 hgrow))
          have HK3 := hid (HK.out.grown_own HO.out hgrow (Nat.le_refl _))
          have HO3 := hid hown3
          clear hown3 hgrow
          go_roundg 0
          case measure => omega
          case rel => exact ⟨2, acc ++ l2, by first | rfl | go_num, by omega, by omega, .inr (.inr ⟨rfl, rfl⟩), by have := HO3.out; show World.ownsRow _ _ _ _ _ _ _; rw [List.flatMap_append, List.length_append]; exact this, HK3.out⟩
        · go_wp2
          go_returns
          exact ⟨_, rfl, PrAt.of_own HO.out rfl, HK.out⟩
--@@ (*draft.Draft).Over
theorem sort_prF (v : Value) (l : List Pr) (w : World) (h : PrAt w v l) (hl : l.length ≤ 100000) :
    Calls Tryz.prog 67 #[v] w fun e w' => ∃ v', e = .returned v' ∧ PrAt w' v' (sortP l) ∧ Kept [] w w' ∧ ∀ a n c, v' = .slice (some a) n c → 0 < n → w.heap.size ≤ a.block := by
  rcases Nat.eq_zero_or_pos l.length with h0 | hne
  · have hl0 : l = [] := List.eq_nil_of_length_eq_zero h0
    subst hl0
    obtain ⟨a, cap, rfl, h1, h2, h3⟩ := h.at'.ex
    refine (sort_none a cap w (fun x hx => h.sp x 0 cap (by rw [hx]; rfl))).mono ?_
    rintro e w' ⟨a', cap', rfl, ⟨hsp, hnl⟩, hk⟩
    exact ⟨_, rfl, ⟨⟨a', cap', rfl, Nat.zero_le _, rfl, fun h => absurd h (Nat.lt_irrefl 0)⟩, fun a n c hv => (by cases hv; exact hsp _ rfl), fun n c hv => (by cases hv; exact hnl rfl)⟩, hk, fun a n c hv hn => (by cases hv; exact absurd hn (Nat.lt_irrefl 0))⟩
  · refine (sort_someF v l w h.at' hl hne).mono ?_
    rintro e w' ⟨v', rfl, ⟨g, n, c, rfl, hf⟩, h1, h2⟩
    exact ⟨_, rfl, ⟨h1, fun a n c hv => (by cases hv; rfl), fun n c hv => (by cases hv)⟩, h2, fun a n c hv hn => (by cases hv; exact hf)⟩
theorem sort_pr (v : Value) (l : List Pr) (w : World) (h : PrAt w v l) (hl : l.length ≤ 100000) :
    Calls Tryz.prog 67 #[v] w fun e w' => ∃ v', e = .returned v' ∧ PrAt w' v' (sortP l) ∧ Kept [] w w' :=
  (sort_prF v l w h hl).mono fun e w' ⟨v', h1, h2, h3, _⟩ => ⟨v', h1, h2, h3⟩
theorem keysP_len (l : List Pr) : (keysP l).length ≤ l.length := by
  have ins : ∀ (p : Pr) (m : List Pr), (insP p m).length ≤ m.length + 1 := fun p m => by
    induction m with
    | nil => simp [insP]
    | cons q m ih => unfold insP; split <;> (try split) <;> simp <;> omega
  have key : ∀ (l m : List Pr), (l.foldl (fun out p => insP p out) m).length ≤ m.length + l.length := fun l => by
    induction l with
    | nil => intro m; simp
    | cons p l ih => intro m; have h1 := ih (insP p m); have h2 := ins p m; simp only [List.foldl_cons, List.length_cons]; omega
  have := key l []
  simpa [keysP] using this
--@@ end
theorem heap_put {w : World} {b : Nat} {cs : Array Value} {t : TypeId} {fr : Nat × Nat} (h : w.heap[b]? = some (.cells cs t fr)) (o : Nat) (u : Value) : (w.setCell ⟨b, o, none⟩ u).heap[b]? = some (.cells (cs.setIfInBounds o u) t fr) := by
  simp [World.setCell, Array.getElem?_modify, h]
--@@ (*redo.player).whole
set_option maxHeartbeats 2000000 in
set_option maxRecDepth 100000 in
theorem whole_any {n0 A m lo : Nat} {bv tv : Value} {ws : List (Int × Wo)} {p : Pl} (w : World) (H : PlayIs w n0 A m bv tv lo ws p) (hl : p.taken.length ≤ 100000) :
    Calls Tryz.prog 50 #[.pointer (some ⟨A, 0, none⟩)] w fun e w' => e = .returned (.tuple #[]) ∧ PlayAt w' n0 A (wholeP p) ∧ Below n0 w w' := by
  obtain ⟨base, works, left, taken⟩ := p
  unfold wholeP
  dsimp only at hl ⊢
  by_cases h0 : left = 0
  · subst h0
    rw [if_pos rfl]
    have HT := hid (H.tk (Int.le_refl 0))
    obtain ⟨ta, tc, rfl⟩ := ownsRow_slice HT.out.own
    obtain ⟨a0, a1, a2, a3⟩ := H.cells
    have HPr := hid (PrAt.of_own HT.out.own rfl)
    have HH := hid H
    clear H a0
    go_enter Tryz.func50, Tryz.ntmps50
    go_wp2_with (first
      | (go_at_call 67; refine (sort_prF _ _ _ HPr.out (by omega)).mono ?_; rintro e w1 ⟨v1, rfl, hp1, hk1, hf1⟩; obtain ⟨sa, sc, rfl, _⟩ := hp1.at'.ex; have hp1 : PrF n0 w1 _ _ := ⟨hp1, fun a n c hv hn => Nat.le_trans HH.out.n0_le (hf1 a n c hv hn)⟩; clear hf1; have HP1 := hid hp1; have H1 := hid (HH.out.kept hk1); obtain ⟨b0, b1, b2, b3⟩ := H1.out.cells; have z0 := H1.out.frz 0; have z2 := H1.out.frz 2; have HK1 := hid hk1; clear hp1 hk1 a1 a2 a3)
      | (refine wpList_clear_st (ek := Value.int .i64) rfl _ 69 rfl 3 78 Tryz.underlying69 ?_; refine Here.mk ?_))
    refine Here.of ?_
    have hA := heap_put (heap_put H1.out.blk 0 (.slice sa (sortP taken).length sc)) 2 (.int .i64 (-1))
    have hK2 : Kept [A] w1 ((w1.setCell ⟨A, 0, none⟩ (.slice sa (sortP taken).length sc)).setCell ⟨A, 2, none⟩ (.int .i64 (-1))) := ((Kept.refl [A] w1).setCell (.inl (by simp)) _).setCell (.inl (by simp)) _
    have hP2 := HP1.out.kept_of hK2 (fun a n c hv hn hb => by
      simp only [List.mem_singleton] at hb
      exact HP1.out.far (small_cells H1.out.blk (by simp)) a n c hv hn hb)
    have H2 := hid (H1.out.reA (lo' := lo) (l' := -1) (t' := taken) (tv' := .slice ta taken.length tc) hK2 hA hP2 (fun h => absurd h (by decide)))
    refine ⟨⟨_, H2.out.map⟩, ?_⟩
    intro w3 hM3 hK3
    have H3 := hid (H2.out.cleared hK3 hM3)
    have HB := hid (H1.out.below ((hK2.mono (T := [A, m]) (by simp)).trans hK3 (fun x hx => .inl (by simp at hx; simp [hx]))) (by simp [playBs]))
    have HB0 := hid (HH.out.below HK1.out (by simp))
    clear hA hK2 hP2 H2 hM3 hK3
    go_wp2
    go_end0
    exact ⟨rfl, ⟨m, _, _, lo, [], H3.out⟩, HB0.out.trans HB.out⟩
  · rw [if_neg h0]
    obtain ⟨a0, a1, a2, a3⟩ := H.cells
    dsimp only at a2
    have hb : (left == 0) = false := by simpa using h0
    have HH := hid H
    clear H h0
    go_enter Tryz.func50, Tryz.ntmps50
    go_wp2
    go_end0
    exact ⟨rfl, ⟨m, bv, tv, lo, ws, HH.out⟩, HH.out.below (Kept.refl [] w) (by simp)⟩
--@@ end
theorem own_fresh {w : World} {base n size : Nat} {e : TypeId} {v : Value} {xs : List Value} (h : w.ownsRow base e size v n xs) : ∀ a k c, v = .slice (some a) k c → base ≤ a.block := by
  intro a k c hv
  rcases h.2 with ⟨h1, _⟩ | ⟨g, cap, cur, h1, hb, _⟩
  · rw [h1] at hv; cases hv
  · rw [h1] at hv; cases hv; exact hb
--@@ (*redo.work).pairs
theorem cmpW (blk off size : Nat) (w : World) : CmpLays Tryz.prog 57 #[] encT 6 cfT blk off size w := fun m os dk hdk x y => porder_any x.1 y.1 _
set_option maxHeartbeats 1000000 in
set_option maxRecDepth 100000 in
theorem sortFunc_ownW (v : Value) (base n : Nat) (ps ls : List Pr) (w : World) (hown : w.ownsRow base 57 6 v n (ps.flatMap Pr.f)) (hnl : n = ps.length) (hl : ps.length ≤ 100000) (hp : ps.Perm ls) (hn : (ls.map (·.key)).Nodup) :
    Calls Tryz.prog 56 #[v, .func (.func 57) #[] #[]] w fun e w' => e = .returned (.tuple #[]) ∧ PrAt w' v (keysP ls) ∧ ∃ S, Kept S w w' ∧ ∀ x, x ∈ S → base ≤ x := by
  have eO : ∀ args w, (callFunc 57 args).run Tryz.prog w = .ok (.enter 57 args) w := enters_of (Tryz.func57) (by kernel_rfl) rfl
  subst hnl
  rcases Nat.eq_zero_or_pos ps.length with h0 | hne
  · have hps : ps = [] := List.eq_nil_of_length_eq_zero h0
    subst hps
    have hls : ls = [] := List.eq_nil_of_length_eq_zero hp.length_eq.symm
    subst hls
    have hw := PrAt.of_own hown rfl
    obtain ⟨a, cap, rfl⟩ := ownsRow_slice hown
    refine (AnyF.slices_SortFunc_none Tryz.laySortPairs a cap _ w).mono ?_
    rintro e w' ⟨rfl, rfl⟩
    exact ⟨rfl, hw, [], Kept.refl _ _, fun x hx => by cases hx⟩
  · have hown' := hown
    rcases hown.2 with ⟨_, hz⟩ | ⟨g, cap, cur, rfl, hb, hg, hle, _⟩
    · omega
    · have hgl := (Array.getElem?_eq_some_iff.1 hg).1
      obtain ⟨d, hd⟩ : ∃ d : Array (Pr × Nat), d = (ps.map fun x => (x, 0)).toArray := ⟨_, rfl⟩
      have hds : d.size = ps.length := by rw [hd]; simp
      have hdl : d.toList.map (·.1) = ps := by rw [hd]; simp [Function.comp_def]
      have hH : HoldsK encT 6 w g 0 d := ownsRow_holds hown rfl d hds (fun x hx => by
        rw [getElem!_pos d x hx, getElem!_pos ps x (by omega)]
        simp [hd])
      have := AnyQ.slices_SortFunc Tryz.laySortPairs 6 aggP sizP encT encT_len encT_one cfT swoT 57 #[] g 0 cap d w eO (cmpW _ _ _ _) hH hgl (by omega)
      rw [hds] at this
      refine this.mono ?_
      rintro e w' ⟨rfl, d', n, os, hP, hS, rfl⟩
      have hsz : d'.size = d.size := hP.1
      have S1 : SWK encT 6 w g 0 d' (sortWorldK encT 6 w g 0 n d' os) := ⟨n, os, rfl⟩
      have hH' := S1.holds hgl hH hsz
      have hperm : (d'.toList.map (·.1)).Perm ls := by
        have h1 := hP.2.2
        have e1 : d'.extract 0 ps.length = d' := by rw [← hds, ← hsz]; simp
        have e2 : d.extract 0 ps.length = d := by rw [← hds]; simp
        rw [e1, e2] at h1
        have := h1.map (fun x : Pr × Nat => x.1)
        rw [hdl] at this
        exact this.trans hp
      have hkeys : d'.toList.map (·.1) = keysP ls := sorted_keysP _ ls hperm hn (by
        refine List.pairwise_map.2 ?_
        rw [List.pairwise_iff_getElem]
        intro i j hi hj hij
        have := hS i j (Nat.zero_le _) hij (by simpa [hsz, hds] using hj)
        rw [getElem!_pos d' i (by simpa using hi), getElem!_pos d' j (by simpa using hj)] at this
        have h2 : ¬ (d'[j]'(by simpa using hj)).1.key.num < (d'[i]'(by simpa using hi)).1.key.num := fun h => by
          have e := ordK_neg (d'[j]'(by simpa using hj)).1.key (d'[i]'(by simpa using hi)).1.key
          rw [decide_eq_true h] at e
          unfold ltOf cfT at this
          rw [e] at this; cases this
        simpa using h2)
      have hr := holdsK_slAt encT_len hH' (S1.lt hgl) d'.toList cap (by simp) (fun x hx => by rw [getElem!_pos d' x (by simpa using hx), getElem!_pos d'.toList x hx]; simp) (by simp; omega)
      rw [flat_fst, hkeys] at hr
      have hlen : d'.toList.length = (keysP ls).length := by rw [← hkeys]; simp
      refine ⟨rfl, ⟨?_, fun a n c hv => by cases hv; rfl, fun n c hv => by cases hv⟩, [g], swk_kept S1, fun x hx => by simp at hx; omega⟩
      rw [show ps.length = d'.toList.length by simp [hsz, hds]]
      rw [← hlen]
      exact hr
set_option maxHeartbeats 8000000 in
set_option maxRecDepth 100000 in
theorem wpairs_any (x : Wo) (w : World) (h : WorkIs w x) (hl : x.k.ws.length ≤ 10000) :
    Calls Tryz.prog 31 #[.pointer (some ⟨x.b, 0, none⟩)] w fun e w' => ∃ v, e = .returned v ∧ PrAt w' v (keysP (x.k.ws.map toPr)) ∧ Kept [] w w' ∧ ∀ a n c, v = .slice (some a) n c → w.heap.size ≤ a.block := by
  obtain ⟨c00, c01, c0⟩ := h.cells
  obtain ⟨a, m, ⟨mk, co, l⟩⟩ := x
  have hn := h.nd
  dsimp only at c0 hn hl ⊢
  have HM := hid h.map
  have HF := hid (show (Tryz.prog.info? 57).map (fun i => (i.zero, i.size, i.bytes)) = some (some (.agg #[.int .u8 0, .int .u8 0, .int .u8 0, .int .u8 0, .bool false, .int .i64 0]), 6, 24) by kernel_rfl)
  have hmw := h.lt.2
  dsimp only at HM hmw
  clear h c00 c01
  go_enter Tryz.func31, Tryz.ntmps31
  go_wp2_with (first | (at_range; refine wpList_range_is rfl _ 79 rfl _ _ Tryz.underlying79 rfl HM.out ?_; intro w0 hR hk hsz0))
  go_frame
  have HR := hid hR
  have HK := hid hk
  clear hR hk
  go_loopg [3] l.length (fun kx s3 wr => ∃ (todo acc : List (K4 × V)), Aside (wr.ownsRow w0.heap.size 57 6 s3 acc.length ((acc.map toPr).flatMap Pr.f)) ∧ Aside ((acc ++ todo).Perm l) ∧ Aside (RangeIs wr m w.heap.size K4.v (dl todo)) ∧ Aside (Kept [] w wr) ∧ todo.length ≤ kx ∧ w0.heap.size ≤ wr.heap.size)
  case atStart => exact ⟨l, [], ⟨rfl, .inl ⟨rfl, rfl⟩⟩, List.Perm.refl _, HR.out, HK.out, Nat.le_refl _, Nat.le_refl _⟩
  case round =>
    clear HR HK
    obtain ⟨todo, acc, HO, HP, HR, HK, hkx, hsz⟩ := hrel
    go_wp2_with (first
      | (at_next; refine wpList_next_is rfl _ rfl rfl HR.out ?_ ?_; (intro hd0); rotate_left; (intro x u T w1 hp hR1 hk1 hs1 hen; obtain ⟨v, t', rfl, rfl, hp'⟩ := dl_perm hp; have HP' := hid hp'; have HR1 := hid hR1; have HK1 := hid hk1; clear hp hp' hR1 hk1; obtain ⟨k1, k2, k3, k4⟩ := x; obtain ⟨y1, y2⟩ := v; simp only [K4.v, V.v] at hen ⊢))
      | (at_builtin; refine Here.mk ?_)
      | (go_at_call 56; refine Here.mk ?_))
    · refine Here.of ?_
      clear hen
      have HO1 := hid (ownsRow_kept HO.out HK1.out (fun x hx => by simp at hx; omega))
      generalize Obj.cells #[Value.int IntKind.u8 (k1.toNat : Int), Value.int IntKind.u8 (k2.toNat : Int), Value.int IntKind.u8 (k3.toNat : Int), Value.int IntKind.u8 (k4.toNat : Int)] 49 = A
      generalize Obj.cells #[Value.bool y1, Value.int IntKind.i64 y2] 51 = B
      have hAB : ((w1.alloc A).alloc B).heap.size = wr.heap.size + 1 + 1 := by simp [hs1]
      rw [← hAB]
      have hacc : acc.length + todo.length = l.length := by have := HP.out.length_eq; simpa using this
      refine wpList_append_is rfl _ _ 29 rfl 57 _ 6 24 Tryz.underlying29 HF.out rfl (by decide) (by decide) w0.heap.size _ acc.length _ rfl (((HO1.out.alloc _).alloc _).alloc _) _ 1 1 (Pr.f ⟨⟨k1, k2, k3, k4⟩, ⟨y1, y2⟩⟩) rfl rfl (fun j u h => cells_new _ (Pr.f ⟨⟨k1, k2, k3, k4⟩, ⟨y1, y2⟩⟩) _ j u h) (by simp [Pr.f, Value.oneCell']) (by omega) (by simp; omega) ?_
      intro v' w2 hown2 hgrow hnil
      obtain ⟨S, hS1, hS2⟩ := ownsRow_grown (((HO1.out.alloc _).alloc _).alloc _) hgrow
      have HW := hid ((((Kept.refl [] w1).alloc A).alloc B).alloc (.cells (Pr.f ⟨⟨k1, k2, k3, k4⟩, ⟨y1, y2⟩⟩).toArray 57))
      have hk2 := HW.out.trans (c := w2) (T := S) hS1
      have HR2 := hid ((HR1.out.kept HW.out (by simp) (by simp)).kept hS1 (fun hx => by have := hS2 _ hx; omega) (fun hx => by have := hS2 _ hx; omega))
      have HK2 := hid ((((HK.out.trans HK1.out (fun x hx => .inr (by simp at hx; omega))).trans HW.out (fun x hx => .inl hx)).trans hS1 (fun x hx => .inr (by have := hS2 x hx; omega))))
      have hsz2 : w1.heap.size ≤ w2.heap.size := Nat.le_trans HW.out.size hS1.size
      have H2 := hid hown2
      clear hown2 hgrow hnil hS1 hk2
      go_wp2
      go_roundg t'.length
      case measure =>
        have := HP'.out.length_eq
        simp at this
        omega
      case rel =>
        refine ⟨t', acc ++ [(⟨k1, k2, k3, k4⟩, ⟨y1, y2⟩)], ?_, ?_, HR2.out, HK2.out, Nat.le_refl _, by omega⟩
        · have := H2.out
          show World.ownsRow _ _ _ _ _ _ _
          rw [List.map_append, List.flatMap_append, List.length_append]
          simpa [toPr] using this
        · show List.Perm _ _
          rw [List.append_assoc]
          exact (HP'.out.symm.append_left acc).trans HP.out
    · refine Here.of ?_
      have ht : todo = [] := by
        cases todo with
        | nil => rfl
        | cons p t => simp [dl] at hd0
      subst ht
      have hperm : (acc.map toPr).Perm (l.map toPr) := by have := HP.out.map toPr; simpa using this
      have hlen : acc.length = l.length := by have := HP.out.length_eq; simpa using this
      refine (sortFunc_ownW u3 w0.heap.size acc.length (acc.map toPr) (l.map toPr) wr HO.out (by simp) (by simp; omega) hperm (by rw [List.map_map]; exact hn)).mono ?_
      rintro e w3 ⟨rfl, hpr, S, hS1, hS2⟩
      have hk3 : Kept [] w w3 := HK.out.trans hS1 (fun x hx => .inr (by have := hS2 x hx; omega))
      go_wp2
      go_returns
      exact ⟨_, rfl, hpr, hk3, fun a n c hv => Nat.le_trans (by omega) (own_fresh HO.out a n c hv)⟩
--@@ end
--@@ (*redo.player).commit
set_option maxHeartbeats 4000000 in
set_option maxRecDepth 100000 in
theorem commit_any {n0 A m lo : Nat} {bv tv : Value} {ws : List (Int × Wo)} {p : Pl} {tx : Int} {x : Wo} (w : World) (H : PlayIs w n0 A m bv tv lo ws p) (hx : aget tx ws = some x) (hneg : p.left < 0) (h1 : p.base.length ≤ 10000) (h2 : x.k.ws.length ≤ 10000) :
    Calls Tryz.prog 52 #[.pointer (some ⟨A, 0, none⟩), .pointer (some ⟨x.b, 0, none⟩)] w fun e w' => e = .returned (.tuple #[]) ∧ PlayAt w' n0 A ⟨(commitW p.base x.k).1, aput tx (commitW p.base x.k).2 p.works, p.left, p.taken⟩ ∧ Below n0 w w' := by
  obtain ⟨base, works, left, taken⟩ := p
  have hmem := tget_mem hx
  have hW := H.each _ hmem
  obtain ⟨b, mb, ⟨mask, com, xs⟩⟩ := x
  obtain ⟨c0, c1, c2⟩ := hW.cells
  obtain ⟨a0, a1, a2, a3⟩ := H.cells
  dsimp only at hneg h1 h2 c0 c1 c2 a2 ⊢
  unfold commitW
  by_cases hm : mask = 0 ∨ com = true
  · rw [if_pos hm]
    have hput : aput tx (⟨mask, com, xs⟩ : Wk) works = works := aput_sameK (by have := H.eq; dsimp only at this; rw [this, wsK_get, hx]; rfl)
    have HH := hid H
    have HP := hid hput
    clear H hW hput hmem
    rcases hm with rfl | rfl
    · go_enter Tryz.func52, Tryz.ntmps52
      go_wp2
      go_returns
      exact ⟨rfl, ⟨m, bv, tv, lo, ws, by rw [HP.out]; exact HH.out⟩, HH.out.below (Kept.refl [] w) (by simp)⟩
    · by_cases hm0 : mask = 0
      · subst hm0
        go_enter Tryz.func52, Tryz.ntmps52
        go_wp2
        go_returns
        exact ⟨rfl, ⟨m, bv, tv, lo, ws, by rw [HP.out]; exact HH.out⟩, HH.out.below (Kept.refl [] w) (by simp)⟩
      · have hb : ((mask : Int) == 0) = false := by simpa using hm0
        go_enter Tryz.func52, Tryz.ntmps52
        go_wp2
        go_returns
        exact ⟨rfl, ⟨m, bv, tv, lo, ws, by rw [HP.out]; exact HH.out⟩, HH.out.below (Kept.refl [] w) (by simp)⟩
  · rw [if_neg hm]
    rw [not_or] at hm
    obtain ⟨hm0, hc⟩ := hm
    have hb : ((mask : Int) == 0) = false := by simpa using hm0
    have hc' : com = false := by simpa using hc
    subst hc'
    obtain ⟨ba, bc, rfl, _⟩ := H.base.at'.ex
    have HH := hid H
    have HW := hid hW
    have HM := hid hm0
    have HX := hid hx
    have HPA := hid (fun W (hK : Kept [] w W) => wpairs_any ⟨b, mb, ⟨mask, false, xs⟩⟩ W (hW.kept hK (by simp) (by simp)) h2)
    have HBA := hid (fun W (hK : Kept [] w W) => H.base.toPrAt.kept hK)
    have hkl := keysP_len (xs.map toPr)
    rw [List.length_map] at hkl
    obtain ⟨cl, hcl⟩ : ∃ cl, base ++ keysP (xs.map toPr) = cl := ⟨_, rfl⟩
    have hcll : cl.length ≤ 100000 := by rw [← hcl, List.length_append]; omega
    rw [hcl]
    have HCL := hid hcl
    dsimp only at HPA HBA
    clear hcl H hW hmem hm0 hc hx a1 a2 a3
    go_enter Tryz.func52, Tryz.ntmps52
    go_wp2_with fail
    go_region_law (first
      | (go_simp; go_at_call 31; refine (HPA.out _ (show Kept [] w _ by (repeat (first | assumption | (with_reducible exact Kept.refl _ _) | (with_reducible refine Kept.drew ?_) | (with_reducible refine Kept.alloc ?_ _) | (with_reducible refine Kept.setCell ?_ (by right; simp; try omega) _))))).mono ?_; rintro e w1 ⟨v1, rfl, hp1, hk1, _⟩; obtain ⟨pa, pc, rfl, _⟩ := hp1.at'.ex; have hk1' := Kept.trans (show Kept [] w _ by (repeat (first | assumption | (with_reducible exact Kept.refl _ _) | (with_reducible refine Kept.drew ?_) | (with_reducible refine Kept.alloc ?_ _) | (with_reducible refine Kept.setCell ?_ (by right; simp; try omega) _)))) hk1 (fun x hx => .inl hx); have y0 := hk1'.cell a0 (by simp))
      | (go_simp; go_at_call 68; refine (concat_any w1.heap.size _ _ base (keysP (xs.map toPr)) (w1.alloc (.cells #[.slice ba base.length bc, .slice pa (keysP (xs.map toPr)).length pc] 29)) (heap_alloc_new w1 _) (HBA.out _ (hk1'.alloc _)) (hp1.kept ((Kept.refl [] w1).alloc _)) (by omega) (by omega)).mono ?_; rintro e w2 ⟨v2, rfl, hp2, hk2⟩; rw [HCL.out] at hp2; obtain ⟨qa, qc, rfl, _⟩ := hp2.at'.ex; have hk2' := (hk1'.alloc (.cells #[.slice ba base.length bc, .slice pa (keysP (xs.map toPr)).length pc] 29)).trans hk2 (fun x hx => .inl hx))
      | (go_simp; go_at_call 67; refine (sort_prF (.slice qa cl.length qc) cl w2 hp2 hcll).mono ?_; rintro e w3 ⟨v3, rfl, hp3, hk3, hf3⟩; obtain ⟨sa, sc, rfl, _⟩ := hp3.at'.ex; have hp3 : PrF n0 w3 _ _ := ⟨hp3, fun a n c hv hn => Nat.le_trans (Nat.le_trans HH.out.n0_le hk2'.size) (hf3 a n c hv hn)⟩; clear hf3; have hk3' := hk2'.trans hk3 (fun x hx => .inl hx); have H3 := hid (HH.out.kept hk3'); obtain ⟨d0, d1, d2, d3⟩ := H3.out.cells; have z0 := H3.out.frz 0))
    all_goals
      have HP3 := hid hp3
      have HK3 := hid hk3'
      have hK4 : Kept [A] w3 (w3.setCell ⟨A, 0, none⟩ (.slice sa (sortP cl).length sc)) := (Kept.refl [A] w3).setCell (.inl (by simp)) _
      have hP4 := HP3.out.kept_of hK4 (fun a n c hv hn hb => by
        simp only [List.mem_singleton] at hb
        exact HP3.out.far (small_cells H3.out.blk (by simp)) a n c hv hn hb)
      have H4 := hid (H3.out.reA (lo' := lo) (l' := left) (t' := taken) (tv' := tv) hK4 (heap_put H3.out.blk 0 _) hP4 (fun h => by omega))
      have hKA := hid (HH.out.below ((HK3.out.mono (T := [A]) (by simp)).trans hK4 (fun x hx => .inl hx)) (by simp [playBs]))
      have W4 := hid (H4.out.each _ (tget_mem HX.out))
      clear hK4 hP4 hp1 hp2 hp3 hk1 hk2 hk3 hk1' hk2' hk3' d0 d1 d2 d3 z0 a0 c0 c1 c2 HP3 H3 HK3 HPA HBA
      generalize w3.setCell ⟨A, 0, none⟩ (.slice sa (sortP cl).length sc) = w4 at *
      obtain ⟨e0, e1, e2⟩ := W4.out.cells
      have z1 := W4.out.frz 1
      dsimp only at e0 e1 e2 z1
      go_wp2_with (refine wpList_clear_st (ek := K4.v) rfl _ 79 rfl 49 51 Tryz.underlying79 ?_; refine Here.mk ?_)
      refine Here.of ?_
      have hbm := W4.out.ne
      have hK5 : Kept [b] w4 (w4.setCell ⟨b, 1, none⟩ (.bool true)) := (Kept.refl [b] w4).setCell (.inl (by simp)) _
      have hM5 := W4.out.map.kept hK5 (by simp; exact fun e => hbm e.symm)
      have hb5 := heap_put W4.out.blk 1 (.bool true)
      refine ⟨⟨_, hM5⟩, ?_⟩
      intro w6 hM6 hK6
      have hl5 := (Array.getElem?_eq_some_iff.1 hb5).1
      have hW6 : WorkIs w6 ⟨b, mb, ⟨mask, true, []⟩⟩ := ⟨(hK6.block b hl5 (by simp; exact hbm)).trans hb5, hM6, List.nodup_nil⟩
      have hK6' : Kept [b, mb] w4 w6 := (hK5.mono (T := [b, mb]) (by simp)).trans hK6 (fun x hx => .inl (by simp at hx; simp [hx]))
      have H6 := hid (H4.out.turn (x' := ⟨b, mb, ⟨mask, true, []⟩⟩) HX.out rfl rfl hW6 hK6')
      have hKB := hid (H4.out.below hK6' (fun y hy => by
        have := mem_bs (A := A) (m := m) (tget_mem HX.out)
        simp at hy
        rcases hy with rfl | rfl
        · exact this.1
        · exact this.2))
      clear hM5 hb5 hM6 hK6 hW6 hK6' hK5 e0 e1 e2 z1 hbm hl5
      go_wp2
      go_end0
      exact ⟨rfl, ⟨m, _, _, lo, _, H6.out⟩, hKA.out.trans hKB.out⟩
--@@ end
--@@ concordatlaw09.To
set_option maxHeartbeats 4000000 in
set_option maxRecDepth 100000 in
theorem to_any (v : Value) (l : List Pr) (w : World) (h : SlAt w v 6 l.length (l.flatMap Pr.f)) (hl : l.length ≤ 20000) :
    Calls Tryz.prog 20 #[v] w fun e w' => ∃ v', e = .returned v' ∧ w'.ownsRow w.heap.size 57 6 v' l.length (l.flatMap Pr.f) ∧ Kept [] w w' := by
  obtain ⟨a, cap, rfl, _, _, hcs⟩ := h.ex
  have HC := hid hcs
  have HF := hid (show (Tryz.prog.info? 57).map (fun i => (i.zero, i.size, i.bytes)) = some (some (.agg #[.int .u8 0, .int .u8 0, .int .u8 0, .int .u8 0, .bool false, .int .i64 0]), 6, 24) by kernel_rfl)
  clear h hcs
  go_enter Tryz.func20, Tryz.ntmps20
  go_wp2
  have HO0 := hid (ownsRow_made0 w 57 6 w.heap.size (Nat.le_refl _))
  have HK0 := hid ((Kept.refl [] w).alloc (.cells #[] 57))
  go_loopg [3, 4] l.length (fun kx s3 s4 wr => ∃ k : Nat, s4 = .int .i64 k ∧ k ≤ l.length ∧ l.length - k ≤ kx ∧ Aside (wr.ownsRow w.heap.size 57 6 s3 k ((l.take k).flatMap Pr.f)) ∧ Aside (Kept [] w wr))
  case atStart => exact ⟨0, by first | rfl | go_num, by omega, by omega, HO0.out, HK0.out⟩
  case round =>
    clear HO0 HK0
    obtain ⟨k, rfl, hk, hkx, HO, HK⟩ := hrel
    have hsz := HK.out.size
    by_cases hlt : k < l.length
    · have hltz : (k : Int) < (l.length : Int) := by omega
      obtain ⟨b, off, rfl, hb, hcs⟩ := HC.out (by omega)
      obtain ⟨e0, e1, e2, e3, e4, e5⟩ := pair_cells hcs hlt
      have HT := hid (show l.take (k + 1) = l.take k ++ [l[k]] by rw [List.take_succ_eq_append_getElem hlt])
      clear hcs
      generalize l[k] = x at *
      obtain ⟨⟨x1, x2, x3, x4⟩, ⟨x5, x6⟩⟩ := x
      dsimp only at e0 e1 e2 e3 e4 e5
      have HS := hid (show ∀ w', Kept [] w w' → w'.cell? ⟨b, off + k * 6, none⟩ = some (.int .u8 (x1.toNat : Int)) ∧ w'.cell? ⟨b, off + k * 6 + 1, none⟩ = some (.int .u8 (x2.toNat : Int)) ∧ w'.cell? ⟨b, off + k * 6 + 2, none⟩ = some (.int .u8 (x3.toNat : Int)) ∧ w'.cell? ⟨b, off + k * 6 + 3, none⟩ = some (.int .u8 (x4.toNat : Int)) ∧ w'.cell? ⟨b, off + k * 6 + 4, none⟩ = some (.bool x5) ∧ w'.cell? ⟨b, off + k * 6 + 5, none⟩ = some (.int .i64 x6) from fun w' hk' => ⟨hk'.cell e0 (by simp), hk'.cell e1 (by simp), hk'.cell e2 (by simp), hk'.cell e3 (by simp), hk'.cell e4 (by simp), hk'.cell e5 (by simp)⟩)
      have HKd := hid HK.out.drew
      clear e0 e1 e2 e3 e4 e5
      go_wp2_with fail
      go_region_held3 (fun w' => w'.cell? ⟨b, off + k * 6, none⟩ = some (.int .u8 (x1.toNat : Int)) ∧ w'.cell? ⟨b, off + k * 6 + 1, none⟩ = some (.int .u8 (x2.toNat : Int)) ∧ w'.cell? ⟨b, off + k * 6 + 2, none⟩ = some (.int .u8 (x3.toNat : Int)) ∧ w'.cell? ⟨b, off + k * 6 + 3, none⟩ = some (.int .u8 (x4.toNat : Int)) ∧ w'.cell? ⟨b, off + k * 6 + 4, none⟩ = some (.bool x5) ∧ w'.cell? ⟨b, off + k * 6 + 5, none⟩ = some (.int .i64 x6))
        ((refine HS.out _ ?_; first | exact hk1 | exact HKd.out | exact HKd.out.alloc _))
        ((rw [if_pos (by rfl)]; refine wp_append_is _ _ 29 rfl 57 _ 6 24 Tryz.underlying29 HF.out rfl (by decide) (by decide) w.heap.size _ k _ rfl (ownsRow_kept (HO.out) (((Kept.refl [] wr).drew).alloc _) (by simp)) _ 1 1 (Pr.f ⟨⟨x1, x2, x3, x4⟩, ⟨x5, x6⟩⟩) rfl rfl (fun j u h => cells_new _ (Pr.f ⟨⟨x1, x2, x3, x4⟩, ⟨x5, x6⟩⟩) _ j u h) (by simp [Pr.f, Value.oneCell']) (by omega) (by simp; omega) ?_; intro v' w1 hown1 hgrow hnil; have hk1 := (HKd.out.alloc (.cells (Pr.f ⟨⟨x1, x2, x3, x4⟩, ⟨x5, x6⟩⟩).toArray 57)).grown_own (ownsRow_kept (HO.out) (((Kept.refl [] wr).drew).alloc _) (by simp)) hgrow (Nat.le_refl _)))
      have HK1 := hid hk1
      have H1 := hid hown1
      clear hown1 hgrow hnil hk1
      go_wp2
      go_roundg (l.length - (k + 1))
      case measure => omega
      case rel => exact ⟨k + 1, by first | rfl | go_num, by omega, Nat.le_refl _, by show World.ownsRow _ _ _ _ _ _ _; rw [HT.out, List.flatMap_append]; simpa using H1.out, HK1.out⟩
    · obtain rfl : k = l.length := by omega
      have hltz : ¬ (l.length : Int) < (l.length : Int) := by omega
      go_wp2
      go_returns
      exact ⟨_, rfl, by have := HO.out; rw [List.take_length] at this; exact this, HK.out⟩
--@@ concordatlaw09.From
set_option maxHeartbeats 4000000 in
set_option maxRecDepth 100000 in
theorem from_any (v : Value) (l : List Pr) (w : World) (h : SlAt w v 6 l.length (l.flatMap Pr.f)) (hl : l.length ≤ 20000) :
    Calls Tryz.prog 26 #[v] w fun e w' => ∃ v', e = .returned v' ∧ w'.ownsRow w.heap.size 64 6 v' l.length (l.flatMap Pr.f) ∧ Kept [] w w' := by
  obtain ⟨a, cap, rfl, _, _, hcs⟩ := h.ex
  have HC := hid hcs
  have HF := hid (show (Tryz.prog.info? 64).map (fun i => (i.zero, i.size, i.bytes)) = some (some (.agg #[.int .u8 0, .int .u8 0, .int .u8 0, .int .u8 0, .bool false, .int .i64 0]), 6, 24) by kernel_rfl)
  clear h hcs
  go_enter Tryz.func26, Tryz.ntmps26
  go_wp2
  have HO0 := hid (ownsRow_made0 w 64 6 w.heap.size (Nat.le_refl _))
  have HK0 := hid ((Kept.refl [] w).alloc (.cells #[] 64))
  go_loopg [3, 4] l.length (fun kx s3 s4 wr => ∃ k : Nat, s4 = .int .i64 k ∧ k ≤ l.length ∧ l.length - k ≤ kx ∧ Aside (wr.ownsRow w.heap.size 64 6 s3 k ((l.take k).flatMap Pr.f)) ∧ Aside (Kept [] w wr))
  case atStart => exact ⟨0, by first | rfl | go_num, by omega, by omega, HO0.out, HK0.out⟩
  case round =>
    clear HO0 HK0
    obtain ⟨k, rfl, hk, hkx, HO, HK⟩ := hrel
    have hsz := HK.out.size
    by_cases hlt : k < l.length
    · have hltz : (k : Int) < (l.length : Int) := by omega
      obtain ⟨b, off, rfl, hb, hcs⟩ := HC.out (by omega)
      obtain ⟨e0, e1, e2, e3, e4, e5⟩ := pair_cells hcs hlt
      have HT := hid (show l.take (k + 1) = l.take k ++ [l[k]] by rw [List.take_succ_eq_append_getElem hlt])
      clear hcs
      generalize l[k] = x at *
      obtain ⟨⟨x1, x2, x3, x4⟩, ⟨x5, x6⟩⟩ := x
      dsimp only at e0 e1 e2 e3 e4 e5
      have HS := hid (show ∀ w', Kept [] w w' → w'.cell? ⟨b, off + k * 6, none⟩ = some (.int .u8 (x1.toNat : Int)) ∧ w'.cell? ⟨b, off + k * 6 + 1, none⟩ = some (.int .u8 (x2.toNat : Int)) ∧ w'.cell? ⟨b, off + k * 6 + 2, none⟩ = some (.int .u8 (x3.toNat : Int)) ∧ w'.cell? ⟨b, off + k * 6 + 3, none⟩ = some (.int .u8 (x4.toNat : Int)) ∧ w'.cell? ⟨b, off + k * 6 + 4, none⟩ = some (.bool x5) ∧ w'.cell? ⟨b, off + k * 6 + 5, none⟩ = some (.int .i64 x6) from fun w' hk' => ⟨hk'.cell e0 (by simp), hk'.cell e1 (by simp), hk'.cell e2 (by simp), hk'.cell e3 (by simp), hk'.cell e4 (by simp), hk'.cell e5 (by simp)⟩)
      have HKd := hid HK.out.drew
      clear e0 e1 e2 e3 e4 e5
      go_wp2_with fail
      go_region_held3 (fun w' => w'.cell? ⟨b, off + k * 6, none⟩ = some (.int .u8 (x1.toNat : Int)) ∧ w'.cell? ⟨b, off + k * 6 + 1, none⟩ = some (.int .u8 (x2.toNat : Int)) ∧ w'.cell? ⟨b, off + k * 6 + 2, none⟩ = some (.int .u8 (x3.toNat : Int)) ∧ w'.cell? ⟨b, off + k * 6 + 3, none⟩ = some (.int .u8 (x4.toNat : Int)) ∧ w'.cell? ⟨b, off + k * 6 + 4, none⟩ = some (.bool x5) ∧ w'.cell? ⟨b, off + k * 6 + 5, none⟩ = some (.int .i64 x6))
        ((refine HS.out _ ?_; first | exact hk1 | exact HKd.out | exact HKd.out.alloc _))
        ((rw [if_pos (by rfl)]; refine wp_append_is _ _ 23 rfl 64 _ 6 24 Tryz.underlying23 HF.out rfl (by decide) (by decide) w.heap.size _ k _ rfl (ownsRow_kept (HO.out) (((Kept.refl [] wr).drew).alloc _) (by simp)) _ 1 1 (Pr.f ⟨⟨x1, x2, x3, x4⟩, ⟨x5, x6⟩⟩) rfl rfl (fun j u h => cells_new _ (Pr.f ⟨⟨x1, x2, x3, x4⟩, ⟨x5, x6⟩⟩) _ j u h) (by simp [Pr.f, Value.oneCell']) (by omega) (by simp; omega) ?_; intro v' w1 hown1 hgrow hnil; have hk1 := (HKd.out.alloc (.cells (Pr.f ⟨⟨x1, x2, x3, x4⟩, ⟨x5, x6⟩⟩).toArray 64)).grown_own (ownsRow_kept (HO.out) (((Kept.refl [] wr).drew).alloc _) (by simp)) hgrow (Nat.le_refl _)))
      have HK1 := hid hk1
      have H1 := hid hown1
      clear hown1 hgrow hnil hk1
      go_wp2
      go_roundg (l.length - (k + 1))
      case measure => omega
      case rel => exact ⟨k + 1, by first | rfl | go_num, by omega, Nat.le_refl _, by show World.ownsRow _ _ _ _ _ _ _; rw [HT.out, List.flatMap_append]; simpa using H1.out, HK1.out⟩
    · obtain rfl : k = l.length := by omega
      have hltz : ¬ (l.length : Int) < (l.length : Int) := by omega
      go_wp2
      go_returns
      exact ⟨_, rfl, by have := HO.out; rw [List.take_length] at this; exact this, HK.out⟩
--@@ end
--@@ end
--@@ concordatref00.SamePairs
set_option maxRecDepth 100000 in
set_option maxHeartbeats 4000000 in
theorem samePairs_any (v1 v2 : Value) (xs ys : List Pr) (w : World) (h1 : SlAt w v1 6 xs.length (xs.flatMap Pr.f)) (h2 : SlAt w v2 6 ys.length (ys.flatMap Pr.f)) :
    Calls Tryz.prog 25 #[v1, v2] w fun e w' => e = .returned (.bool (decide (xs = ys))) ∧ Kept [] w w' := by
  obtain ⟨a1, cap1, rfl, m1, _, c1⟩ := h1.ex
  obtain ⟨a2, cap2, rfl, m2, _, c2⟩ := h2.ex
  clear h1 h2
  have HC1 := hid c1
  have HC2 := hid c2
  clear c1 c2
  by_cases hl : xs.length = ys.length
  · have hb : ((xs.length : Int) != (ys.length : Int)) = false := by simp [hl]
    have HL := hid hl
    clear hl
    go_enter Tryz.func25, Tryz.ntmps25
    go_wp2
    go_loopw [5] (fun i wr => ∃ k : Nat, k ≤ xs.length ∧ i = .int .i64 k ∧ xs.take k = ys.take k ∧ ∃ n, wr = w.drewN n) (fun i _ => xs.length - (intOf i).toNat)
    case atStart => exact ⟨0, Nat.zero_le _, rfl, rfl, 0, rfl⟩
    case round =>
      obtain ⟨k, hk, rfl, ht, n, rfl⟩ := hrel
      have HT := hid ht
      clear ht
      by_cases hlt : k < xs.length
      · have hlt2 : k < ys.length := by rw [← HL.out]; exact hlt
        obtain ⟨b1, o1, rfl, _, d1⟩ := HC1.out (by omega)
        obtain ⟨b2, o2, rfl, _, d2⟩ := HC2.out (by omega)
        obtain ⟨e0, e1, e2, e3, e4, e5⟩ := pair_cells d1 hlt
        obtain ⟨f0, f1, f2, f3, f4, f5⟩ := pair_cells d2 hlt2
        clear d1 d2
        have HX := hid (show xs.take (k + 1) = xs.take k ++ [xs[k]] by rw [List.take_succ_eq_append_getElem hlt])
        have HY := hid (show ys.take (k + 1) = ys.take k ++ [ys[k]] by rw [List.take_succ_eq_append_getElem hlt2])
        have HXE := hid (show xs[k]? = some xs[k] by simp [hlt])
        have HYE := hid (show ys[k]? = some ys[k] by simp [hlt2])
        generalize xs[k] = x at *
        generalize ys[k] = y at *
        by_cases hxy : x = y
        · have hq := fun (w : World) => neP w x y
          rw [show (!decide (x = y)) = false by simp [hxy]] at hq
          have HXY := hid hxy
          clear hxy
          obtain ⟨⟨x1, x2, x3, x4⟩, ⟨x5, x6⟩⟩ := x
          obtain ⟨⟨y1, y2, y3, y4⟩, ⟨y5, y6⟩⟩ := y
          dsimp only at e0 e1 e2 e3 e4 e5 f0 f1 f2 f3 f4 f5
          simp only [Pr.v] at hq
          go_wp2_with fail
          go_quiet (fail)
          go_wp2
          go_roundw
          case rel => exact ⟨k + 1, by omega, by go_num, by rw [HX.out, HY.out, HT.out, HXY.out], _, rfl⟩
          case measure => simp [intOf]; omega
        · have hq := fun (w : World) => neP w x y
          rw [show (!decide (x = y)) = true by simp [hxy]] at hq
          have HXY := hid hxy
          clear hxy
          obtain ⟨⟨x1, x2, x3, x4⟩, ⟨x5, x6⟩⟩ := x
          obtain ⟨⟨y1, y2, y3, y4⟩, ⟨y5, y6⟩⟩ := y
          dsimp only at e0 e1 e2 e3 e4 e5 f0 f1 f2 f3 f4 f5
          simp only [Pr.v] at hq
          go_wp2_with fail
          go_quiet (fail)
          go_wp2
          go_ret
          refine ⟨ret_bool ?_, ((Kept.refl [] w).drewN _).drewN _⟩
          symm
          refine decide_eq_false fun h => HXY.out ?_
          have := HXE.out
          rw [h, HYE.out] at this
          exact (Option.some.inj this).symm
      · go_wp2
        go_ret
        obtain rfl : k = xs.length := by omega
        refine ⟨ret_bool ?_, (Kept.refl [] w).drewN _⟩
        have := HT.out
        rw [List.take_length, HL.out, List.take_length] at this
        simp [this]
  · have hb : ((xs.length : Int) != (ys.length : Int)) = true := by simp; omega
    have HL := hid hl
    clear hl
    go_enter Tryz.func25, Tryz.ntmps25
    go_wp2
    go_ret
    exact ⟨ret_bool (by symm; exact decide_eq_false fun h => HL.out (by rw [h])), Kept.refl _ _⟩
--@@ concordatref09.Right
theorem rright_any (v : V) (w : World) :
    Calls Tryz.prog 46 #[v.v] w fun e w' => e = .returned (.bool v.right) ∧ Kept [] w w' := by
  obtain ⟨b, n⟩ := v
  simp only [V.v]
  cases b
  all_goals
    go_enter Tryz.func46, Tryz.ntmps46
    go_wp2
    go_ret
    exact ⟨ret_bool (by simp [V.right]; try rfl), (Kept.refl _ _).alloc _⟩
--@@ concordatref00.Below
set_option maxRecDepth 100000 in
set_option maxHeartbeats 4000000 in
theorem below_any (x y : K4) (w : World) :
    Calls Tryz.prog 66 #[x.v, y.v] w fun e w' => e = .returned (.bool (decide (x.num < y.num))) ∧ Kept [] w w' := by
  obtain ⟨x1, x2, x3, x4⟩ := x
  obtain ⟨y1, y2, y3, y4⟩ := y
  have HN := hid (show decide ((⟨x1, x2, x3, x4⟩ : K4).num < (⟨y1, y2, y3, y4⟩ : K4).num) = decide (((x1.toNat * 256 + x2.toNat) * 256 + x3.toNat) * 256 + x4.toNat < ((y1.toNat * 256 + y2.toNat) * 256 + y3.toNat) * 256 + y4.toNat) from rfl)
  rw [HN.out]
  clear HN
  simp only [K4.v]
  have hx1 := x1.toNat_lt; have hx2 := x2.toNat_lt; have hx3 := x3.toNat_lt; have hx4 := x4.toNat_lt
  have hy1 := y1.toNat_lt; have hy2 := y2.toNat_lt; have hy3 := y3.toNat_lt; have hy4 := y4.toNat_lt
  generalize x1.toNat = a1 at *; generalize x2.toNat = a2 at *; generalize x3.toNat = a3 at *; generalize x4.toNat = a4 at *
  generalize y1.toNat = b1 at *; generalize y2.toNat = b2 at *; generalize y3.toNat = b3 at *; generalize y4.toNat = b4 at *
  have HSa := hid (show ∀ n, ((w.alloc (.cells #[.int .u8 (a1 : Int), .int .u8 (a2 : Int), .int .u8 (a3 : Int), .int .u8 (a4 : Int)] 49)).alloc (.cells #[.int .u8 (b1 : Int), .int .u8 (b2 : Int), .int .u8 (b3 : Int), .int .u8 (b4 : Int)] 49)).drewN n = ((w.alloc (.cells #[.int .u8 (a1 : Int), .int .u8 (a2 : Int), .int .u8 (a3 : Int), .int .u8 (a4 : Int)] 49)).alloc (.cells #[.int .u8 (b1 : Int), .int .u8 (b2 : Int), .int .u8 (b3 : Int), .int .u8 (b4 : Int)] 49)).drewN n from fun n => rfl)
  clear HSa
  go_enter Tryz.func66, Tryz.ntmps66
  go_wp2
  go_loopw [5] (fun i wr => ∃ k : Nat, k ≤ 4 ∧ i = .int .i64 k ∧ (k ≥ 1 → a1 = b1) ∧ (k ≥ 2 → a2 = b2) ∧ (k ≥ 3 → a3 = b3) ∧ (k ≥ 4 → a4 = b4) ∧ ∃ n, wr = ((w.alloc (.cells #[.int .u8 (a1 : Int), .int .u8 (a2 : Int), .int .u8 (a3 : Int), .int .u8 (a4 : Int)] 49)).alloc (.cells #[.int .u8 (b1 : Int), .int .u8 (b2 : Int), .int .u8 (b3 : Int), .int .u8 (b4 : Int)] 49)).drewN n) (fun i _ => 4 - (intOf i).toNat)
  case atStart => exact ⟨0, Nat.zero_le _, rfl, by omega, by omega, by omega, by omega, 0, rfl⟩
  case round =>
    obtain ⟨k, hk, rfl, p1, p2, p3, p4, n, rfl⟩ := hrel
    have hk' : k = 0 ∨ k = 1 ∨ k = 2 ∨ k = 3 ∨ k = 4 := by omega
    rcases hk' with rfl | rfl | rfl | rfl | rfl
    · have HA := hid p1; have HB := hid p2; have HC := hid p3; have HD := hid p4
      clear p1 p2 p3 p4
      by_cases he : a1 = b1
      · have hb : ((a1 : Int) != (b1 : Int)) = false := by simp [he]
        have HE := hid he
        clear he
        go_wp2_with fail
        go_quiet (fail)
        go_wp2
        go_roundw
        case rel => exact ⟨1, by omega, by go_num, fun h => HE.out, fun h => by omega, fun h => by omega, fun h => by omega, _, rfl⟩
        case measure => simp [intOf]
      · have hb : ((a1 : Int) != (b1 : Int)) = true := by simp; omega
        have HE := hid he
        clear he
        go_wp2_with fail
        go_quiet (fail)
        go_wp2_with fail
        go_quiet (fail)
        go_wp2
        go_ret
        refine ⟨ret_bool ?_, ((((((Kept.refl [] w).alloc _).alloc _).drewN _).drewN _).drewN _)⟩
        have h1 := HA.out; have h2 := HB.out; have h3 := HC.out; have h4 := HD.out; have h5 := HE.out
        clear HA HB HC HD HE
        simp only [decide_eq_decide]
        omega
    · have HA := hid p1; have HB := hid p2; have HC := hid p3; have HD := hid p4
      clear p1 p2 p3 p4
      by_cases he : a2 = b2
      · have hb : ((a2 : Int) != (b2 : Int)) = false := by simp [he]
        have HE := hid he
        clear he
        go_wp2_with fail
        go_quiet (fail)
        go_wp2
        go_roundw
        case rel => exact ⟨2, by omega, by go_num, fun h => HA.out (by omega), fun h => HE.out, fun h => by omega, fun h => by omega, _, rfl⟩
        case measure => simp [intOf]
      · have hb : ((a2 : Int) != (b2 : Int)) = true := by simp; omega
        have HE := hid he
        clear he
        go_wp2_with fail
        go_quiet (fail)
        go_wp2_with fail
        go_quiet (fail)
        go_wp2
        go_ret
        refine ⟨ret_bool ?_, ((((((Kept.refl [] w).alloc _).alloc _).drewN _).drewN _).drewN _)⟩
        have h1 := HA.out; have h2 := HB.out; have h3 := HC.out; have h4 := HD.out; have h5 := HE.out
        clear HA HB HC HD HE
        simp only [decide_eq_decide]
        omega
    · have HA := hid p1; have HB := hid p2; have HC := hid p3; have HD := hid p4
      clear p1 p2 p3 p4
      by_cases he : a3 = b3
      · have hb : ((a3 : Int) != (b3 : Int)) = false := by simp [he]
        have HE := hid he
        clear he
        go_wp2_with fail
        go_quiet (fail)
        go_wp2
        go_roundw
        case rel => exact ⟨3, by omega, by go_num, fun h => HA.out (by omega), fun h => HB.out (by omega), fun h => HE.out, fun h => by omega, _, rfl⟩
        case measure => simp [intOf]
      · have hb : ((a3 : Int) != (b3 : Int)) = true := by simp; omega
        have HE := hid he
        clear he
        go_wp2_with fail
        go_quiet (fail)
        go_wp2_with fail
        go_quiet (fail)
        go_wp2
        go_ret
        refine ⟨ret_bool ?_, ((((((Kept.refl [] w).alloc _).alloc _).drewN _).drewN _).drewN _)⟩
        have h1 := HA.out; have h2 := HB.out; have h3 := HC.out; have h4 := HD.out; have h5 := HE.out
        clear HA HB HC HD HE
        simp only [decide_eq_decide]
        omega
    · have HA := hid p1; have HB := hid p2; have HC := hid p3; have HD := hid p4
      clear p1 p2 p3 p4
      by_cases he : a4 = b4
      · have hb : ((a4 : Int) != (b4 : Int)) = false := by simp [he]
        have HE := hid he
        clear he
        go_wp2_with fail
        go_quiet (fail)
        go_wp2
        go_roundw
        case rel => exact ⟨4, by omega, by go_num, fun h => HA.out (by omega), fun h => HB.out (by omega), fun h => HC.out (by omega), fun h => HE.out, _, rfl⟩
        case measure => simp [intOf]
      · have hb : ((a4 : Int) != (b4 : Int)) = true := by simp; omega
        have HE := hid he
        clear he
        go_wp2_with fail
        go_quiet (fail)
        go_wp2_with fail
        go_quiet (fail)
        go_wp2
        go_ret
        refine ⟨ret_bool ?_, ((((((Kept.refl [] w).alloc _).alloc _).drewN _).drewN _).drewN _)⟩
        have h1 := HA.out; have h2 := HB.out; have h3 := HC.out; have h4 := HD.out; have h5 := HE.out
        clear HA HB HC HD HE
        simp only [decide_eq_decide]
        omega
    · go_wp2
      go_ret
      refine ⟨ret_bool ?_, ((((Kept.refl [] w).alloc _).alloc _).drewN _)⟩
      symm
      have h1 := p1 (by omega); have h2 := p2 (by omega); have h3 := p3 (by omega); have h4 := p4 (by omega)
      exact decide_eq_false (by omega)
--@@ end
--@@ end
end Go.Proofs.YtpcpeoejcnndhaaGreat
