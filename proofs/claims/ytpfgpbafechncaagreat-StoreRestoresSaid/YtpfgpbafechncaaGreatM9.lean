/- draft.Sort: the map of pairs. -/
import Derived.Test.YtpfgpbafechncaaGreatM8
import Derived.Test.YtpfgpbafechncaaGreatDel
import Derived.Test.YtpfgpbafechncaaGreatM1
import Derived.Test.YtpfgpbafechncaaGreatM6
import Derived.Test.YtpfgpbafechncaaGreatM5
import Derived.Test.YtpfgpbafechncaaGreatM2
import Derived.Shelf.SlSortCmp.NoneTotal
import Derived.Laws.AppendOwnNone
import Derived.Deep.RegionHeld3
set_option linter.all false
namespace Go.Proofs.YtpfgpbafechncaaGreat
open Go.RowKit Go.Shelf Go.Lib Go.Sort Go.Proofs
--@@ draft.Sort
set_option maxHeartbeats 1000000 in
theorem eqPair_any (x y : Pr) (w : World) :
    Calls Tryz.prog 64 #[x.v, y.v] w fun e w' => e = .returned (.bool (decide (x.key = y.key))) ∧ ∃ q os, w' = grow (w.drewN q) os := by
  have hq := hid (fun (w : World) => eqK w x.key y.key)
  obtain ⟨⟨a1, a2, a3, a4⟩, ⟨a5, a6⟩⟩ := x
  obtain ⟨⟨b1, b2, b3, b4⟩, ⟨b5, b6⟩⟩ := y
  simp only [K4.v] at hq
  simp only [Pr.v]
  generalize decide ((⟨a1, a2, a3, a4⟩ : K4) = ⟨b1, b2, b3, b4⟩) = r at hq ⊢
  go_enter Tryz.func64, Tryz.ntmps64
  have hq2 := hq.out
  clear hq
  go_wp2
  go_returns
  exact ⟨rfl, 0, _, by rw [alloc_eq_grow, alloc_eq_grow, grow_grow]; rfl⟩
set_option maxHeartbeats 1000000 in
theorem there_any (x : Pr) (w : World) :
    Calls Tryz.prog 66 #[x.v] w fun e w' => e = .returned (.bool (!x.val.there)) ∧ ∃ q os, w' = grow (w.drewN q) os := by
  obtain ⟨⟨a1, a2, a3, a4⟩, ⟨a5, a6⟩⟩ := x
  simp only [Pr.v]
  go_enter Tryz.func66, Tryz.ntmps66
  go_wp2
  go_returns
  exact ⟨rfl, 0, _, by rw [alloc_eq_grow]; rfl⟩
theorem ownsRow_holds {w : World} {base n g cap : Nat} {e : TypeId} {l : List Pr} (h : w.ownsRow base e 6 (.slice (some ⟨g, 0, none⟩) n cap) n (l.flatMap Pr.f)) (hn : n = l.length) (d : Array (Pr × Nat)) (hd : d.size = l.length) (hx : ∀ x, x < d.size → d[x]!.1 = l[x]!) : HoldsK encT 6 w g 0 d := by
  refine holds_of_cells encT_len d (fun i hi j u hu => ?_) (fun j => h.frozenAt j)
  have hj : j < 6 := by have := (List.getElem?_eq_some_iff.1 hu).1; rwa [encT_len] at this
  have hb : i * 6 + j < l.length * 6 := by rw [hd] at hi; omega
  have hg := rowK_at (enc := Pr.f) (k := 6) (fun x => rfl) l (i * 6 + j) hb
  rw [show (i * 6 + j) / 6 = i by omega, show (i * 6 + j) % 6 = j by omega, ← hx i hi] at hg
  have := h.cells (g := g) rfl (i * 6 + j) u (by rw [hg]; exact hu)
  rw [Addr.add_lit] at this
  rw [show 0 + i * 6 + j = 0 + (i * 6 + j) by omega]
  exact this
set_option maxHeartbeats 1000000 in
set_option maxRecDepth 100000 in
theorem clone_any (v : Value) (l : List Pr) (w : World) (h : SlAt w v 6 l.length (l.flatMap Pr.f)) (hl : l.length ≤ 100000) (hne : 0 < l.length) :
    Calls Tryz.prog 34 #[v] w fun e w' => ∃ g cap, e = .returned (.slice (some ⟨g, 0, none⟩) l.length cap) ∧ w.heap.size ≤ g ∧ g < w'.heap.size ∧ l.length ≤ cap ∧ w'.ownsRow w.heap.size 59 6 (.slice (some ⟨g, 0, none⟩) l.length cap) l.length (l.flatMap Pr.f) ∧ Kept [] w w' := by
  obtain ⟨a, cap, rfl, h1, h2, h3⟩ := h.ex
  obtain ⟨b, off, rfl, h4, h5⟩ := h3 hne
  obtain ⟨i0, hi, z, hz, hz1, hz2, hz3⟩ : ∃ i0, Tryz.prog.info? 59 = some i0 ∧ ∃ z, i0.zero = some z ∧ i0.size = 6 ∧ z.cells.size = 6 ∧ i0.bytes ≤ 64 := ⟨_, rfl, _, rfl, by kernel_rfl, by kernel_rfl, by decide⟩
  refine (AnyE.slices_Clone Tryz.layClonePairs i0 z 6 i0.bytes hi hz hz1 rfl hz2 (by omega) sizP b off l.length cap (l.flatMap Pr.f) w h2 (by unfold maxLen; omega) ?_ h5 ?_).mono ?_
  · have := Nat.mul_le_mul (Nat.le_refl l.length) hz3; omega
  · intro u hu
    obtain ⟨x, _, hx⟩ := List.mem_flatMap.1 hu
    exact encT_one (x, 0) u hx
  · rintro e w' ⟨v', rfl, hown, hnil, hb⟩
    have hown' := hown
    rcases hown.2 with ⟨rfl, hz⟩ | ⟨g, cap', cur, rfl, hg1, hg2, hg3, _⟩
    · exact absurd rfl hnil
    · exact ⟨g, cap', rfl, hg1, (Array.getElem?_eq_some_iff.1 hg2).1, hg3, hown', Kept.of_below hb (Nat.le_refl _) []⟩
theorem tagged_rev (l : List Pr) : (tagged l).reverse.size = l.length ∧ ∀ x, x < (tagged l).reverse.size → (tagged l).reverse[x]!.1 = l[x]! := by
  refine ⟨by simp [tagged], fun x hx => ?_⟩
  have hx' : x < l.length := by simpa [tagged] using hx
  rw [getElem!_pos _ x hx, getElem!_pos l x hx']
  simp [tagged]
  congr 1
  omega
theorem swk_holds_rev {w1 : World} {n g : Nat} (d : Array (Pr × Nat)) (hH : HoldsK encT 6 w1 g 0 d) (hg : g < w1.heap.size) (d' : Array (Pr × Nat)) (hs : d'.size = d.size) :
    HoldsK encT 6 (putRowK encT 6 (Sort.ahead w1 n) g 0 d') g 0 d' ∧ Kept [g] w1 (putRowK encT 6 (Sort.ahead w1 n) g 0 d') ∧ g < (putRowK encT 6 (Sort.ahead w1 n) g 0 d').heap.size := by
  refine ⟨holdsK_putRowK encT 6 _ g 0 d d' (holdsK_ahead encT 6 w1 n g 0 d hH) hs, swk_kept (dk := d') (enc := encT) (k := 6) (off := 0) ⟨n, #[], by unfold sortWorldK; rw [grow_empty]⟩, by rw [size_putRowK]; exact hg⟩
theorem sortP_flat (c : List (Pr × Nat)) : (c.filter fun x => !(!x.1.val.there)).map (·.1) = thereP (c.map (·.1)) := by
  induction c with
  | nil => rfl
  | cons x c ih =>
    unfold thereP at ih ⊢
    simp only [List.map_cons, List.filter_cons, Bool.not_not] at ih ⊢
    split
    · simp [ih]
    · exact ih
theorem flat_fst (c : List (Pr × Nat)) : c.flatMap encT = (c.map (·.1)).flatMap Pr.f := by
  induction c with
  | nil => rfl
  | cons x c ih => simp [ih, encT]
set_option maxHeartbeats 4000000 in
set_option maxRecDepth 100000 in
theorem sort_own (g cap : Nat) (l : List Pr) (w1 : World) (hne : 0 < l.length) (hl : l.length ≤ 100000) (hcap : l.length ≤ cap) (hg : g < w1.heap.size) (hH : HoldsK encT 6 w1 g 0 (tagged l).reverse) (Q : Ending → World → Prop)
    (hQ : ∀ v' w', (∃ n c, v' = .slice (some ⟨g, 0, none⟩) n c) → SlAt w' v' 6 (sortP l).length ((sortP l).flatMap Pr.f) → Kept [g] w1 w' → Q (.returned v') w') :
    ∃ C2 : World → Prop, Calls Tryz.prog 60 #[.slice (some ⟨g, 0, none⟩) l.length cap] w1 (fun e w' => e = .returned (.tuple #[]) ∧ C2 w') ∧
    ∀ w2, C2 w2 → ∃ C3 : World → Prop, Calls Tryz.prog 61 #[.slice (some ⟨g, 0, none⟩) l.length cap, .func (.func 62) #[] #[]] w2 (fun e w' => e = .returned (.tuple #[]) ∧ C3 w') ∧
    ∀ w3, C3 w3 → ∃ C4 : Nat → World → Prop, Calls Tryz.prog 63 #[.slice (some ⟨g, 0, none⟩) l.length cap, .func (.func 64) #[] #[]] w3 (fun e w' => ∃ n, e = .returned (.slice (some ⟨g, 0, none⟩) n cap) ∧ C4 n w') ∧
    ∀ n w4, C4 n w4 → Calls Tryz.prog 65 #[.slice (some ⟨g, 0, none⟩) n cap, .func (.func 66) #[] #[]] w4 fun e w' => ∃ v', e = .returned v' ∧ Q (.returned v') w' := by
  obtain ⟨hs, _⟩ := tagged_rev l
  have hts := tagged_size l
  refine ⟨fun w2 => HoldsK encT 6 w2 g 0 (tagged l) ∧ Kept [g] w1 w2 ∧ g < w2.heap.size, ?_, fun w2 ⟨H2, K2, g2⟩ => ?_⟩
  · have := AnyQ.slices_Reverse Tryz.layRevPairs 6 aggP sizP encT encT_len encT_one g 0 cap (tagged l).reverse w1 hH (by omega)
    rw [hs] at this
    refine this.mono ?_
    rintro e w' ⟨rfl, n, rfl⟩
    rw [Array.reverse_reverse]
    exact ⟨rfl, swk_holds_rev _ hH hg (tagged l) (by omega)⟩
  have R2 : RowK encT 6 w2 g 0 (tagged l) := ⟨encT_len, encT_one, H2, g2⟩
  refine ⟨fun w3 => SWK encT 6 w2 g 0 (stab (ltOf cfT) (tagged l).size (tagged l)) w3, ?_, fun w3 S3 => ?_⟩
  · have := sortStable_any g 0 cap (tagged l) (tagged l) w2 w2 R2 rfl (SWK.start H2) (by omega)
    rw [hts] at this ⊢
    exact this
  have hlaw := sort_law l
  have zs : (stab (ltOf cfT) (tagged l).size (tagged l)).size = (tagged l).size := size_stab _ _ _
  generalize stab (ltOf cfT) (tagged l).size (tagged l) = st at S3 hlaw zs
  generalize hc : selN (fun j => j == 0 || !eqT st[j]! st[j - 1]!) st st.size = c at hlaw
  refine ⟨fun n w4 => HoldsK encT 6 w4 g 0 c.toArray ∧ n = c.length ∧ c.length ≤ cap ∧ c.length ≤ 100000 ∧ Kept [g] w1 w4 ∧ g < w4.heap.size, ?_, fun n w4 ⟨H4, hn, hcc, hc1, K4, g4⟩ => ?_⟩
  · have := compact_gen sfacts Tryz.func63 6 aggP sizP encT (⟨⟨0, 0, 0, 0⟩, V.zero⟩, 0) (fun w => by kernel_rfl) eqT 64 #[] g 0 cap (tagged l) st w2 w3 (enters_of Tryz.func64 (by kernel_rfl) rfl) (fun W x y => eqPair_any x.1 y.1 W) R2 zs.symm S3 (by omega) (by omega) _ rfl
    rw [hc] at this
    rw [show l.length = st.size by omega]
    refine this.mono ?_
    rintro e w' ⟨d', n, rfl, hlaid, hn, hds, S4⟩
    have hH' := S4.holds R2.hblk R2.hH (by omega)
    refine ⟨n, rfl, holdsK_laid encT_len hH' c (by rw [hlaid.1]; omega) (fun x hx => hlaid.2 x (by rw [← hlaid.1]; exact hx)), hlaid.1.symm, by rw [hlaid.1]; omega, by rw [hlaid.1]; omega, K2.trans (swk_kept S4) (fun x hx => .inl hx), S4.lt R2.hblk⟩
  · have R4 : RowK encT 6 w4 g 0 c.toArray := ⟨encT_len, encT_one, H4, g4⟩
    have := delete_gen sfacts Tryz.func65 Tryz.func89 6 aggP sizP encT (⟨⟨0, 0, 0, 0⟩, V.zero⟩, 0) (fun w => by kernel_rfl) (fun x => !x.1.val.there) 66 #[] g 0 cap c.toArray c.toArray w4 w4 (enters_of Tryz.func66 (by kernel_rfl) rfl) (fun W x => there_any x.1 W) R4 rfl (SWK.start H4) (by simp; omega) (by simpa using hcc) _ rfl
    rw [show n = c.toArray.size by simpa using hn]
    refine this.mono ?_
    rintro e w' ⟨d', n', rfl, hlaid, hn', hds, S5⟩
    rw [selN_filter (fun x => !(!x.1.val.there)) c.toArray c.toArray.size (Nat.le_refl _), List.take_of_length_le (by simp)] at hlaid
    refine ⟨_, rfl, hQ _ _ ⟨_, _, rfl⟩ ?_ (K4.trans (swk_kept S5) fun x hx => .inl hx)⟩
    have hr := holdsK_slAt (w := w') encT_len (S5.holds R4.hblk R4.hH hds) (S5.lt R4.hblk) (c.filter fun x => !(!x.1.val.there)) cap (by rw [hlaid.1]; omega) (fun x hx => hlaid.2 x (by rw [← hlaid.1]; exact hx)) (by rw [hlaid.1]; simp at hn'; omega)
    rw [flat_fst, sortP_flat, hlaw] at hr
    have e : (c.filter fun x => !(!x.1.val.there)).length = (sortP l).length := by
      have := congrArg List.length (sortP_flat c)
      rw [hlaw] at this
      simpa [sortP] using this
    rw [e] at hr
    have e2 : n' = (sortP l).length := by rw [← e, ← hlaid.1]
    rw [e2]
    exact hr
set_option maxHeartbeats 4000000 in
set_option maxRecDepth 100000 in
theorem sort_someF (v : Value) (l : List Pr) (w : World) (h : SlAt w v 6 l.length (l.flatMap Pr.f)) (hl : l.length ≤ 100000) (hne : 0 < l.length) :
    Calls Tryz.prog 33 #[v] w fun e w' => ∃ v', e = .returned v' ∧ (∃ g n c, v' = .slice (some ⟨g, 0, none⟩) n c ∧ w.heap.size ≤ g) ∧ SlAt w' v' 6 (sortP l).length ((sortP l).flatMap Pr.f) ∧ Kept [] w w' := by
  have HC := hid (clone_any v l w h hl hne)
  clear h
  go_enter Tryz.func33, Tryz.ntmps33
  go_wp2_with (first
    | (go_at_call 34; refine HC.out.mono ?_; clear HC; rintro e w1 ⟨g, cap, rfl, hg0, hg, hcap, hown, hk⟩;
       obtain ⟨C2, c2, h2⟩ := sort_own g cap l w1 hne hl hcap hg (ownsRow_holds hown rfl _ (tagged_rev l).1 (tagged_rev l).2) (fun e w' => ∃ v', e = .returned v' ∧ (∃ g n c, v' = .slice (some ⟨g, 0, none⟩) n c ∧ w.heap.size ≤ g) ∧ SlAt w' v' 6 (sortP l).length ((sortP l).flatMap Pr.f) ∧ Kept [] w w') (fun v' w' hv hs hk' => ⟨v', rfl, (by obtain ⟨n, c, hv⟩ := hv; exact ⟨g, n, c, hv, hg0⟩), hs, hk.trans hk' (fun x hx => .inr (by simp at hx; omega))⟩);
       have HC2 := hid c2; have H2 := hid h2; clear c2 h2 hown)
    | (go_at_call 60; refine HC2.out.mono ?_; clear HC2; rintro e w2 ⟨rfl, q2⟩; obtain ⟨C3, c3, h3⟩ := H2.out w2 q2; have HC3 := hid c3; have H3 := hid h3; clear c3 h3 q2 H2)
    | (go_at_call 61; refine HC3.out.mono ?_; clear HC3; rintro e w3 ⟨rfl, q3⟩; obtain ⟨C4, c4, h4⟩ := H3.out w3 q3; have HC4 := hid c4; have H4 := hid h4; clear c4 h4 q3 H3)
    | (go_at_call 63; refine HC4.out.mono ?_; clear HC4; rintro e w4 ⟨n, rfl, q4⟩; have HC5 := hid (H4.out n w4 q4); clear q4 H4)
    | (go_at_call 65; refine HC5.out.mono ?_; clear HC5; rintro e w5 ⟨v', rfl, q5⟩))
  go_returns
  exact q5
theorem sort_some (v : Value) (l : List Pr) (w : World) (h : SlAt w v 6 l.length (l.flatMap Pr.f)) (hl : l.length ≤ 100000) (hne : 0 < l.length) :
    Calls Tryz.prog 33 #[v] w fun e w' => ∃ v', e = .returned v' ∧ (∃ g n c, v' = .slice (some ⟨g, 0, none⟩) n c) ∧ SlAt w' v' 6 (sortP l).length ((sortP l).flatMap Pr.f) ∧ Kept [] w w' :=
  (sort_someF v l w h hl hne).mono fun e w' ⟨v', h1, ⟨g, n, c, h2, _⟩, h3, h4⟩ => ⟨v', h1, ⟨g, n, c, h2⟩, h3, h4⟩
set_option maxHeartbeats 1000000 in
set_option maxRecDepth 100000 in
theorem stable_none (a : Option Addr) (cap : Nat) (fv : Value) (w : World) :
    Calls Tryz.prog 94 #[.slice a 0 cap, .int .i64 0, fv] w fun e w' => e = .returned (.tuple #[]) ∧ w' = w := by
  have HI := hid (fun (w : World) => AnyF.insertionSortCmpFunc_none Tryz.layInsPairs a cap fv w)
  go_enter Tryz.func94, Tryz.ntmps94
  go_wp2
  go_loopg [7, 8] 0 (fun kx sa sb wr => sa = .int .i64 0 ∧ sb = .int .i64 20 ∧ wr = w)
  case atStart => exact ⟨by first | rfl | go_num, by first | rfl | go_num, rfl⟩
  case round =>
    obtain ⟨rfl, rfl, rfl⟩ := hrel
    go_wp2_with (go_at_call 114; refine (HI.out _).mono ?_; rintro e w1 ⟨rfl, rfl⟩)
    go_loopg [6, 7, 8, 9] 0 (fun kx ss sa sb sm wr => ss = .int .i64 20 ∧ wr = w1)
    case atStart => exact ⟨by first | rfl | go_num, rfl⟩
    case round =>
      obtain ⟨rfl, rfl⟩ := hrel
      go_wp2
      go_end0
      exact ⟨rfl, rfl⟩
set_option maxHeartbeats 1000000 in
set_option maxRecDepth 100000 in
theorem sortStable_none (a : Option Addr) (cap : Nat) (fv : Value) (w : World) :
    Calls Tryz.prog 61 #[.slice a 0 cap, fv] w fun e w' => e = .returned (.tuple #[]) ∧ w' = w := by
  have HI := hid (fun (w : World) => stable_none a cap fv w)
  go_enter Tryz.func61, Tryz.ntmps61
  go_wp2_with (go_at_call 94; refine (HI.out _).mono ?_; rintro e w1 ⟨rfl, rfl⟩)
  go_end0
  exact ⟨rfl, rfl⟩
set_option maxHeartbeats 1000000 in
set_option maxRecDepth 100000 in
theorem compact_none (a : Option Addr) (cap : Nat) (fv : Value) (w : World) :
    Calls Tryz.prog 63 #[.slice a 0 cap, fv] w fun e w' => e = .returned (.slice a 0 cap) ∧ w' = w := by
  go_enter Tryz.func63, Tryz.ntmps63
  go_wp2
  go_returns
  exact ⟨rfl, rfl⟩
set_option maxHeartbeats 1000000 in
set_option maxRecDepth 100000 in
theorem index_none (a : Option Addr) (cap : Nat) (fv : Value) (w : World) :
    Calls Tryz.prog 89 #[.slice a 0 cap, fv] w fun e w' => e = .returned (.int .i64 (-1)) ∧ w' = w := by
  go_enter Tryz.func89, Tryz.ntmps89
  go_wp2
  go_loopg [5, 8] 0 (fun kx s5 s8 wr => s8 = .int .i64 0 ∧ wr = w)
  case atStart => exact ⟨by first | rfl | go_num, rfl⟩
  case round =>
    obtain ⟨rfl, rfl⟩ := hrel
    go_wp2
    go_returns
    exact ⟨rfl, rfl⟩
set_option maxHeartbeats 1000000 in
set_option maxRecDepth 100000 in
theorem delete_none (a : Option Addr) (cap : Nat) (fv : Value) (w : World) :
    Calls Tryz.prog 65 #[.slice a 0 cap, fv] w fun e w' => e = .returned (.slice a 0 cap) ∧ w' = w := by
  have HI := hid (fun (w : World) => index_none a cap fv w)
  go_enter Tryz.func65, Tryz.ntmps65
  go_wp2_with (go_at_call 89; refine (HI.out _).mono ?_; rintro e w1 ⟨rfl, rfl⟩)
  go_returns
  exact ⟨rfl, rfl⟩
set_option maxRecDepth 100000 in
theorem clone_none (a : Option Addr) (cap : Nat) (w : World) (ha : ∀ x, a = some x → x.spot = none) :
    Calls Tryz.prog 34 #[.slice a 0 cap] w fun e w' => ∃ a' cap', e = .returned (.slice a' 0 cap') ∧ ((∀ x, a' = some x → x.spot = none) ∧ (a' = none → cap' = 0)) ∧ Kept [] w w' := by
  cases a with
  | none => exact (AnyE.slices_Clone_nil Tryz.layClonePairs 0 cap w).mono fun e w' ⟨h1, h2⟩ => ⟨none, 0, h1, ⟨fun x h => (by cases h), fun _ => rfl⟩, by rw [h2]; exact Kept.refl _ _⟩
  | some x =>
    obtain ⟨b, off, sp⟩ := x
    have hsp : sp = none := ha _ rfl
    subst hsp
    obtain ⟨i0, hi, z, hz, hz1, hz2, hz3⟩ : ∃ i0, Tryz.prog.info? 59 = some i0 ∧ ∃ z, i0.zero = some z ∧ i0.size = 6 ∧ z.cells.size = 6 ∧ i0.bytes ≤ 64 := ⟨_, rfl, _, rfl, by kernel_rfl, by kernel_rfl, by decide⟩
    refine (AnyE.slices_Clone Tryz.layClonePairs i0 z 6 i0.bytes hi hz hz1 rfl hz2 (by omega) sizP b off 0 cap [] w rfl (by unfold maxLen; omega) (by omega) (fun j u h => by simp at h) (fun u hu => by cases hu)).mono ?_
    rintro e w' ⟨v', rfl, hown, hnil, hb⟩
    rcases hown.2 with ⟨rfl, hz⟩ | ⟨g, cap', cur, rfl, hg1, hg2, hg3, _⟩
    · exact absurd rfl hnil
    · exact ⟨_, cap', rfl, ⟨fun x h => (by cases h; rfl), fun h => (by cases h)⟩, Kept.of_below hb (Nat.le_refl _) []⟩
set_option maxHeartbeats 1000000 in
set_option maxRecDepth 100000 in
theorem sort_none (a : Option Addr) (cap : Nat) (w : World) (ha : ∀ x, a = some x → x.spot = none) :
    Calls Tryz.prog 33 #[.slice a 0 cap] w fun e w' => ∃ a' cap', e = .returned (.slice a' 0 cap') ∧ ((∀ x, a' = some x → x.spot = none) ∧ (a' = none → cap' = 0)) ∧ Kept [] w w' := by
  have HC := hid (clone_none a cap w ha)
  clear ha
  go_enter Tryz.func33, Tryz.ntmps33
  go_wp2_with (first
    | (go_at_call 34; refine HC.out.mono ?_; clear HC; rintro e w1 ⟨a', cap', rfl, hsp, hk⟩; have HSP := hid hsp; clear hsp)
    | (go_at_call 60; refine (AnyQ.slices_Reverse_empty Tryz.layRevPairs _ _ _).mono ?_; rintro e w2 ⟨rfl, rfl⟩)
    | (go_at_call 61; refine (sortStable_none _ _ _ _).mono ?_; rintro e w2 ⟨rfl, rfl⟩)
    | (go_at_call 63; refine (compact_none _ _ _ _).mono ?_; rintro e w2 ⟨rfl, rfl⟩)
    | (go_at_call 65; refine (delete_none _ _ _ _).mono ?_; rintro e w2 ⟨rfl, rfl⟩))
  go_returns
  exact ⟨_, _, rfl, HSP.out, hk⟩
--@@ end
--@@ (*draft.Draft).Pairs
set_option maxHeartbeats 1000000 in
set_option maxRecDepth 100000 in
theorem sortFunc_own (v : Value) (base n : Nat) (ps ls : List Pr) (w : World) (hown : w.ownsRow base 59 6 v n (ps.flatMap Pr.f)) (hnl : n = ps.length) (hl : ps.length ≤ 100000) (hp : ps.Perm ls) (hn : (ls.map (·.key)).Nodup) :
    Calls Tryz.prog 67 #[v, .func (.func 62) #[] #[]] w fun e w' => e = .returned (.tuple #[]) ∧ PrAt w' v (keysP ls) ∧ ∃ S, Kept S w w' ∧ ∀ x, x ∈ S → base ≤ x := by
  have eO : ∀ args w, (callFunc 62 args).run Tryz.prog w = .ok (.enter 62 args) w := enters_of (Tryz.func62) (by kernel_rfl) rfl
  subst hnl
  rcases Nat.eq_zero_or_pos ps.length with h0 | hne
  · have hps : ps = [] := List.eq_nil_of_length_eq_zero h0
    subst hps
    have hls : ls = [] := List.eq_nil_of_length_eq_zero hp.length_eq.symm
    subst hls
    have hw := PrAt.of_own hown rfl
    obtain ⟨a, cap, rfl⟩ := ownsRow_slice hown
    refine (AnyF.slices_SortFunc_none Tryz.laySortPairs a cap _ w).mono ?_
    rintro e w' ⟨rfl, rfl⟩
    exact ⟨rfl, hw, [], Kept.refl _ _, fun x hx => by cases hx⟩
  · have hown' := hown
    rcases hown.2 with ⟨_, hz⟩ | ⟨g, cap, cur, rfl, hb, hg, hle, _⟩
    · omega
    · have hgl := (Array.getElem?_eq_some_iff.1 hg).1
      obtain ⟨d, hd⟩ : ∃ d : Array (Pr × Nat), d = (ps.map fun x => (x, 0)).toArray := ⟨_, rfl⟩
      have hds : d.size = ps.length := by rw [hd]; simp
      have hdl : d.toList.map (·.1) = ps := by rw [hd]; simp [Function.comp_def]
      have hH : HoldsK encT 6 w g 0 d := ownsRow_holds hown rfl d hds (fun x hx => by
        rw [getElem!_pos d x hx, getElem!_pos ps x (by omega)]
        simp [hd])
      have := AnyQ.slices_SortFunc Tryz.laySortPairs 6 aggP sizP encT encT_len encT_one cfT swoT 62 #[] g 0 cap d w eO (cmpT _ _ _ _) hH hgl (by omega)
      rw [hds] at this
      refine this.mono ?_
      rintro e w' ⟨rfl, d', n, os, hP, hS, rfl⟩
      have hsz : d'.size = d.size := hP.1
      have S1 : SWK encT 6 w g 0 d' (sortWorldK encT 6 w g 0 n d' os) := ⟨n, os, rfl⟩
      have hH' := S1.holds hgl hH hsz
      have hperm : (d'.toList.map (·.1)).Perm ls := by
        have h1 := hP.2.2
        have e1 : d'.extract 0 ps.length = d' := by rw [← hds, ← hsz]; simp
        have e2 : d.extract 0 ps.length = d := by rw [← hds]; simp
        rw [e1, e2] at h1
        have := h1.map (fun x : Pr × Nat => x.1)
        rw [hdl] at this
        exact this.trans hp
      have hkeys : d'.toList.map (·.1) = keysP ls := sorted_keysP _ ls hperm hn (by
        refine List.pairwise_map.2 ?_
        rw [List.pairwise_iff_getElem]
        intro i j hi hj hij
        have := hS i j (Nat.zero_le _) hij (by simpa [hsz, hds] using hj)
        rw [getElem!_pos d' i (by simpa using hi), getElem!_pos d' j (by simpa using hj)] at this
        have h2 : ¬ (d'[j]'(by simpa using hj)).1.key.num < (d'[i]'(by simpa using hi)).1.key.num := fun h => by
          have e := ordK_neg (d'[j]'(by simpa using hj)).1.key (d'[i]'(by simpa using hi)).1.key
          rw [decide_eq_true h] at e
          unfold ltOf cfT at this
          rw [e] at this; cases this
        simpa using h2)
      have hr := holdsK_slAt encT_len hH' (S1.lt hgl) d'.toList cap (by simp) (fun x hx => by rw [getElem!_pos d' x (by simpa using hx), getElem!_pos d'.toList x hx]; simp) (by simp; omega)
      rw [flat_fst, hkeys] at hr
      have hlen : d'.toList.length = (keysP ls).length := by rw [← hkeys]; simp
      refine ⟨rfl, ⟨?_, fun a n c hv => by cases hv; rfl, fun n c hv => by cases hv⟩, [g], swk_kept S1, fun x hx => by simp at hx; omega⟩
      rw [show ps.length = d'.toList.length by simp [hsz, hds]]
      rw [← hlen]
      exact hr
set_option maxHeartbeats 8000000 in
set_option maxRecDepth 100000 in
theorem dpairs_any (a m : Nat) (l : List (K4 × V)) (w : World) (h : DraftIs w a m l) (hn : (l.map (·.1)).Nodup) (hl : l.length ≤ 1000) :
    Calls Tryz.prog 35 #[.pointer (some ⟨a, 0, none⟩)] w fun e w' => ∃ v, e = .returned v ∧ PrAt w' v (keysP (l.map toPr)) ∧ Kept [] w w' := by
  have c0 := h.c0
  have HM := hid h.map
  have HF := hid (show (Tryz.prog.info? 59).map (fun i => (i.zero, i.size, i.bytes)) = some (some (.agg #[.int .u8 0, .int .u8 0, .int .u8 0, .int .u8 0, .bool false, .int .i64 0]), 6, 24) by kernel_rfl)
  have hmw := h.lt.2
  clear h
  go_enter Tryz.func35, Tryz.ntmps35
  go_wp2_with (first | (at_range; refine wpList_range_is rfl _ 122 rfl _ _ Tryz.underlying122 rfl HM.out ?_; intro w0 hR hk hsz0))
  go_frame
  have HR := hid hR
  have HK := hid hk
  clear hR hk
  go_loopg [3] l.length (fun kx s3 wr => ∃ (todo acc : List (K4 × V)), Aside (wr.ownsRow w0.heap.size 59 6 s3 acc.length ((acc.map toPr).flatMap Pr.f)) ∧ Aside ((acc ++ todo).Perm l) ∧ Aside (RangeIs wr m w.heap.size K4.v (dl todo)) ∧ Aside (Kept [] w wr) ∧ todo.length ≤ kx ∧ w0.heap.size ≤ wr.heap.size)
  case atStart => exact ⟨l, [], ⟨rfl, .inl ⟨rfl, rfl⟩⟩, List.Perm.refl _, HR.out, HK.out, Nat.le_refl _, Nat.le_refl _⟩
  case round =>
    clear HR HK
    obtain ⟨todo, acc, HO, HP, HR, HK, hkx, hsz⟩ := hrel
    go_wp2_with (first
      | (at_next; refine wpList_next_is rfl _ rfl rfl HR.out ?_ ?_; (intro hd0); rotate_left; (intro x u T w1 hp hR1 hk1 hs1 hen; obtain ⟨v, t', rfl, rfl, hp'⟩ := dl_perm hp; have HP' := hid hp'; have HR1 := hid hR1; have HK1 := hid hk1; clear hp hp' hR1 hk1; obtain ⟨k1, k2, k3, k4⟩ := x; obtain ⟨y1, y2⟩ := v; simp only [K4.v, V.v] at hen ⊢))
      | (at_builtin; refine Here.mk ?_)
      | (go_at_call 67; refine Here.mk ?_))
    · refine Here.of ?_
      clear hen
      have HO1 := hid (ownsRow_kept HO.out HK1.out (fun x hx => by simp at hx; omega))
      generalize Obj.cells #[Value.int IntKind.u8 (k1.toNat : Int), Value.int IntKind.u8 (k2.toNat : Int), Value.int IntKind.u8 (k3.toNat : Int), Value.int IntKind.u8 (k4.toNat : Int)] 33 = A
      generalize Obj.cells #[Value.bool y1, Value.int IntKind.i64 y2] 44 = B
      have hAB : ((w1.alloc A).alloc B).heap.size = wr.heap.size + 1 + 1 := by simp [hs1]
      rw [← hAB]
      have hacc : acc.length + todo.length = l.length := by have := HP.out.length_eq; simpa using this
      refine wpList_append_is rfl _ _ 30 rfl 59 _ 6 24 Tryz.underlying30 HF.out rfl (by decide) (by decide) w0.heap.size _ acc.length _ rfl (((HO1.out.alloc _).alloc _).alloc _) _ 1 1 (Pr.f ⟨⟨k1, k2, k3, k4⟩, ⟨y1, y2⟩⟩) rfl rfl (fun j u h => cells_new _ (Pr.f ⟨⟨k1, k2, k3, k4⟩, ⟨y1, y2⟩⟩) _ j u h) (by simp [Pr.f, Value.oneCell']) (by omega) (by simp; omega) ?_
      intro v' w2 hown2 hgrow hnil
      obtain ⟨S, hS1, hS2⟩ := ownsRow_grown (((HO1.out.alloc _).alloc _).alloc _) hgrow
      have HW := hid ((((Kept.refl [] w1).alloc A).alloc B).alloc (.cells (Pr.f ⟨⟨k1, k2, k3, k4⟩, ⟨y1, y2⟩⟩).toArray 59))
      have hk2 := HW.out.trans (c := w2) (T := S) hS1
      have HR2 := hid ((HR1.out.kept HW.out (by simp) (by simp)).kept hS1 (fun hx => by have := hS2 _ hx; omega) (fun hx => by have := hS2 _ hx; omega))
      have HK2 := hid ((((HK.out.trans HK1.out (fun x hx => .inr (by simp at hx; omega))).trans HW.out (fun x hx => .inl hx)).trans hS1 (fun x hx => .inr (by have := hS2 x hx; omega))))
      have hsz2 : w1.heap.size ≤ w2.heap.size := Nat.le_trans HW.out.size hS1.size
      have H2 := hid hown2
      clear hown2 hgrow hnil hS1 hk2
      go_wp2
      go_roundg t'.length
      case measure =>
        have := HP'.out.length_eq
        simp at this
        omega
      case rel =>
        refine ⟨t', acc ++ [(⟨k1, k2, k3, k4⟩, ⟨y1, y2⟩)], ?_, ?_, HR2.out, HK2.out, Nat.le_refl _, by omega⟩
        · have := H2.out
          show World.ownsRow _ _ _ _ _ _ _
          rw [List.map_append, List.flatMap_append, List.length_append]
          simpa [toPr] using this
        · show List.Perm _ _
          rw [List.append_assoc]
          exact (HP'.out.symm.append_left acc).trans HP.out
    · refine Here.of ?_
      have ht : todo = [] := by
        cases todo with
        | nil => rfl
        | cons p t => simp [dl] at hd0
      subst ht
      have hperm : (acc.map toPr).Perm (l.map toPr) := by have := HP.out.map toPr; simpa using this
      have hlen : acc.length = l.length := by have := HP.out.length_eq; simpa using this
      refine (sortFunc_own u3 w0.heap.size acc.length (acc.map toPr) (l.map toPr) wr HO.out (by simp) (by simp; omega) hperm (by rw [List.map_map]; exact hn)).mono ?_
      rintro e w3 ⟨rfl, hpr, S, hS1, hS2⟩
      have hk3 : Kept [] w w3 := HK.out.trans hS1 (fun x hx => .inr (by have := hS2 x hx; omega))
      go_wp2
      go_returns
      exact ⟨_, rfl, hpr, hk3⟩
--@@ end
--@@ slices.Concat
set_option maxRecDepth 100000 in
theorem grow_nil (n : Nat) (w : World) (hl : n ≤ 100000) :
    Calls Tryz.prog 110 #[.slice none 0 0, .int .i64 n] w fun e w' => ∃ v, e = .returned v ∧ w'.ownsRow w.heap.size 59 6 v 0 [] ∧ Kept [] w w' := by
  rcases Nat.eq_zero_or_pos n with rfl | hn
  · refine (Any8.slices_Grow_room Tryz.layGrowPairs none 0 0 0 w (by omega) (by omega) (by omega) (by omega)).mono ?_
    rintro e w' ⟨rfl, rfl⟩
    exact ⟨_, rfl, ⟨rfl, .inl ⟨rfl, rfl⟩⟩, Kept.refl _ _⟩
  · obtain ⟨i0, hi, z, hz, hz1, hz2, hz3⟩ : ∃ i0, Tryz.prog.info? 59 = some i0 ∧ ∃ z, i0.zero = some z ∧ i0.size = 6 ∧ z.cells.size = 6 ∧ i0.bytes ≤ 64 := ⟨_, rfl, _, rfl, by kernel_rfl, by kernel_rfl, by decide⟩
    refine (Any8.slices_Grow_grow Tryz.layGrowPairs i0 z hi hz (by omega) none 0 0 n [] w (by omega) (by omega) (by have := Nat.mul_le_mul (Nat.le_refl (0 + n)) hz3; omega) (by omega) (by simp) (fun _ => rfl) (fun a h => by cases h)).mono ?_
    rintro e w' ⟨rfl, rfl⟩
    have hge := grownCap_ge w (0 + n) 0 59
    have hle := grownCap_le_maxLen w (0 + n) 0 59 (by unfold maxLen; omega)
    refine ⟨_, rfl, ⟨rfl, .inr ⟨w.heap.size, _, _, rfl, Nat.le_refl _, heap_alloc_new w.drew _, Nat.zero_le _, hle, ?_, by simp⟩⟩, (Kept.refl [] w).drew.alloc _⟩
    have hge2 : 0 + n ≤ grownCap w (0 + n) 0 (Tryz.layGrowPairs_ren.t 25) := hge
    have e1 : ∀ m, (Builtin.zeroCells z.cells m).size = m * 6 := fun m => by rw [size_zeroCells, hz2]
    generalize grownCap w (0 + n) 0 (Tryz.layGrowPairs_ren.t 25) = c at hge2 ⊢
    simp only [Array.size_append, e1]
    simp
    omega
theorem pairInfo : (Tryz.prog.info? 59).map (fun i => (i.zero, i.size, i.bytes)) = some (some (.agg #[.int .u8 0, .int .u8 0, .int .u8 0, .int .u8 0, .bool false, .int .i64 0]), 6, 24) := by kernel_rfl
theorem wpList_append_pr {w : World} {ops : Array Oper} {rest : List Oper} {o : Oper} {a : Act} {Q : Exit → Act → World → Prop} (hgd : o.guard = none) (s x : Operand)
    (ho : o.op = .call { callee := .builtin .append, args := #[s, x], argTypes := #[30, 30] })
    (base : Nat) (v : Value) (n : Nat) (xs : List Value) (hs : a.eval s = v) (hown : w.ownsRow base 59 6 v n xs) (vx : Value) (l : List Pr) (hx : a.eval x = vx) (hp : PrAt w vx l)
    (hn : n + l.length ≤ 100000) (hbase : base ≤ w.heap.size)
    (h : ∀ v' w', w'.ownsRow base 59 6 v' (n + l.length) (xs ++ l.flatMap Pr.f) → w.grownBy w' v.ownBlock → wpList Tryz.prog ops Q rest (a.put o.dst v') w') : wpList Tryz.prog ops Q (o :: rest) a w := by
  obtain ⟨ax, c, rfl, h1, h2, h3⟩ := hp.at'.ex
  obtain ⟨i, hi, hz0, hz1, hz2⟩ := info_parts pairInfo
  cases ax with
  | none =>
    have hl0 : l = [] := by
      cases l with
      | nil => rfl
      | cons y l => obtain ⟨b, off, e, _⟩ := h3 (by simp); cases e
    subst hl0
    have hc0 := hp.nl _ _ rfl
    subst hc0
    refine wpList_append_own_none hgd s x 30 ho base 59 i 6 Tryz.underlying30 hi v n xs hs hown hx (h v w (by simpa using hown) ?_)
    exact World.grownBy.refl _ _
  | some ad =>
    refine wpList_append_is hgd s x 30 ho 59 _ 6 24 Tryz.underlying30 pairInfo rfl (by decide) (by decide) base v n xs hs hown ad l.length c (l.flatMap Pr.f) hx h2 ?_ ?_ (by omega) hbase (fun v' w' g1 g2 _ => h v' w' g1 g2)
    · intro j u hj
      have hpos : 0 < l.length := by
        cases l with
        | nil => simp at hj
        | cons y l => simp
      obtain ⟨b, off, e, _, hcs⟩ := h3 hpos
      cases e
      rw [Addr.add_lit]
      exact hcs j u hj
    · intro u hu
      obtain ⟨y, _, hy⟩ := List.mem_flatMap.1 hu
      exact encT_one (y, 0) u hy
set_option maxHeartbeats 4000000 in
set_option maxRecDepth 100000 in
theorem concat_any (B : Nat) (v1 v2 : Value) (l1 l2 : List Pr) (w : World) (hB : w.heap[B]? = some (.cells #[v1, v2] 30 (0, 0))) (h1 : PrAt w v1 l1) (h2 : PrAt w v2 l2) (m1 : l1.length ≤ 20000) (m2 : l2.length ≤ 20000) :
    Calls Tryz.prog 91 #[.slice (some ⟨B, 0, none⟩) 2 2] w fun e w' => ∃ v, e = .returned v ∧ PrAt w' v (l1 ++ l2) ∧ Kept [] w w' := by
  have c0 : w.cell? ⟨B, 0, none⟩ = some v1 := by simp [World.cell?, hB]
  have c1 : w.cell? ⟨B, 1, none⟩ = some v2 := by simp [World.cell?, hB]
  obtain ⟨a1, cap1, rfl, _⟩ := h1.at'.ex
  obtain ⟨a2, cap2, rfl, _⟩ := h2.at'.ex
  have HB := hid hB
  have H1 := hid h1
  have H2 := hid h2
  clear hB h1 h2
  go_enter Tryz.func91, Tryz.ntmps91
  go_wp2
  go_loopg [3, 11] 2 (fun kx s3 s11 wr => wr = w ∧ ∃ (k : Nat), s11 = .int .i64 k ∧ k ≤ 2 ∧ 2 - k ≤ kx ∧ ((k = 0 ∧ s3 = .int .i64 0) ∨ (k = 1 ∧ s3 = .int .i64 (l1.length : Int)) ∨ (k = 2 ∧ s3 = .int .i64 ((l1.length + l2.length : Nat) : Int))))
  case atStart => exact ⟨rfl, 0, by first | rfl | go_num, by omega, by omega, .inl ⟨rfl, by first | rfl | go_num⟩⟩
  case round =>
    obtain ⟨rfl, k, rfl, hk, hkx, ⟨rfl, rfl⟩ | ⟨rfl, rfl⟩ | ⟨rfl, rfl⟩⟩ := hrel
    · have hpos : (0 : Int) ≤ (l1.length : Int) := by omega
      go_wp2
      go_roundg 1
      case measure => omega
      case rel => exact ⟨rfl, 1, by first | rfl | go_num, by omega, by omega, .inr (.inl ⟨rfl, by first | rfl | go_num⟩)⟩
    · have hpos : (0 : Int) ≤ (l1.length : Int) + (l2.length : Int) := by omega
      go_wp2
      go_roundg 0
      case measure => omega
      case rel => exact ⟨rfl, 2, by first | rfl | go_num, by omega, by omega, .inr (.inr ⟨rfl, by first | rfl | go_num | (congr 1; omega)⟩)⟩
    · go_wp2_with (first | (go_at_call 110; refine (grow_nil (l1.length + l2.length) _ (by omega)).mono ?_; rintro e w1 ⟨v, rfl, hown, hk⟩))
      have HO := hid hown
      have HK := hid hk
      clear hown hk
      go_loopg [6, 27] 2 (fun kx s6 s27 w2 => ∃ (k : Nat) (acc : List Pr), s27 = .int .i64 k ∧ k ≤ 2 ∧ 2 - k ≤ kx ∧ ((k = 0 ∧ acc = []) ∨ (k = 1 ∧ acc = l1) ∨ (k = 2 ∧ acc = l1 ++ l2)) ∧ Aside (w2.ownsRow wr.heap.size 59 6 s6 acc.length (acc.flatMap Pr.f)) ∧ Aside (Kept [] wr w2))
      case atStart => exact ⟨0, [], by first | rfl | go_num, by omega, by omega, .inl ⟨rfl, rfl⟩, HO.out, HK.out⟩
      case round =>
        clear HO HK
        obtain ⟨k, acc, rfl, hk, hkx, hcase, HO, HK⟩ := hrel
        have b0 := HK.out.cell c0 (by simp)
        have b1 := HK.out.cell c1 (by simp)
        have hsz := HK.out.size
        rcases hcase with ⟨rfl, rfl⟩ | ⟨rfl, rfl⟩ | ⟨rfl, rfl⟩
        · go_wp2_with (first | (at_builtin; refine wpList_append_pr rfl _ _ rfl _ _ _ _ rfl HO.out _ l1 rfl (H1.out.kept HK.out) (by simp; omega) hsz ?_; intro v' w3 hown3 hgrow))
          have HK3 := hid (HK.out.grown_own HO.out hgrow (Nat.le_refl _))
          have HO3 := hid hown3
          clear hown3 hgrow
          go_roundg 1
          case measure => omega
          case rel => exact ⟨1, l1, by first | rfl | go_num, by omega, by omega, .inr (.inl ⟨rfl, rfl⟩), by have := HO3.out; show World.ownsRow _ _ _ _ _ _ _; simpa using this, HK3.out⟩
        · go_wp2_with (first | (at_builtin; refine wpList_append_pr rfl _ _ rfl _ _ _ _ rfl HO.out _ l2 rfl (H2.out.kept HK.out) (by omega) hsz ?_; intro v' w3 hown3 hgrow))
          have HK3 := hid (HK.out.grown_own HO.out hgrow (Nat.le_refl _))
          have HO3 := hid hown3
          clear hown3 hgrow
          go_roundg 0
          case measure => omega
          case rel => exact ⟨2, acc ++ l2, by first | rfl | go_num, by omega, by omega, .inr (.inr ⟨rfl, rfl⟩), by have := HO3.out; show World.ownsRow _ _ _ _ _ _ _; rw [List.flatMap_append, List.length_append]; exact this, HK3.out⟩
        · go_wp2
          go_returns
          exact ⟨_, rfl, PrAt.of_own HO.out rfl, HK.out⟩
--@@ (*draft.Draft).Over
theorem sort_prF (v : Value) (l : List Pr) (w : World) (h : PrAt w v l) (hl : l.length ≤ 100000) :
    Calls Tryz.prog 33 #[v] w fun e w' => ∃ v', e = .returned v' ∧ PrAt w' v' (sortP l) ∧ Kept [] w w' ∧ ∀ a n c, v' = .slice (some a) n c → 0 < n → w.heap.size ≤ a.block := by
  rcases Nat.eq_zero_or_pos l.length with h0 | hne
  · have hl0 : l = [] := List.eq_nil_of_length_eq_zero h0
    subst hl0
    obtain ⟨a, cap, rfl, h1, h2, h3⟩ := h.at'.ex
    refine (sort_none a cap w (fun x hx => h.sp x 0 cap (by rw [hx]; rfl))).mono ?_
    rintro e w' ⟨a', cap', rfl, ⟨hsp, hnl⟩, hk⟩
    exact ⟨_, rfl, ⟨⟨a', cap', rfl, Nat.zero_le _, rfl, fun h => absurd h (Nat.lt_irrefl 0)⟩, fun a n c hv => (by cases hv; exact hsp _ rfl), fun n c hv => (by cases hv; exact hnl rfl)⟩, hk, fun a n c hv hn => (by cases hv; exact absurd hn (Nat.lt_irrefl 0))⟩
  · refine (sort_someF v l w h.at' hl hne).mono ?_
    rintro e w' ⟨v', rfl, ⟨g, n, c, rfl, hf⟩, h1, h2⟩
    exact ⟨_, rfl, ⟨h1, fun a n c hv => (by cases hv; rfl), fun n c hv => (by cases hv)⟩, h2, fun a n c hv hn => (by cases hv; exact hf)⟩
theorem sort_pr (v : Value) (l : List Pr) (w : World) (h : PrAt w v l) (hl : l.length ≤ 100000) :
    Calls Tryz.prog 33 #[v] w fun e w' => ∃ v', e = .returned v' ∧ PrAt w' v' (sortP l) ∧ Kept [] w w' :=
  (sort_prF v l w h hl).mono fun e w' ⟨v', h1, h2, h3, _⟩ => ⟨v', h1, h2, h3⟩
theorem keysP_len (l : List Pr) : (keysP l).length ≤ l.length := by
  have ins : ∀ (p : Pr) (m : List Pr), (insP p m).length ≤ m.length + 1 := fun p m => by
    induction m with
    | nil => simp [insP]
    | cons q m ih => unfold insP; split <;> (try split) <;> simp <;> omega
  have key : ∀ (l m : List Pr), (l.foldl (fun out p => insP p out) m).length ≤ m.length + l.length := fun l => by
    induction l with
    | nil => intro m; simp
    | cons p l ih => intro m; have h1 := ih (insP p m); have h2 := ins p m; simp only [List.foldl_cons, List.length_cons]; omega
  have := key l []
  simpa [keysP] using this
--@@ (*draft.Draft).Over
set_option maxHeartbeats 1000000 in
set_option maxRecDepth 100000 in
theorem over_anyF (a m : Nat) (l : List (K4 × V)) (v : Value) (base : List Pr) (w : World) (h : DraftIs w a m l) (hn : (l.map (·.1)).Nodup) (hl : l.length ≤ 1000) (hv : PrAt w v base) (hb : base.length ≤ 10000) :
    Calls Tryz.prog 58 #[.pointer (some ⟨a, 0, none⟩), v] w fun e w' => ∃ v', e = .returned v' ∧ PrAt w' v' (sortP (base ++ keysP (l.map toPr))) ∧ Kept [] w w' ∧ ∀ a n c, v' = .slice (some a) n c → 0 < n → w.heap.size ≤ a.block := by
  have hkl := keysP_len (l.map toPr)
  obtain ⟨av, cv, rfl, _⟩ := hv.at'.ex
  have HP := hid (dpairs_any a m l w h hn hl)
  have HV := hid hv
  clear h hv
  go_enter Tryz.func58, Tryz.ntmps58
  go_wp2_with (first
    | (go_at_call 35; refine HP.out.mono ?_; rintro e w1 ⟨v1, rfl, hp1, hk1⟩; obtain ⟨a1, c1, rfl, _⟩ := hp1.at'.ex)
    | (go_at_call 91; refine Here.mk ?_))
  refine Here.of ?_
  refine (concat_any w1.heap.size _ _ base (keysP (l.map toPr)) (w1.alloc (.cells #[.slice av base.length cv, .slice a1 (keysP (l.map toPr)).length c1] 30)) (heap_alloc_new w1 _) ((HV.out.kept hk1).kept ((Kept.refl [] w1).alloc _)) (hp1.kept ((Kept.refl [] w1).alloc _)) (by omega) (by simp at hkl; omega)).mono ?_
  rintro e w2 ⟨v2, rfl, hp2, hk2⟩
  have HP2 := hid hp2
  have HK2 := hid ((hk1.alloc (.cells #[.slice av base.length cv, .slice a1 (keysP (l.map toPr)).length c1] 30)).trans hk2 (fun x hx => .inl hx))
  clear hp1 hk1 hp2 hk2
  go_wp2_with (first | (go_at_call 33; refine (sort_prF v2 _ _ HP2.out (by simp at hkl ⊢; omega)).mono ?_; rintro e w3 ⟨v3, rfl, hp3, hk3, hf3⟩))
  go_returns
  exact ⟨_, rfl, hp3, HK2.out.trans hk3 (fun x hx => .inl hx), fun a n c hv hn => Nat.le_trans HK2.out.size (hf3 a n c hv hn)⟩
theorem over_any (a m : Nat) (l : List (K4 × V)) (v : Value) (base : List Pr) (w : World) (h : DraftIs w a m l) (hn : (l.map (·.1)).Nodup) (hl : l.length ≤ 1000) (hv : PrAt w v base) (hb : base.length ≤ 10000) :
    Calls Tryz.prog 58 #[.pointer (some ⟨a, 0, none⟩), v] w fun e w' => ∃ v', e = .returned v' ∧ PrAt w' v' (sortP (base ++ keysP (l.map toPr))) ∧ Kept [] w w' :=
  (over_anyF a m l v base w h hn hl hv hb).mono fun e w' ⟨v', h1, h2, h3, _⟩ => ⟨v', h1, h2, h3⟩
--@@ end
def soV : Option So → Value
  | none => .pointer none
  | some x => .pointer (some ⟨x.b, 0, none⟩)
--@@ store.Store
theorem zeroWrk : ∀ w, (zeroValue 83).run Tryz.prog w = .ok (.pointer none) w := fun w => by kernel_rfl
section
variable {w w' : World} {D : Nat → Prop} {A M L : Nat} {bv : Value} {ws : List (Int × So)} {s : Sp}
theorem StoIs.look (H : StoIs w D A M L bv ws s) (tx : Int) (ok : Bool) :
    (Instr.lookup 80 (.map (some M)) (.int .i64 tx) ok).run Tryz.prog w = .ok (if ok then .tuple #[soV (aget tx ws), .bool (aget tx ws).isSome] else soV (aget tx ws)) w := by
  have := H.map.run_lookup (KeyOK.int (k := .i64) Tryz.underlying3) Tryz.underlying80 (zeroWrk w) tx ok
  rw [soP_get] at this
  rw [this]
  cases aget tx ws <;> rfl
theorem StoIs.look_none (H : StoIs w D A M L bv ws s) {tx : Int} (h : aget tx s.works = none) : (Instr.lookup 80 (.map (some M)) (.int .i64 tx) false).run Tryz.prog w = .ok (.pointer none) w ∧ aget tx ws = none := by
  have h' : aget tx ws = none := by
    rw [H.eq, soK_get] at h
    cases hx : aget tx ws with
    | none => rfl
    | some x => rw [hx] at h; cases h
  have := H.look tx false
  rw [h'] at this
  exact ⟨this, h'⟩
theorem StoIs.look_some (H : StoIs w D A M L bv ws s) {tx : Int} {k : Sw} (h : aget tx s.works = some k) : ∃ x : So, x.k = k ∧ aget tx ws = some x ∧ WrkIs w x ∧ (Instr.lookup 80 (.map (some M)) (.int .i64 tx) false).run Tryz.prog w = .ok (.pointer (some ⟨x.b, 0, none⟩)) w := by
  rw [H.eq, soK_get] at h
  cases hx : aget tx ws with
  | none => rw [hx] at h; cases h
  | some x =>
    rw [hx] at h
    have := H.look tx false
    rw [hx] at this
    exact ⟨x, Option.some.inj h, rfl, H.each _ (tget_mem hx), this⟩
end
--@@ store.New
set_option maxRecDepth 100000 in
set_option maxHeartbeats 1000000 in
theorem snew_ok (v : Value) (l : List Pr) (w : World) (h : PrAt w v l) (hl : l.length ≤ 100000) (hb : (sortP l).length ≤ 64) :
    Calls Tryz.prog 11 #[.int .i64 5, v] w fun e w' => ∃ A, e = .returned (.tuple #[.pointer (some ⟨A, 0, none⟩), .int .i64 0]) ∧ StoreAt w' (fun b => b < w.heap.size) A ⟨sortP l, ⟨5, [], []⟩, []⟩ ∧ Kept [] w w' := by
  have hmm := @run_makeMap Tryz.prog
  obtain ⟨va, vc, rfl, _⟩ := h.at'.ex
  have HP := hid h
  obtain ⟨R, hR⟩ : ∃ R, R = sortP l := ⟨_, rfl⟩
  have HR := hid hR
  clear h
  rw [← hR] at hb ⊢
  have hbz : (R.length : Int) ≤ 64 := by omega
  clear hR
  go_enter Tryz.func11, Tryz.ntmps11
  go_wp2_with (first
    | (go_at_call 32; refine (new5_any _).mono ?_; rintro e w1 ⟨L, rfl, hT, hk1⟩; have HT := hid hT; have HK1 := hid hk1; clear hT hk1)
    | (go_at_call 33; refine (sort_prF _ _ _ (HP.out.kept HK1.out) hl).mono ?_; rw [← HR.out]; rintro e w2 ⟨v2, rfl, hp2, hk2, hf2⟩; obtain ⟨sa, sc, rfl, _⟩ := hp2.at'.ex; have HP2 := hid hp2; have HK2 := hid hk2; have HF2 := hid hf2; clear hp2 hk2 hf2))
  have hs1 := HK1.out.size
  have hs2 := HK2.out.size
  have hlt := HP2.out.lt
  have hkA := ((Kept.refl [] w2).alloc (.map #[] 0)).alloc (.cells #[.slice sa R.length sc, .pointer (some ⟨L, 0, none⟩), .map (some w2.heap.size)] 82)
  have hz : ((w2.alloc (.map #[] 0)).alloc (.cells #[.slice sa R.length sc, .pointer (some ⟨L, 0, none⟩), .map (some w2.heap.size)] 82)).heap.size = w2.heap.size + 2 := by simp
  go_returns
  refine ⟨w2.heap.size + 1, rfl, ⟨w2.heap.size, L, _, [], ?_, HP2.out.kept hkA, ?_, (fun x hx => by cases hx), rfl, by simp [stBs], List.nodup_nil, fun b hb' => ?_, ?_, ?_⟩, (HK1.out.trans HK2.out (fun x hx => .inl hx)).trans hkA (fun x hx => .inl hx)⟩
  · have := heap_alloc_new (w2.alloc (.map #[] 0)) (.cells #[.slice sa R.length sc, .pointer (some ⟨L, 0, none⟩), .map (some w2.heap.size)] 82)
    simpa using this
  · exact (MapIs.made w2 (Value.int .i64)).alloc _
  · simp [stBs] at hb'
    omega
  · rintro b ⟨a, n, c, hv, hn, rfl⟩
    have := HF2.out a n c hv hn
    omega
  · have hT := HT.out.widen (HK2.out.trans hkA (fun x hx => .inl hx)) (fun x hx => by cases hx)
    refine hT.less fun b hb' => ?_
    rcases hb' with hb' | hb' | ⟨a, n, c, hv, hn, rfl⟩
    · exact .inl hb'
    · simp [stBs] at hb'
      right
      rw [hz]
      omega
    · have h1 := HF2.out a n c hv hn
      have h2 := hlt a n c hv hn
      right
      rw [hz]
      omega
set_option maxRecDepth 100000 in
set_option maxHeartbeats 1000000 in
theorem snew_no (v : Value) (l : List Pr) (w : World) (h : PrAt w v l) (hl : l.length ≤ 100000) (hb : ¬ (sortP l).length ≤ 64) :
    Calls Tryz.prog 11 #[.int .i64 5, v] w fun e w' => e = .returned (.tuple #[.pointer none, .int .i64 16]) ∧ Kept [] w w' := by
  have hmm := @run_makeMap Tryz.prog
  obtain ⟨va, vc, rfl, _⟩ := h.at'.ex
  have HP := hid h
  obtain ⟨R, hR⟩ : ∃ R, R = sortP l := ⟨_, rfl⟩
  have HR := hid hR
  clear h
  rw [← hR] at hb
  have hbz : (64 : Int) < (R.length : Int) := by omega
  clear hR
  go_enter Tryz.func11, Tryz.ntmps11
  go_wp2_with (first
    | (go_at_call 32; refine (new5_any _).mono ?_; rintro e w1 ⟨L, rfl, hT, hk1⟩; have HT := hid hT; have HK1 := hid hk1; clear hT hk1)
    | (go_at_call 33; refine (sort_prF _ _ _ (HP.out.kept HK1.out) hl).mono ?_; rw [← HR.out]; rintro e w2 ⟨v2, rfl, hp2, hk2, hf2⟩; obtain ⟨sa, sc, rfl, _⟩ := hp2.at'.ex; have HK2 := hid hk2; clear hp2 hk2 hf2))
  go_returns
  exact ⟨rfl, (((HK1.out.trans HK2.out (fun x hx => .inl hx)).alloc _).alloc _)⟩
--@@ (*store.Store).may
set_option maxRecDepth 100000 in
set_option maxHeartbeats 1000000 in
theorem smay_any {w : World} {D : Nat → Prop} {A : Nat} {s : Sp} (h : StoreAt w D A s) (tx : Int) :
    Calls Tryz.prog 45 #[.pointer (some ⟨A, 0, none⟩), .int .i64 tx] w fun e w' => e = .returned (.int .i64 (s.may tx)) ∧ Kept [] w w' := by
  obtain ⟨M, L, bv, ws, H⟩ := h
  obtain ⟨c0, c1, c2⟩ := H.cells
  unfold Sp.may
  by_cases h1 : tx < 1
  · rw [if_pos (.inl h1)]
    clear H c0 c1 c2
    go_enter Tryz.func45, Tryz.ntmps45
    go_wp2
    go_ret
    exact ⟨rfl, Kept.refl _ _⟩
  by_cases h2 : 1048576 < tx
  · rw [if_pos (.inr h2)]
    clear H c0 c1 c2
    go_enter Tryz.func45, Tryz.ntmps45
    go_wp2
    go_ret
    exact ⟨rfl, Kept.refl _ _⟩
  have h1' : (1 : Int) ≤ tx := by omega
  have h2' : tx ≤ (1048576 : Int) := by omega
  rw [if_neg (by omega)]
  clear h1 h2
  cases hx : aget tx s.works with
  | some k =>
    obtain ⟨x, _, _, _, hL⟩ := H.look_some hx
    rw [if_pos (show (some k).isSome = true from rfl)]
    clear H c0 c1 hx
    go_enter Tryz.func45, Tryz.ntmps45
    go_wp2
    go_ret
    exact ⟨rfl, Kept.refl _ _⟩
  | none =>
    obtain ⟨hL, _⟩ := H.look_none hx
    have hn := fun ty => H.map.run_len Tryz.underlying80 ty
    have hw : s.works.length = (soP ws).length := by rw [H.eq]; simp [soP, soK]
    rw [hw, if_neg (show ¬ (none : Option Sw).isSome = true by simp)]
    generalize (soP ws).length = n at *
    clear H c0 c1 hx hw
    by_cases h8 : 8 ≤ n
    · have h8z : (8 : Int) ≤ (n : Int) := by omega
      rw [if_pos h8]
      clear h8
      go_enter Tryz.func45, Tryz.ntmps45
      go_wp2
      go_ret
      exact ⟨rfl, Kept.refl _ _⟩
    · have h8z : (n : Int) < 8 := by omega
      rw [if_neg h8]
      clear h8
      go_enter Tryz.func45, Tryz.ntmps45
      go_wp2
      go_ret
      exact ⟨rfl, Kept.refl _ _⟩
--@@ store.refused
set_option maxRecDepth 100000 in
set_option maxHeartbeats 1000000 in
theorem srefused_none (kind : Int) (w : World) :
    Calls Tryz.prog 36 #[.pointer none, .int .i64 kind] w fun e w' => e = .returned (.int .i64 (Sp.refused none kind)) ∧ Kept [] w w' := by
  unfold Sp.refused
  by_cases h1 : kind < 1
  · rw [if_pos (.inl h1)]
    go_enter Tryz.func36, Tryz.ntmps36
    go_wp2
    go_ret
    exact ⟨rfl, Kept.refl _ _⟩
  by_cases h2 : 4 < kind
  · rw [if_pos (.inr h2)]
    go_enter Tryz.func36, Tryz.ntmps36
    go_wp2
    go_ret
    exact ⟨rfl, Kept.refl _ _⟩
  have h1' : (1 : Int) ≤ kind := by omega
  have h2' : kind ≤ (4 : Int) := by omega
  rw [if_neg (by omega)]
  clear h1 h2
  go_enter Tryz.func36, Tryz.ntmps36
  go_wp2
  go_ret
  exact ⟨rfl, Kept.refl _ _⟩
set_option maxRecDepth 100000 in
set_option maxHeartbeats 1000000 in
theorem srefused_some {w : World} {x : So} (h : WrkIs w x) (kind : Int) :
    Calls Tryz.prog 36 #[.pointer (some ⟨x.b, 0, none⟩), .int .i64 kind] w fun e w' => e = .returned (.int .i64 (Sp.refused (some x.k) kind)) ∧ Kept [] w w' := by
  obtain ⟨c0, c1, c2⟩ := h.cells
  obtain ⟨b, d, m, ⟨st, er, l⟩⟩ := x
  dsimp only at c0 c1 c2 ⊢
  unfold Sp.refused
  clear h c2
  by_cases h1 : kind < 1
  · rw [if_pos (.inl h1)]
    clear c0 c1
    go_enter Tryz.func36, Tryz.ntmps36
    go_wp2
    go_ret
    exact ⟨rfl, Kept.refl _ _⟩
  by_cases h2 : 4 < kind
  · rw [if_pos (.inr h2)]
    clear c0 c1
    go_enter Tryz.func36, Tryz.ntmps36
    go_wp2
    go_ret
    exact ⟨rfl, Kept.refl _ _⟩
  have h1' : (1 : Int) ≤ kind := by omega
  have h2' : kind ≤ (4 : Int) := by omega
  rw [if_neg (by omega)]
  clear h1 h2
  dsimp only
  by_cases h3 : st = 3
  · subst h3
    rw [if_pos rfl]
    go_enter Tryz.func36, Tryz.ntmps36
    go_wp2
    go_ret
    exact ⟨rfl, Kept.refl _ _⟩
  · have hb : (st == 3) = false := by simpa using h3
    rw [if_neg h3]
    clear h3
    go_enter Tryz.func36, Tryz.ntmps36
    go_wp2
    go_ret
    exact ⟨rfl, Kept.refl _ _⟩
--@@ (*store.Store).State
set_option maxRecDepth 100000 in
set_option maxHeartbeats 1000000 in
theorem sstate_any {w : World} {D : Nat → Prop} {A : Nat} {s : Sp} (h : StoreAt w D A s) (tx : Int) :
    Calls Tryz.prog 16 #[.pointer (some ⟨A, 0, none⟩), .int .i64 tx] w fun e w' => e = .returned (.int .i64 (s.stateOf tx)) ∧ Kept [] w w' := by
  obtain ⟨M, L, bv, ws, H⟩ := h
  obtain ⟨c0, c1, c2⟩ := H.cells
  unfold Sp.stateOf
  cases hx : aget tx s.works with
  | none =>
    obtain ⟨hL, _⟩ := H.look_none hx
    clear H c0 c1 hx
    go_enter Tryz.func16, Tryz.ntmps16
    go_wp2
    go_ret
    exact ⟨rfl, Kept.refl _ _⟩
  | some k =>
    obtain ⟨x, hk, _, hW, hL⟩ := H.look_some hx
    obtain ⟨d0, d1, d2⟩ := hW.cells
    rw [hk] at d0
    clear H c0 c1 hx hk hW d1 d2
    go_enter Tryz.func16, Tryz.ntmps16
    go_wp2
    go_ret
    exact ⟨rfl, Kept.refl _ _⟩
--@@ (*store.Store).Locks
set_option maxRecDepth 100000 in
set_option maxHeartbeats 1000000 in
theorem slocks_any {w : World} {D : Nat → Prop} {A : Nat} {s : Sp} (h : StoreAt w D A s) {n : Nat} (hl : s.tab.le n) (hn : n ≤ 100000) (hm : s.tab.rows.length ≤ 50000) (tx : Int) :
    Calls Tryz.prog 22 #[.pointer (some ⟨A, 0, none⟩), .int .i64 tx] w fun e w' => ∃ v, e = .returned v ∧ w'.ownsRow w.heap.size 33 4 v (s.tab.keysT tx).length ((s.tab.keysT tx).flatMap K4.f) ∧ Kept [] w w' := by
  obtain ⟨M, L, bv, ws, H⟩ := h
  obtain ⟨c0, c1, c2⟩ := H.cells
  have HK := hid (keys_at H.tab hl hn hm tx)
  clear H c0 c2 hl hm
  go_enter Tryz.func22, Tryz.ntmps22
  go_wp2_with (go_at_call 42; refine HK.out.mono ?_; clear HK; rintro e w1 ⟨v, rfl, ho, hk⟩; obtain ⟨a, c, rfl⟩ := ownsRow_slice ho)
  go_returns
  exact ⟨_, rfl, ho, hk⟩
--@@ (*store.Store).Draft
set_option maxRecDepth 100000 in
set_option maxHeartbeats 1000000 in
theorem sdraft_any {w : World} {D : Nat → Prop} {A : Nat} {s : Sp} (h : StoreAt w D A s) (hl : ∀ x ∈ s.works, x.2.ws.length ≤ 1000) (tx : Int) :
    Calls Tryz.prog 15 #[.pointer (some ⟨A, 0, none⟩), .int .i64 tx] w fun e w' => ∃ v, e = .returned v ∧ PrAt w' v (s.draftOf tx) ∧ Kept [] w w' := by
  obtain ⟨M, L, bv, ws, H⟩ := h
  obtain ⟨c0, c1, c2⟩ := H.cells
  unfold Sp.draftOf
  cases hx : aget tx s.works with
  | none =>
    obtain ⟨hL, _⟩ := H.look_none hx
    clear H c0 c1 hx hl
    go_enter Tryz.func15, Tryz.ntmps15
    go_wp2
    go_ret
    exact ⟨_, rfl, ⟨⟨none, 0, rfl, by decide, rfl, fun h => absurd h (by decide)⟩, fun a n c h => (by cases h), fun n c h => (by cases h; rfl)⟩, Kept.refl _ _⟩
  | some k =>
    have hlk := hl _ (tget_mem hx)
    obtain ⟨x, rfl, _, hW, hL⟩ := H.look_some hx
    obtain ⟨d0, d1, d2⟩ := hW.cells
    have HP := hid (dpairs_any x.d x.m x.k.ws w hW.dr hW.kn hlk)
    clear H c0 c1 hx hW d0 d1 hl hlk
    go_enter Tryz.func15, Tryz.ntmps15
    go_wp2_with (go_at_call 35; refine HP.out.mono ?_; clear HP; rintro e w1 ⟨v, rfl, hp, hk⟩; obtain ⟨a, c, rfl, _⟩ := hp.at'.ex)
    go_returns
    exact ⟨_, rfl, hp, hk⟩
--@@ (*store.Store).Base
set_option maxRecDepth 100000 in
set_option maxHeartbeats 1000000 in
theorem clone_pr (v : Value) (l : List Pr) (w : World) (h : PrAt w v l) (hl : l.length ≤ 100000) :
    Calls Tryz.prog 34 #[v] w fun e w' => ∃ v', e = .returned v' ∧ PrAt w' v' l ∧ Kept [] w w' := by
  rcases Nat.eq_zero_or_pos l.length with h0 | hne
  · have hl0 : l = [] := List.eq_nil_of_length_eq_zero h0
    subst hl0
    obtain ⟨a, cap, rfl, h1, h2, h3⟩ := h.at'.ex
    refine (clone_none a cap w (fun x hx => h.sp x 0 cap (by rw [hx]; rfl))).mono ?_
    rintro e w' ⟨a', cap', rfl, ⟨hsp, hnl⟩, hk⟩
    exact ⟨_, rfl, ⟨⟨a', cap', rfl, Nat.zero_le _, rfl, fun h => absurd h (Nat.lt_irrefl 0)⟩, fun a n c hv => (by cases hv; exact hsp _ rfl), fun n c hv => (by cases hv; exact hnl rfl)⟩, hk⟩
  · refine (clone_any v l w h.at' hl hne).mono ?_
    rintro e w' ⟨g, cap, rfl, _, _, _, ho, hk⟩
    exact ⟨_, rfl, PrAt.of_own ho rfl, hk⟩
set_option maxRecDepth 100000 in
set_option maxHeartbeats 1000000 in
theorem sbase_any {w : World} {D : Nat → Prop} {A : Nat} {s : Sp} (h : StoreAt w D A s) (hl : s.base.length ≤ 100000) :
    Calls Tryz.prog 14 #[.pointer (some ⟨A, 0, none⟩)] w fun e w' => ∃ v, e = .returned v ∧ PrAt w' v s.base ∧ Kept [] w w' := by
  obtain ⟨M, L, bv, ws, H⟩ := h
  obtain ⟨c0, c1, c2⟩ := H.cells
  obtain ⟨ba, bc, rfl, _⟩ := H.base.at'.ex
  have HK := hid (clone_pr _ _ w H.base hl)
  clear H c1 c2
  go_enter Tryz.func14, Tryz.ntmps14
  go_wp2_with (go_at_call 34; refine HK.out.mono ?_; clear HK; rintro e w1 ⟨v, rfl, hp, hk⟩; obtain ⟨a, c, rfl, _⟩ := hp.at'.ex)
  go_returns
  exact ⟨_, rfl, hp, hk⟩
--@@ end
theorem heap_putS {w : World} {b : Nat} {cs : Array Value} {t : TypeId} {fr : Nat × Nat} (h : w.heap[b]? = some (.cells cs t fr)) (o : Nat) (u : Value) : (w.setCell ⟨b, o, none⟩ u).heap[b]? = some (.cells (cs.setIfInBounds o u) t fr) := by
  simp [World.setCell, Array.getElem?_modify, h]
theorem KD.same {D : Nat → Prop} {w : World} : KD D w w := ⟨rfl, rfl, rfl, Nat.le_refl _, fun _ _ => rfl⟩
theorem Kept.kd' {D : Nat → Prop} {w w' : World} (h : Kept [] w w') (hD : ∀ k, D k → k < w.heap.size) : KD D w w' := KD.of h fun k hk => ⟨hD k hk, by simp⟩
theorem SlAt.kd {w w' : World} {v : Value} {size n : Nat} {xs : List Value} {E : Nat → Prop} (h : SlAt w v size n xs) (hk : KD E w w') (hE : ∀ b, bvB v b → E b) : SlAt w' v size n xs := by
  obtain ⟨a, cap, h1, h2, h3, h4⟩ := h.ex
  refine ⟨a, cap, h1, h2, h3, fun hn => ?_⟩
  obtain ⟨b, off, h5, h6, h7⟩ := h4 hn
  subst h5
  exact ⟨b, off, rfl, Nat.lt_of_lt_of_le h6 hk.size, fun j u hu => hk.cell (h7 j u hu) (hE b ⟨_, _, _, h1, hn, rfl⟩)⟩
theorem doom_le {s : Sp} {n : Nat} (h : s.tab.le n) (tx e : Int) : (s.doom tx e).2.tab.le n := by
  unfold Sp.doom
  split
  · exact h
  · split
    · exact h
    · exact Ta.le.quit h
theorem doom_len {s : Sp} {n : Nat} (H : TaOk s.tab) (h : s.tab.rows.length ≤ n) (tx e : Int) : (s.doom tx e).2.tab.rows.length ≤ n := by
  unfold Sp.doom
  split
  · exact h
  · split
    · exact h
    · exact Nat.le_trans (H.quit_len tx) h
--@@ (*store.Store).Doom
section
variable {w w' : World} {D : Nat → Prop} {A M L : Nat} {bv : Value} {ws : List (Int × So)} {s : Sp}
theorem StoIs.apart (H : StoIs w D A M L bv ws s) {tx : Int} {x : So} (hx : aget tx ws = some x) {b k : Nat} (hb : b ∈ x.bs) (hk : D k) : k ≠ b := fun e => H.out b (smem_bs (tget_mem hx) hb) (e ▸ hk)
theorem StoIs.kdw (H : StoIs w D A M L bv ws s) {S : List Nat} (hS : ∀ b ∈ S, b ∈ stBs A M ws) (hk : Kept S w w') : KD D w w' := KD.of hk fun k hD => ⟨H.dlt k hD, fun hm => H.out k (hS k hm) hD⟩
end
set_option maxRecDepth 100000 in
set_option maxHeartbeats 2000000 in
theorem sdoom_any {w : World} {D : Nat → Prop} {A : Nat} {s : Sp} {n : Nat} (h : StoreAt w D A s) (hl : s.tab.le n) (hn : n ≤ 100000) (tx er : Int) :
    Calls Tryz.prog 29 #[.pointer (some ⟨A, 0, none⟩), .int .i64 tx, .int .i64 er] w fun e w' => e = .returned (.bool (s.doom tx er).1) ∧ StoreAt w' D A (s.doom tx er).2 ∧ KD D w w' := by
  obtain ⟨M, L, bv, ws, H⟩ := h
  obtain ⟨c0, c1, c2⟩ := H.cells
  have HH := hid H
  unfold Sp.doom
  cases hx : aget tx s.works with
  | none =>
    obtain ⟨hL, _⟩ := H.look_none hx
    clear H c0 c1 hx hl
    go_enter Tryz.func29, Tryz.ntmps29
    go_wp2
    go_ret
    exact ⟨rfl, ⟨M, L, bv, ws, HH.out⟩, KD.same⟩
  | some k =>
    obtain ⟨x, rfl, hxa, hW, hL⟩ := H.look_some hx
    obtain ⟨d0, d1, d2⟩ := hW.cells
    dsimp only
    by_cases h1 : x.k.state = 1
    · rw [h1] at d0
      by_cases he : er = 0
      · subst he
        rw [if_pos (.inr rfl)]
        clear H c0 c1 hx hl hW d1 d2 hxa h1
        go_enter Tryz.func29, Tryz.ntmps29
        go_wp2
        go_ret
        exact ⟨rfl, ⟨M, L, bv, ws, HH.out⟩, KD.same⟩
      · rw [if_neg (by simp [h1, he])]
        have hb : (er == 0) = false := by simpa using he
        have hk1 : Kept [x.b] w ((w.setCell ⟨x.b, 0, none⟩ (.int .i64 2)).setCell ⟨x.b, 1, none⟩ (.int .i64 er)) := ((Kept.refl _ w).setCell (.inl (by simp)) _).setCell (.inl (by simp)) _
        have hnd := hW.nd
        simp only [So.bs, List.nodup_cons, List.mem_cons, List.not_mem_nil, or_false, not_or] at hnd
        have hW1 : WrkIs ((w.setCell ⟨x.b, 0, none⟩ (.int .i64 2)).setCell ⟨x.b, 1, none⟩ (.int .i64 er)) ⟨x.b, x.d, x.m, ⟨2, er, x.k.ws⟩⟩ :=
          ⟨by simpa using heap_putS (heap_putS hW.blk 0 (.int .i64 2)) 1 (.int .i64 er), hW.dr.kept hk1 (by simp; exact fun e => hnd.1.1 e.symm) (by simp; exact fun e => hnd.1.2 e.symm), hW.kn, hW.nd⟩
        have hkx : Kept x.bs w ((w.setCell ⟨x.b, 0, none⟩ (.int .i64 2)).setCell ⟨x.b, 1, none⟩ (.int .i64 er)) := hk1.mono (by simp [So.bs])
        have H1 := H.turn hxa (x' := ⟨x.b, x.d, x.m, ⟨2, er, x.k.ws⟩⟩) rfl hW1 hkx
        obtain ⟨e0, e1, e2⟩ := H1.cells
        have z0 := hW.frz 0
        have z1 := hW.frz 1
        have HQ := hid (quit_at H1.tab hl hn tx)
        have HH1 := hid H1
        have HKD := hid (H.kdw (fun b hb => smem_bs (tget_mem hxa) hb) hkx)
        clear H c0 c1 hx hl hW hxa h1 he hk1 hnd hW1 hkx H1 e0 e2 d2
        go_enter Tryz.func29, Tryz.ntmps29
        go_wp2_with (go_at_call 59; refine HQ.out.mono ?_; clear HQ; rintro e w2 ⟨rfl, hT, hkd⟩)
        go_ret
        exact ⟨rfl, ⟨M, L, bv, _, HH1.out.turnTab hT hkd⟩, HKD.out.trans hkd (fun _ hx => .inl hx)⟩
    · rw [if_pos (.inl h1)]
      have hb : (x.k.state != 1) = true := by simpa using h1
      clear H c0 c1 hx hl hW d1 d2 hxa h1
      go_enter Tryz.func29, Tryz.ntmps29
      go_wp2
      go_ret
      exact ⟨rfl, ⟨M, L, bv, ws, HH.out⟩, KD.same⟩
--@@ (*store.Store).forget
set_option maxRecDepth 100000 in
set_option maxHeartbeats 2000000 in
theorem sforget_any {w : World} {D : Nat → Prop} {A : Nat} {s : Sp} {n : Nat} (h : StoreAt w D A s) (hl : s.tab.le n) (hn : n ≤ 100000) (hm : s.tab.rows.length ≤ 50000) (tx : Int) :
    Calls Tryz.prog 48 #[.pointer (some ⟨A, 0, none⟩), .int .i64 tx] w fun e w' => e = .returned (.tuple #[]) ∧ StoreAt w' D A (s.forget tx) ∧ KD D w w' := by
  obtain ⟨M, L, bv, ws, H⟩ := h
  obtain ⟨c0, c1, c2⟩ := H.cells
  have HH := hid H
  have HL := hid hl
  have HM := hid hm
  clear H c0 c1 hl hm
  go_enter Tryz.func48, Tryz.ntmps48
  go_wp2_with (at_delete; refine Here.mk ?_)
  refine Here.of ?_
  refine wpList_delete_is rfl _ _ 80 3 rfl 3 83 (KeyOK.int (k := .i64) Tryz.underlying3) Tryz.underlying80 rfl tx rfl HH.out.map ?_
  intro w1 hM1 hK1
  have H1 := HH.out.gone tx hK1 hM1
  obtain ⟨e0, e1, e2⟩ := H1.cells
  have HF := hid (free_at H1.tab HL.out hn HM.out tx)
  have HH1 := hid H1
  have HKD := hid (HH.out.kdw (by simp [stBs]) hK1)
  clear H1 e0 e2 hM1 hK1 c2
  go_wp2_with (go_at_call 84; refine HF.out.mono ?_; clear HF; rintro e w2 ⟨rfl, hT, hkd⟩)
  go_end0
  exact ⟨rfl, ⟨M, L, bv, _, HH1.out.turnTab hT hkd⟩, HKD.out.trans hkd (fun _ hx => .inl hx)⟩
--@@ (*store.Store).Late
set_option maxRecDepth 100000 in
set_option maxHeartbeats 2000000 in
theorem slate_any {w : World} {D : Nat → Prop} {A : Nat} {s : Sp} {n : Nat} (h : StoreAt w D A s) (hl : s.tab.le n) (hn : n ≤ 100000) (hm : s.tab.rows.length ≤ 50000) (now : Int) :
    Calls Tryz.prog 41 #[.pointer (some ⟨A, 0, none⟩), .int .i64 now] w fun e w' => ∃ v, e = .returned v ∧ SlAt w' v 1 (s.late now).1.length ((s.late now).1.map (Value.int .i64)) ∧ StoreAt w' D A (s.late now).2 ∧ KD D w w' := by
  obtain ⟨M, L, bv, ws, H⟩ := h
  obtain ⟨c0, c1, c2⟩ := H.cells
  have HH := hid H
  have HL := hid hl
  have HQ := hid (late_at H.tab hl hn hm now)
  obtain ⟨T, hT⟩ : ∃ T, T = s.tab.lateT now := ⟨_, rfl⟩
  unfold Sp.late
  rw [← hT] at HQ ⊢
  clear H c0 c2 hl hm hT
  go_enter Tryz.func41, Tryz.ntmps41
  go_wp2_with (go_at_call 77; refine HQ.out.mono ?_; clear HQ; rintro e w1 ⟨v, rfl, ho, hk⟩; obtain ⟨a, cap, rfl⟩ := ownsRow_slice ho)
  have hs1 := hk.size
  have HW := hid (show StoreAt w1 (fun b => D b ∨ (w.heap.size ≤ b ∧ b < w1.heap.size)) A s from ⟨M, L, bv, ws, HH.out.widen hk (fun x hx => by cases hx)⟩)
  have HK := hid (hk.kd' HH.out.dlt)
  have HO := hid ho
  obtain ⟨_, _, hv, _, _, hc⟩ := (SlAt.of_own ho).ex
  cases hv
  have HC := hid hc
  have HLT := hid (fun b (hb : bvB (.slice a T.length cap) b) => show w.heap.size ≤ b ∧ b < w1.heap.size from by
    obtain ⟨a', n', c', hv, hn', rfl⟩ := hb
    refine ⟨?_, ?_⟩
    · rcases ho.2 with ⟨h1, _⟩ | ⟨g, cap', cur, h1, hb', _⟩
      · rw [h1] at hv; cases hv
      · rw [h1] at hv; cases hv; exact hb'
    · obtain ⟨a2, c2, h1, _, _, h4⟩ := (SlAt.of_own ho).ex
      cases h1
      cases hv
      obtain ⟨b, off, h5, h6, _⟩ := h4 hn'
      cases h5
      exact h6)
  clear hk ho c1 hc HH
  go_loopg [16] T.length (fun kx s16 wr => ∃ i : Nat, s16 = .int .i64 i ∧ i ≤ T.length ∧ T.length - i ≤ kx ∧ Aside (StoreAt wr (fun b => D b ∨ (w.heap.size ≤ b ∧ b < w1.heap.size)) A ((T.take i).foldl (fun s tx => (s.doom tx 18).2) s)) ∧ Aside (((T.take i).foldl (fun s tx => (s.doom tx 18).2) s).tab.le n) ∧ Aside (KD (fun b => D b ∨ (w.heap.size ≤ b ∧ b < w1.heap.size)) w1 wr))
  case atStart => exact ⟨0, by first | rfl | go_num, by omega, by omega, HW.out, HL.out, KD.same⟩
  case round =>
    obtain ⟨i, rfl, hi, hix, HS, HLI, HKD⟩ := hrel
    by_cases hlt : i < T.length
    · have hltz : (i : Int) < (T.length : Int) := by omega
      obtain ⟨b, off, rfl, _, d1⟩ := HC.out (by omega)
      have q0 := HKD.out.cell (d1 i (.int .i64 T[i]) (by simp [hlt])) (.inr (HLT.out b ⟨_, _, _, rfl, by omega, rfl⟩))
      have HT := hid (show T.take (i + 1) = T.take i ++ [T[i]] by rw [List.take_succ_eq_append_getElem hlt])
      clear d1
      generalize T[i] = tx at *
      have HDM := hid (sdoom_any HS.out HLI.out hn tx 18)
      have HLN := hid (doom_le HLI.out tx 18)
      go_wp2_with (go_at_call 29; refine HDM.out.mono ?_; clear HDM; rintro e w2 ⟨rfl, hS2, hkd⟩)
      go_roundg (T.length - (i + 1))
      case measure => omega
      case rel => exact ⟨i + 1, by first | rfl | go_num, by omega, Nat.le_refl _, by show StoreAt _ _ _ _; rw [HT.out, List.foldl_append]; exact hS2, by show Ta.le _ _; rw [HT.out, List.foldl_append]; exact HLN.out, HKD.out.trans hkd (fun _ hx => hx)⟩
    · obtain rfl : i = T.length := by omega
      have hltz : ¬ (T.length : Int) < (T.length : Int) := by omega
      have hS := HS.out
      rw [List.take_length] at hS
      have HS2 := hid hS
      clear HS HLI hS
      go_wp2
      go_ret
      obtain ⟨M', L', bv', ws', H'⟩ := HS2.out
      exact ⟨_, rfl, (SlAt.of_own HO.out).kd HKD.out (fun b hb => .inr (HLT.out b hb)), ⟨M', L', bv', ws', H'.less (fun b hb => .inl hb)⟩, HK.out.trans HKD.out (fun _ hx => .inl hx)⟩
--@@ (*store.Store).End
set_option maxRecDepth 100000 in
set_option maxHeartbeats 4000000 in
theorem send_any {w : World} {D : Nat → Prop} {A : Nat} {s : Sp} {n : Nat} (h : StoreAt w D A s) (hl : s.tab.le n) (hn : n ≤ 100000) (hm : s.tab.rows.length ≤ 50000) (hw : ∀ x ∈ s.works, x.2.ws.length ≤ 1000) (hb : s.base.length ≤ 10000) (tx : Int) (commit : Bool) :
    Calls Tryz.prog 28 #[.pointer (some ⟨A, 0, none⟩), .int .i64 tx, .bool commit] w fun e w' => e = .returned (.int .i64 (s.end_ tx commit).1) ∧ StoreAt w' D A (s.end_ tx commit).2 ∧ KD D w w' := by
  have HS := hid h
  have HL := hid hl
  have HM := hid hm
  have HF := hid (fun W s' (h' : StoreAt W D A s') (ht : s'.tab = s.tab) => sforget_any h' (n := n) (by rw [ht]; exact HL.out) hn (by rw [ht]; exact HM.out) tx)
  obtain ⟨M, L, bv, ws, H⟩ := h
  obtain ⟨c0, c1, c2⟩ := H.cells
  have HH := hid H
  unfold Sp.end_
  cases hx : aget tx s.works with
  | none =>
    obtain ⟨hL, _⟩ := H.look_none hx
    clear H c0 c1 hx hl hm
    go_enter Tryz.func28, Tryz.ntmps28
    go_wp2
    go_ret
    exact ⟨rfl, HS.out, KD.same⟩
  | some k =>
    have hwl := hw _ (tget_mem hx)
    obtain ⟨x, rfl, hxa, hW, hL⟩ := H.look_some hx
    obtain ⟨d0, d1, d2⟩ := hW.cells
    dsimp only
    cases commit with
    | false =>
      rw [if_neg (by simp)]
      have HF' := hid (HF.out w s HS.out rfl)
      clear H c0 c1 hx hl hm hW d0 d1 d2 hxa hw hwl
      go_enter Tryz.func28, Tryz.ntmps28
      go_wp2_with (go_at_call 48; refine HF'.out.mono ?_; clear HF'; rintro e w2 ⟨rfl, hS2, hkd⟩)
      go_ret
      exact ⟨rfl, hS2, hkd⟩
    | true =>
      by_cases h3 : x.k.state = 3
      · rw [if_neg (by simp [h3])]
        rw [h3] at d0
        obtain ⟨ba, bc, rfl, _⟩ := H.base.at'.ex
        have HOV := hid (fun W (hK : Kept [] w W) => over_anyF x.d x.m x.k.ws _ s.base W (hW.dr.kept hK (by simp) (by simp)) hW.kn hwl (H.base.kept hK) hb)
        have HC := hid (fun W (hK : Kept [] w W) => show W.cell? ⟨x.b, 2, none⟩ = some (.pointer (some ⟨x.d, 0, none⟩)) ∧ W.cell? ⟨A, 0, none⟩ = some (.slice ba s.base.length bc) from ⟨hK.cell d2 (by simp), hK.cell c0 (by simp)⟩)
        obtain ⟨R, hR⟩ : ∃ R, R = sortP (s.base ++ keysP (x.k.ws.map toPr)) := ⟨_, rfl⟩
        rw [← hR] at HOV ⊢
        clear H c1 hx hl hm hW d1 hxa hw hwl hR h3
        go_enter Tryz.func28, Tryz.ntmps28
        go_wp2_with fail
        -- [rows end7]
        refine wp_region_rows_tail 10 (yieldDen [.eq (.pointer (some ⟨A, 0, none⟩)), .eq (.pointer (some ⟨x.b, 0, none⟩)), .eq (.pointer (some ⟨x.b, 0, none⟩)), .eq (.pointer (some ⟨x.b, 2, none⟩)), .eq (.pointer (some ⟨x.d, 0, none⟩)), .eq (.pointer (some ⟨A, 0, none⟩)), .eq (.pointer (some ⟨A, 0, none⟩)), .eq (.pointer (some ⟨A, 0, none⟩)), .eq (.slice ba s.base.length bc), .is (fun v w' => PrN w.heap.size R v w') (fun v w w' hk h => PrN.kept hk h)]) (fun w' => Kept [] w w') (Kept []) (by kernel_rfl) (fun j v w w' h h' => yieldDen_kept _ j v w w' h h') (fun w => Kept.refl [] w) (by kernel_rfl) (by kernel_rfl) (by kernel_rfl) (by kernel_rfl) (by kernel_rfl) (by kernel_rfl) ((Kept.refl [] w).drew) ?_ ?_
        · skip
          refine AllUpto.cons (n := 9) (k := 0) ?_ ?_
          · intro a w' hC hO hd
            rw [if_pos (wanted_none rfl)]
            have p0 : a.tmps[0]? = some (.pointer (some ⟨A, 0, none⟩)) := hO.at (by kernel_rfl) rfl
            clear hd hO
            refine pure_step (.pointer (some ⟨A, 0, none⟩)) rfl hC (Kept.refl _ _) ?_
            go_simp
          refine AllUpto.cons (n := 8) (k := 1) ?_ ?_
          · intro a w' hC hO hd
            rw [if_pos (wanted_none rfl)]
            have p7 : a.tmps[7]? = some (.pointer (some ⟨x.b, 0, none⟩)) := hO.at (by kernel_rfl) rfl
            clear hd hO
            refine pure_step (.pointer (some ⟨x.b, 0, none⟩)) rfl hC (Kept.refl _ _) ?_
            go_simp
          refine AllUpto.cons (n := 7) (k := 2) ?_ ?_
          · intro a w' hC hO hd
            obtain ⟨x29, e29, r29⟩ := hd ⟨1, .data⟩ (by simp) rfl _ _ rfl rfl
            obtain rfl : x29 = .pointer (some ⟨x.b, 0, none⟩) := r29
            rw [if_pos (wanted_none rfl)]
            clear hd hO
            refine pure_step (.pointer (some ⟨x.b, 0, none⟩)) rfl hC (Kept.refl _ _) ?_
            go_simp
          refine AllUpto.cons (n := 6) (k := 3) ?_ ?_
          · intro a w' hC hO hd
            obtain ⟨x30, e30, r30⟩ := hd ⟨2, .data⟩ (by simp) rfl _ _ rfl rfl
            obtain rfl : x30 = .pointer (some ⟨x.b, 0, none⟩) := r30
            rw [if_pos (wanted_none rfl)]
            clear hd hO
            refine pure_step (.pointer (some ⟨x.b, 2, none⟩)) rfl hC (Kept.refl _ _) ?_
            go_simp
          refine AllUpto.cons (n := 5) (k := 4) ?_ ?_
          · intro a w' hC hO hd
            obtain ⟨x31, e31, r31⟩ := hd ⟨3, .data⟩ (by simp) rfl _ _ rfl rfl
            obtain rfl : x31 = .pointer (some ⟨x.b, 2, none⟩) := r31
            rw [if_pos (wanted_none rfl)]
            have y1 := hC.cell d2 (by simp)
            clear hd hO
            refine pure_step (.pointer (some ⟨x.d, 0, none⟩)) rfl hC (Kept.refl _ _) ?_
            go_simp
          refine AllUpto.cons (n := 4) (k := 5) ?_ ?_
          · intro a w' hC hO hd
            rw [if_pos (wanted_none rfl)]
            have p0 : a.tmps[0]? = some (.pointer (some ⟨A, 0, none⟩)) := hO.at (by kernel_rfl) rfl
            clear hd hO
            refine pure_step (.pointer (some ⟨A, 0, none⟩)) rfl hC (Kept.refl _ _) ?_
            go_simp
          refine AllUpto.cons (n := 3) (k := 6) ?_ ?_
          · intro a w' hC hO hd
            obtain ⟨x33, e33, r33⟩ := hd ⟨5, .data⟩ (by simp) rfl _ _ rfl rfl
            obtain rfl : x33 = .pointer (some ⟨A, 0, none⟩) := r33
            rw [if_pos (wanted_none rfl)]
            clear hd hO
            refine pure_step (.pointer (some ⟨A, 0, none⟩)) rfl hC (Kept.refl _ _) ?_
            go_simp
          refine AllUpto.cons (n := 2) (k := 7) ?_ ?_
          · intro a w' hC hO hd
            obtain ⟨x34, e34, r34⟩ := hd ⟨6, .data⟩ (by simp) rfl _ _ rfl rfl
            obtain rfl : x34 = .pointer (some ⟨A, 0, none⟩) := r34
            rw [if_pos (wanted_none rfl)]
            clear hd hO
            refine pure_step (.pointer (some ⟨A, 0, none⟩)) rfl hC (Kept.refl _ _) ?_
            go_simp
          refine AllUpto.cons (n := 1) (k := 8) ?_ ?_
          · intro a w' hC hO hd
            obtain ⟨x35, e35, r35⟩ := hd ⟨7, .data⟩ (by simp) rfl _ _ rfl rfl
            obtain rfl : x35 = .pointer (some ⟨A, 0, none⟩) := r35
            rw [if_pos (wanted_none rfl)]
            have y1 := hC.cell c0 (by simp)
            clear hd hO
            refine pure_step (.slice ba s.base.length bc) rfl hC (Kept.refl _ _) ?_
            go_simp
          refine AllUpto.cons (n := 0) (k := 9) ?_ ?_
          · intro a w' hC hO hd
            obtain ⟨x32, e32, r32⟩ := hd ⟨4, .data⟩ (by simp) rfl _ _ rfl rfl
            obtain rfl : x32 = .pointer (some ⟨x.d, 0, none⟩) := r32
            obtain ⟨x36, e36, r36⟩ := hd ⟨8, .data⟩ (by simp) rfl _ _ rfl rfl
            obtain rfl : x36 = .slice ba s.base.length bc := r36
            rw [if_pos (wanted_none rfl)]
            clear hd hO
            go_simp
            refine (HOV.out _ hC).mono ?_
            rintro e y ⟨v2, rfl, hp2, hk, hf2⟩
            obtain ⟨ra, rc, rfl, _⟩ := hp2.at'.ex
            exact ⟨_, rfl, ⟨⟨_, _, rfl⟩, hp2, fun a m c hv hm => Nat.le_trans hC.size (hf2 a m c hv hm)⟩, hC.trans hk (fun x hx => .inl hx), hk⟩
          exact AllUpto.nil
        · intro a' w4 hC hO hrows
          obtain ⟨xq, eq, rq⟩ := hrows 0 (by decide) _ _ rfl rfl
          obtain rfl : xq = .pointer (some ⟨A, 0, none⟩) := rq
          obtain ⟨xv, ev, rv⟩ := hrows 9 (by decide) _ _ rfl rfl
          obtain ⟨us, hus, ha⟩ := hO.lit rfl [false, false, false, false, false, false, false, false, false, false, false, false, false, false, false, false, false, false, false, false, false, false, false, false, false, false, false, false, true, true, true, true, true, true, true, true, true, true, true, true, false, false, false] (by kernel_rfl)
          have uq := hus 28 _ rfl eq
          have uv := hus 37 _ rfl ev
          clear hrows hO hus eq ev
          subst ha
          simp only [merge, Nat.reduceAdd, uq, uv, List.drop_succ_cons, List.drop_zero]
          clear uq uv
          obtain ⟨⟨ra, rc, rfl⟩, hp2, hf2⟩ := show (∃ pa pc, xv = .slice pa _ pc) ∧ _ from rv
          have z0 := (HH.out.kept hC (fun x hx => by cases hx)).frz 0
          have y0 := hC.cell c0 (by simp)
        -- [end rows]
          have hlt := hp2.lt
          have H2 := HH.out.kept hC (fun x hx => by cases hx)
          have hkA : Kept [A] w4 (w4.setCell ⟨A, 0, none⟩ (.slice ra R.length rc)) := (Kept.refl _ w4).setCell (.inl (by simp)) _
          have hTW := HH.out.tab.widen hC (fun x hx => by cases hx)
          have hs2 := hC.size
          have hT3 : TabAt (w4.setCell ⟨A, 0, none⟩ (.slice ra R.length rc)) (stB D A M (.slice ra R.length rc) ws) L s.tab :=
            (hTW.kept hkA (fun x hx => by simp at hx; subst hx; exact .inl (.inr (.inl (by simp [stBs]))))).less (fun b hb => by
              rcases hb with hb | hb | ⟨a, m, c, hv, hm', rfl⟩
              · exact .inl (.inl hb)
              · exact .inl (.inr (.inl hb))
              · exact .inr ⟨hf2 a m c hv hm', hlt a m c hv hm'⟩)
          have hP3 : PrAt (w4.setCell ⟨A, 0, none⟩ (.slice ra R.length rc)) (.slice ra R.length rc) R := hp2.kept_of hkA (fun a m c hv hm' hb' => by
            simp only [List.mem_singleton] at hb'
            exact hp2.far (small_cells H2.blk (by simp)) a m c hv hm' hb')
          have H3 := H2.rebase hkA (by simpa using heap_putS H2.blk 0 (.slice ra R.length rc)) hP3 (fun b hb' hD => by
            obtain ⟨a, m, c, hv, hm', rfl⟩ := hb'
            have h1 := hf2 a m c hv hm'
            have h2 := HH.out.dlt _ hD
            omega) hT3
          have HF' := hid (HF.out _ _ ⟨M, L, _, ws, H3⟩ rfl)
          have HKD := hid ((hC.kd' HH.out.dlt).trans (H2.kdw (by simp [stBs]) hkA) (fun _ hx => hx))
          clear hlt H2 hkA hTW hT3 hP3 H3 hp2 hf2 hC
          go_wp2_with (go_at_call 48; refine HF'.out.mono ?_; clear HF'; rintro e w3 ⟨rfl, hS2, hkd⟩)
          go_ret
          exact ⟨rfl, hS2, HKD.out.trans hkd (fun _ hx => hx)⟩
      · rw [if_pos ⟨rfl, h3⟩]
        have hb3 : (x.k.state != 3) = true := by simpa using h3
        clear H c0 c1 hx hl hm hW d1 d2 hxa hw hwl h3
        go_enter Tryz.func28, Tryz.ntmps28
        go_wp2
        go_ret
        exact ⟨rfl, HS.out, KD.same⟩
--@@ end
--@@ (*store.Store).Begin
def NewDr (lo : Nat) (v : Value) (w : World) : Prop := ∃ d m, v = .pointer (some ⟨d, 0, none⟩) ∧ lo ≤ d ∧ lo ≤ m ∧ DraftIs w d m []
theorem NewDr.kept {lo : Nat} {v : Value} {w w' : World} (hk : Kept [] w w') (h : NewDr lo v w) : NewDr lo v w' := by
  obtain ⟨d, m, h1, h2, h3, h4⟩ := h
  exact ⟨d, m, h1, h2, h3, h4.kept hk (by simp) (by simp)⟩
def NewWs (lo : Nat) (v : Value) (w : World) : Prop := ∃ d m, v = .agg #[.int .i64 1, .int .i64 0, .pointer (some ⟨d, 0, none⟩)] ∧ lo ≤ d ∧ lo ≤ m ∧ DraftIs w d m []
theorem NewWs.kept {lo : Nat} {v : Value} {w w' : World} (hk : Kept [] w w') (h : NewWs lo v w) : NewWs lo v w' := by
  obtain ⟨d, m, h1, h2, h3, h4⟩ := h
  exact ⟨d, m, h1, h2, h3, h4.kept hk (by simp) (by simp)⟩
def NewWb (lo : Nat) (v : Value) (w : World) : Prop := ∃ b d m, v = .pointer (some ⟨b, 0, none⟩) ∧ lo ≤ b ∧ lo ≤ d ∧ lo ≤ m ∧ WrkIs w ⟨b, d, m, ⟨1, 0, []⟩⟩
theorem NewWb.kept {lo : Nat} {v : Value} {w w' : World} (hk : Kept [] w w') (h : NewWb lo v w) : NewWb lo v w' := by
  obtain ⟨b, d, m, h1, h2, h3, h4, h5⟩ := h
  exact ⟨b, d, m, h1, h2, h3, h4, h5.kept hk (by simp)⟩
theorem NewWs.box {lo : Nat} {d m : Nat} {w : World} (h2 : lo ≤ d) (h3 : lo ≤ m) (h4 : DraftIs w d m []) (hlo : lo ≤ w.heap.size) : NewWb lo (.pointer (some ⟨w.heap.size, 0, none⟩)) (w.alloc (.cells #[.int .i64 1, .int .i64 0, .pointer (some ⟨d, 0, none⟩)] 86)) := by
  have hl := h4.lt
  have hd := h4.ne
  refine ⟨_, d, m, rfl, hlo, h2, h3, heap_alloc_new w _, h4.kept ((Kept.refl [] w).alloc _) (by simp) (by simp), by simp, ?_⟩
  simp only [So.bs, List.nodup_cons, List.mem_cons, List.not_mem_nil, or_false, not_or, List.nodup_nil, and_true, not_false_eq_true]
  exact ⟨⟨by omega, by omega⟩, hd⟩
set_option maxRecDepth 100000 in
set_option maxHeartbeats 4000000 in
theorem sbegin_any {w : World} {D : Nat → Prop} {A : Nat} {s : Sp} (h : StoreAt w D A s) (tx : Int) :
    Calls Tryz.prog 24 #[.pointer (some ⟨A, 0, none⟩), .int .i64 tx] w fun e w' => e = .returned (.int .i64 (s.begin_ tx).1) ∧ StoreAt w' D A (s.begin_ tx).2 ∧ KD D w w' := by
  have HMY := hid (smay_any h tx)
  obtain ⟨M, L, bv, ws, H⟩ := h
  have HH := hid H
  unfold Sp.begin_
  by_cases hm : s.may tx = 0
  · rw [if_pos hm]
    rw [hm] at HMY
    have hx : aget tx s.works = none := by
      unfold Sp.may at hm
      split at hm
      · cases hm
      · split at hm
        · cases hm
        · rename_i h1
          cases hg : aget tx s.works with
          | none => rfl
          | some k => rw [hg] at h1; exact absurd rfl h1
    have HX := hid (H.look_none hx).2
    clear H hm hx
    go_enter Tryz.func24, Tryz.ntmps24
    go_wp2_with (go_at_call 45; refine HMY.out.mono ?_; clear HMY; rintro e w1 ⟨rfl, hk1⟩)
    have H1 := hid (HH.out.kept hk1 (fun x hx => by cases hx))
    have HKD1 := hid (hk1.kd' HH.out.dlt)
    obtain ⟨c0, c1, c2⟩ := H1.out.cells
    clear c0 c1 hk1
    -- [rows begin3]
    refine wp_region_rows_tail 8 (yieldDen [.eq (.pointer (some ⟨A, 0, none⟩)), .eq (.pointer (some ⟨A, 0, none⟩)), .eq (.pointer (some ⟨A, 2, none⟩)), .eq (.map (some M)), .eq (.int .i64 tx), .is (fun v w' => NewDr w1.heap.size v w') (fun v w w' hk h => NewDr.kept hk h), .is (fun v w' => NewWs w1.heap.size v w') (fun v w w' hk h => NewWs.kept hk h), .is (fun v w' => NewWb w1.heap.size v w') (fun v w w' hk h => NewWb.kept hk h)]) (fun w' => Kept [] w1 w') (Kept []) (by kernel_rfl) (fun j v w w' h h' => yieldDen_kept _ j v w w' h h') (fun w => Kept.refl [] w) (by kernel_rfl) (by kernel_rfl) (by kernel_rfl) (by kernel_rfl) (by kernel_rfl) (by kernel_rfl) ((Kept.refl [] w1).drew) ?_ ?_
    · skip
      refine AllUpto.cons (n := 7) (k := 0) ?_ ?_
      · intro a w' hC hO hd
        rw [if_pos (wanted_none rfl)]
        have p0 : a.tmps[0]? = some (.pointer (some ⟨A, 0, none⟩)) := hO.at (by kernel_rfl) rfl
        clear hd hO
        refine pure_step (.pointer (some ⟨A, 0, none⟩)) rfl hC (Kept.refl _ _) ?_
        go_simp
      refine AllUpto.cons (n := 6) (k := 1) ?_ ?_
      · intro a w' hC hO hd
        obtain ⟨x11, e11, r11⟩ := hd ⟨0, .data⟩ (by simp) rfl _ _ rfl rfl
        obtain rfl : x11 = .pointer (some ⟨A, 0, none⟩) := r11
        rw [if_pos (wanted_none rfl)]
        clear hd hO
        refine pure_step (.pointer (some ⟨A, 0, none⟩)) rfl hC (Kept.refl _ _) ?_
        go_simp
      refine AllUpto.cons (n := 5) (k := 2) ?_ ?_
      · intro a w' hC hO hd
        obtain ⟨x12, e12, r12⟩ := hd ⟨1, .data⟩ (by simp) rfl _ _ rfl rfl
        obtain rfl : x12 = .pointer (some ⟨A, 0, none⟩) := r12
        rw [if_pos (wanted_none rfl)]
        clear hd hO
        refine pure_step (.pointer (some ⟨A, 2, none⟩)) rfl hC (Kept.refl _ _) ?_
        go_simp
      refine AllUpto.cons (n := 4) (k := 3) ?_ ?_
      · intro a w' hC hO hd
        obtain ⟨x13, e13, r13⟩ := hd ⟨2, .data⟩ (by simp) rfl _ _ rfl rfl
        obtain rfl : x13 = .pointer (some ⟨A, 2, none⟩) := r13
        rw [if_pos (wanted_none rfl)]
        have y1 := hC.cell c2 (by simp)
        clear hd hO
        refine pure_step (.map (some M)) rfl hC (Kept.refl _ _) ?_
        go_simp
      refine AllUpto.cons (n := 3) (k := 4) ?_ ?_
      · intro a w' hC hO hd
        rw [if_pos (wanted_none rfl)]
        have p1 : a.tmps[1]? = some (.int .i64 tx) := hO.at (by kernel_rfl) rfl
        clear hd hO
        refine pure_step (.int .i64 tx) rfl hC (Kept.refl _ _) ?_
        go_simp
      refine AllUpto.cons (n := 2) (k := 5) ?_ ?_
      · intro a w' hC hO hd
        rw [if_pos (wanted_none rfl)]
        clear hd hO
        go_simp
        refine (dnew_any _).mono ?_
        rintro e y ⟨rfl, hD0, hk⟩
        exact ⟨_, rfl, ⟨_, _, rfl, Nat.le_trans hC.size (Nat.le_succ _), hC.size, hD0⟩, hC.trans hk (fun x hx => .inl hx), hk⟩
      refine AllUpto.cons (n := 1) (k := 6) ?_ ?_
      · intro a w' hC hO hd
        obtain ⟨x16, e16, r16⟩ := hd ⟨5, .data⟩ (by simp) rfl _ _ rfl rfl
        obtain ⟨d0, m0, rfl, hd0, hm0, hD0⟩ := show NewDr _ x16 w' from r16
        rw [if_pos (wanted_none rfl)]
        clear hd hO
        refine pure_step (.agg #[.int .i64 1, .int .i64 0, .pointer (some ⟨d0, 0, none⟩)]) ⟨_, _, rfl, hd0, hm0, hD0⟩ hC (Kept.refl _ _) ?_
        go_simp
      refine AllUpto.cons (n := 0) (k := 7) ?_ ?_
      · intro a w' hC hO hd
        obtain ⟨x17, e17, r17⟩ := hd ⟨6, .data⟩ (by simp) rfl _ _ rfl rfl
        obtain ⟨d0, m0, rfl, hd0, hm0, hD0⟩ := show NewWs _ x17 w' from r17
        rw [if_pos (wanted_none rfl)]
        clear hd hO
        go_simp
        exact ⟨_, rfl, NewWs.box hd0 hm0 hD0 hC.size, hC.alloc _, (Kept.refl [] w').alloc _⟩
      exact AllUpto.nil
    · intro a' w4 hC hO hrows
      obtain ⟨xp, ep, rp⟩ := hrows 3 (by decide) _ _ rfl rfl
      obtain rfl : xp = .map (some M) := rp
      obtain ⟨xq, eq, rq⟩ := hrows 4 (by decide) _ _ rfl rfl
      obtain rfl : xq = .int .i64 tx := rq
      obtain ⟨xv, ev, rv⟩ := hrows 7 (by decide) _ _ rfl rfl
      obtain ⟨us, hus, ha⟩ := hO.lit rfl [false, false, false, false, false, false, false, false, false, false, false, true, true, true, true, true, true, true, true, false] (by kernel_rfl)
      have up := hus 14 _ rfl ep
      have uq := hus 15 _ rfl eq
      have uv := hus 18 _ rfl ev
      clear hrows hO hus ep eq ev
      subst ha
      simp only [merge, Nat.reduceAdd, up, uq, uv, List.drop_succ_cons, List.drop_zero]
      clear up uq uv
    -- [end rows]
      obtain ⟨b, d, m, rfl, hb, hd, hm, hW⟩ := show NewWb _ xv w4 from rv
      have hl := hW.lt
      refine wpList_mapUpdate_is rfl _ _ _ 80 rfl 3 83 (KeyOK.int (k := .i64) Tryz.underlying3) Tryz.underlying80 rfl tx rfl _ rfl (H1.out.kept hC (fun x hx => by cases hx)).map ?_
      intro w5 hM5 hK5
      have hs4 := hC.size
      have hold : ∀ y ∈ So.bs ⟨b, d, m, ⟨1, 0, []⟩⟩, w1.heap.size ≤ y ∧ y < w4.heap.size := fun y hy => by
        refine ⟨?_, hl y hy⟩
        simp only [So.bs, List.mem_cons, List.not_mem_nil, or_false] at hy
        rcases hy with rfl | rfl | rfl <;> assumption
      have H4 := (H1.out.kept hC (fun x hx => by cases hx))
      have H5 := hid (H4.push (x := ⟨b, d, m, ⟨1, 0, []⟩⟩) HX.out hW (fun y hy => ⟨fun h => by have := H1.out.lt y (.inr (.inl h)); have := (hold y hy).1; omega, fun h => by have := H1.out.dlt y h; have := (hold y hy).1; omega⟩)
        ((H1.out.tab.widen hC (fun x hx => by cases hx)).less (fun y hy => by
          rcases hy with hy | hy | hy
          · exact .inl (.inl hy)
          · have e : stBs A M (ws ++ [(tx, (⟨b, d, m, ⟨1, 0, []⟩⟩ : So))]) = stBs A M ws ++ So.bs ⟨b, d, m, ⟨1, 0, []⟩⟩ := by simp [stBs]
            rw [e] at hy
            rcases List.mem_append.1 hy with hy | hy
            · exact .inl (.inr (.inl hy))
            · exact .inr (hold y hy)
          · exact .inl (.inr (.inr hy)))) hK5 hM5)
      have HKD := hid (HKD1.out.trans ((hC.kd' H1.out.dlt).trans (H4.kdw (by simp [stBs]) hK5) (fun _ hx => hx)) (fun _ hx => hx))
      clear hM5 hK5 hold H4 hW hl rv
      go_wp2
      go_ret
      exact ⟨rfl, ⟨M, L, bv, _, H5.out⟩, HKD.out⟩
  · rw [if_neg hm]
    have hb : (s.may tx == 0) = false := by simpa using hm
    generalize s.may tx = e0 at *
    clear H hm
    go_enter Tryz.func24, Tryz.ntmps24
    go_wp2_with (go_at_call 45; refine HMY.out.mono ?_; clear HMY; rintro e w1 ⟨rfl, hk1⟩)
    go_ret
    exact ⟨rfl, ⟨M, L, bv, ws, HH.out.kept hk1 (fun x hx => by cases hx)⟩, hk1.kd' HH.out.dlt⟩
--@@ (*store.Store).get
def ValBlk (lo : Nat) (v : Value) (w : World) : Prop := ∃ b, v = .pointer (some ⟨b, 0, none⟩) ∧ lo ≤ b ∧ w.heap[b]? = some (.cells #[.bool false, .int .i64 0] 44 (0, 0))
theorem ValBlk.kept {lo : Nat} {v : Value} {w w' : World} (hk : Kept [] w w') (h : ValBlk lo v w) : ValBlk lo v w' := by
  obtain ⟨b, h1, h2, h3⟩ := h
  exact ⟨b, h1, h2, (hk.block b (Array.getElem?_eq_some_iff.1 h3).1 (by simp)).trans h3⟩
theorem valblk_alloc {w y : World} {o p : Obj} (hk : Kept [] ((((w.alloc o).alloc p).drew).alloc (.cells #[.bool false, .int .i64 0] 44)) y) : y.heap[w.heap.size + 1 + 1]? = some (.cells #[.bool false, .int .i64 0] 44 (0, 0)) := by
  have hq := two_kept hk
  have hz : (((w.alloc o).alloc p).drew).heap.size = w.heap.size + 1 + 1 := by simp [World.drew]
  rw [hz] at hq
  exact hq
def ValSet (w0 : World) (gb : Bool) (gn : Int) (v : Value) (w : World) : Prop := ∃ b, v = .pointer (some ⟨b, 0, none⟩) ∧ w.heap[b]? = some (.cells #[.bool gb, .int .i64 gn] 44 (0, 0)) ∧ Kept [] w0 w
set_option maxRecDepth 100000 in
set_option maxHeartbeats 4000000 in
theorem sget_any {w : World} {D : Nat → Prop} {A M L : Nat} {bv : Value} {ws : List (Int × So)} {s : Sp} (H : StoIs w D A M L bv ws s) {x : So} (hW : WrkIs w x) (k : K4) :
    Calls Tryz.prog 38 #[.pointer (some ⟨A, 0, none⟩), .pointer (some ⟨x.b, 0, none⟩), k.v] w fun e w' => e = .returned (s.get x.k k).v ∧ Kept [] w w' := by
  obtain ⟨c0, c1, c2⟩ := H.cells
  obtain ⟨d0, d1, d2⟩ := hW.cells
  obtain ⟨ba, bc, rfl, _⟩ := H.base.at'.ex
  have HG := hid (fun W (hK : Kept [] w W) => dget_any x.d x.m x.k.ws k W (hW.dr.kept hK (by simp) (by simp)))
  have HF := hid (fun W (hK : Kept [] w W) => find_any _ s.base k W ((H.base.kept hK).at'))
  obtain ⟨r, hr⟩ : ∃ r, r = s.get x.k k := ⟨_, rfl⟩
  have HR := hid hr
  rw [← hr]
  unfold Sp.get at hr
  clear H hW c1 c2 d0 d1
  obtain ⟨ka, kb, kc, kd⟩ := k
  simp only [K4.v] at HG HF ⊢
  have HB := hid (fun W (hK : Kept [] ((w.alloc (.cells #[.int .u8 (ka.toNat : Int), .int .u8 (kb.toNat : Int), .int .u8 (kc.toNat : Int), .int .u8 (kd.toNat : Int)] 33)).alloc (.cells #[.bool false, .int .i64 0] 44)) W) =>
    have hk0 : Kept [] (w.alloc (.cells #[.int .u8 (ka.toNat : Int), .int .u8 (kb.toNat : Int), .int .u8 (kc.toNat : Int), .int .u8 (kd.toNat : Int)] 33)) W := ((Kept.refl [] _).alloc _).trans hK (by simp)
    have nc := new_cell w [.int .u8 (ka.toNat : Int), .int .u8 (kb.toNat : Int), .int .u8 (kc.toNat : Int), .int .u8 (kd.toNat : Int)] 33
    show W.cell? ⟨w.heap.size, 0, none⟩ = some (.int .u8 (ka.toNat : Int)) ∧ W.cell? ⟨w.heap.size, 1, none⟩ = some (.int .u8 (kb.toNat : Int)) ∧ W.cell? ⟨w.heap.size, 2, none⟩ = some (.int .u8 (kc.toNat : Int)) ∧ W.cell? ⟨w.heap.size, 3, none⟩ = some (.int .u8 (kd.toNat : Int)) from
      ⟨hk0.cell (nc 0 _ rfl) (by simp), hk0.cell (nc 1 _ rfl) (by simp), hk0.cell (nc 2 _ rfl) (by simp), hk0.cell (nc 3 _ rfl) (by simp)⟩)
  have hw0 : Kept [] w ((w.alloc (.cells #[.int .u8 (ka.toNat : Int), .int .u8 (kb.toNat : Int), .int .u8 (kc.toNat : Int), .int .u8 (kd.toNat : Int)] 33)).alloc (.cells #[.bool false, .int .i64 0] 44)) := ((Kept.refl [] w).alloc _).alloc _
  have hRB : ((w.alloc (.cells #[.int .u8 (ka.toNat : Int), .int .u8 (kb.toNat : Int), .int .u8 (kc.toNat : Int), .int .u8 (kd.toNat : Int)] 33)).alloc (.cells #[.bool false, .int .i64 0] 44)).heap[w.heap.size + 1]? = some (.cells #[.bool false, .int .i64 0] 44 (0, 0)) := by
    have := heap_alloc_new (w.alloc (.cells #[.int .u8 (ka.toNat : Int), .int .u8 (kb.toNat : Int), .int .u8 (kc.toNat : Int), .int .u8 (kd.toNat : Int)] 33)) (.cells #[.bool false, .int .i64 0] 44)
    simpa using this
  have HW0 := hid hw0
  have HRB := hid hRB
  cases hg : aget (⟨ka, kb, kc, kd⟩ : K4) x.k.ws with
  | some g =>
    rw [hg] at HG hr
    simp only [Option.getD_some, Option.isSome_some] at HG hr
    subst hr
    obtain ⟨gb, gn⟩ := r
    simp only [V.v] at HG ⊢
    clear hg hw0 hRB HF HR
    go_enter Tryz.func38, Tryz.ntmps38
    go_wp2_with fail
    -- [rows get1a]
    refine wp_region_rows_mid 10 7 [8, 11] [.eq (.pointer (some ⟨x.b, 0, none⟩)), .eq (.pointer (some ⟨x.b, 0, none⟩)), .eq (.pointer (some ⟨x.b, 2, none⟩)), .eq (.pointer (some ⟨x.d, 0, none⟩)), .eq (.agg #[.int .u8 (ka.toNat : Int), .int .u8 (kb.toNat : Int), .int .u8 (kc.toNat : Int), .int .u8 (kd.toNat : Int)]), .eq (.tuple #[.agg #[.bool gb, .int .i64 gn], .bool true]), .eq (.tuple #[.agg #[.bool gb, .int .i64 gn], .bool true]), .eq (.agg #[.bool gb, .int .i64 gn]), .eq (.bool true), .is (fun v w' => ValBlk ((w.alloc (.cells #[.int .u8 (ka.toNat : Int), .int .u8 (kb.toNat : Int), .int .u8 (kc.toNat : Int), .int .u8 (kd.toNat : Int)] 33)).alloc (.cells #[.bool false, .int .i64 0] 44)).heap.size v w') (fun v w w' hk h => ValBlk.kept hk h), .is (fun _ _ => True) (fun _ _ _ _ h => h), .eq (.bool true)] (fun w' => Kept [] ((w.alloc (.cells #[.int .u8 (ka.toNat : Int), .int .u8 (kb.toNat : Int), .int .u8 (kc.toNat : Int), .int .u8 (kd.toNat : Int)] 33)).alloc (.cells #[.bool false, .int .i64 0] 44)) w') (ValSet ((w.alloc (.cells #[.int .u8 (ka.toNat : Int), .int .u8 (kb.toNat : Int), .int .u8 (kc.toNat : Int), .int .u8 (kd.toNat : Int)] 33)).alloc (.cells #[.bool false, .int .i64 0] 44)) gb (gn)) (by kernel_rfl) (by kernel_rfl) (by kernel_rfl) (by kernel_rfl) (by kernel_rfl) (by kernel_rfl) (by kernel_rfl) ((Kept.refl [] ((w.alloc (.cells #[.int .u8 (ka.toNat : Int), .int .u8 (kb.toNat : Int), .int .u8 (kc.toNat : Int), .int .u8 (kd.toNat : Int)] 33)).alloc (.cells #[.bool false, .int .i64 0] 44))).drew) ?_ ?_ ?_ ?_
    · skip
      refine AllFrom.cons (k := 0) ?_ ?_
      · intro _
        intro a w' hC hO hd
        rw [if_pos (wanted_none rfl)]
        have p1 : a.tmps[1]? = some (.pointer (some ⟨x.b, 0, none⟩)) := hO.at (by kernel_rfl) rfl
        clear hd hO
        refine pure_step (.pointer (some ⟨x.b, 0, none⟩)) rfl hC (Kept.refl _ _) ?_
        go_simp
      refine AllFrom.cons (k := 1) ?_ ?_
      · intro _
        intro a w' hC hO hd
        obtain ⟨x10, e10, r10⟩ := hd ⟨0, .data⟩ (by simp) rfl _ _ rfl rfl
        obtain rfl : x10 = .pointer (some ⟨x.b, 0, none⟩) := r10
        rw [if_pos (wanted_none rfl)]
        clear hd hO
        refine pure_step (.pointer (some ⟨x.b, 0, none⟩)) rfl hC (Kept.refl _ _) ?_
        go_simp
      refine AllFrom.cons (k := 2) ?_ ?_
      · intro _
        intro a w' hC hO hd
        obtain ⟨x11, e11, r11⟩ := hd ⟨1, .data⟩ (by simp) rfl _ _ rfl rfl
        obtain rfl : x11 = .pointer (some ⟨x.b, 0, none⟩) := r11
        rw [if_pos (wanted_none rfl)]
        clear hd hO
        refine pure_step (.pointer (some ⟨x.b, 2, none⟩)) rfl hC (Kept.refl _ _) ?_
        go_simp
      refine AllFrom.cons (k := 3) ?_ ?_
      · intro _
        intro a w' hC hO hd
        obtain ⟨x12, e12, r12⟩ := hd ⟨2, .data⟩ (by simp) rfl _ _ rfl rfl
        obtain rfl : x12 = .pointer (some ⟨x.b, 2, none⟩) := r12
        rw [if_pos (wanted_none rfl)]
        have y1 := (HW0.out.trans hC (fun x hx => .inl hx)).cell d2 (by simp)
        clear hd hO
        refine pure_step (.pointer (some ⟨x.d, 0, none⟩)) rfl hC (Kept.refl _ _) ?_
        go_simp
      refine AllFrom.cons (k := 4) ?_ ?_
      · intro _
        intro a w' hC hO hd
        rw [if_pos (wanted_none rfl)]
        have p5 : a.tmps[5]? = some (.pointer (some ⟨w.heap.size, 0, none⟩)) := hO.at (by kernel_rfl) rfl
        obtain ⟨y0, y1, y2, y3⟩ := HB.out w' hC
        clear hd hO
        refine pure_step (.agg #[.int .u8 (ka.toNat : Int), .int .u8 (kb.toNat : Int), .int .u8 (kc.toNat : Int), .int .u8 (kd.toNat : Int)]) rfl hC (Kept.refl _ _) ?_
        go_simp
      refine AllFrom.cons (k := 5) ?_ ?_
      · intro _
        intro a w' hC hO hd
        obtain ⟨x13, e13, r13⟩ := hd ⟨3, .data⟩ (by simp) rfl _ _ rfl rfl
        obtain rfl : x13 = .pointer (some ⟨x.d, 0, none⟩) := r13
        obtain ⟨x14, e14, r14⟩ := hd ⟨4, .data⟩ (by simp) rfl _ _ rfl rfl
        obtain rfl : x14 = .agg #[.int .u8 (ka.toNat : Int), .int .u8 (kb.toNat : Int), .int .u8 (kc.toNat : Int), .int .u8 (kd.toNat : Int)] := r14
        rw [if_pos (wanted_none rfl)]
        clear hd hO
        go_simp
        refine (HG.out _ (HW0.out.trans hC (fun x hx => .inl hx))).mono ?_
        rintro e y ⟨rfl, hk⟩
        exact ⟨_, rfl, rfl, hC.trans hk (fun x hx => .inl hx), hk⟩
      refine AllFrom.cons (k := 6) ?_ ?_
      · intro _
        intro a w' hC hO hd
        obtain ⟨x15, e15, r15⟩ := hd ⟨5, .data⟩ (by simp) rfl _ _ rfl rfl
        obtain rfl : x15 = .tuple #[.agg #[.bool gb, .int .i64 gn], .bool true] := r15
        rw [if_pos (wanted_none rfl)]
        clear hd hO
        refine pure_step (.tuple #[.agg #[.bool gb, .int .i64 gn], .bool true]) rfl hC (Kept.refl _ _) ?_
        go_simp
      refine AllFrom.cons (k := 7) ?_ ?_
      · intro _
        intro a w' hC hO hd
        obtain ⟨x9, e9, r9⟩ := hd ⟨6, .data⟩ (by simp) rfl _ _ rfl rfl
        obtain rfl : x9 = .tuple #[.agg #[.bool gb, .int .i64 gn], .bool true] := r9
        rw [if_pos (wanted_none rfl)]
        clear hd hO
        refine pure_step (.agg #[.bool gb, .int .i64 gn]) rfl hC (Kept.refl _ _) ?_
        go_simp
      refine AllFrom.cons (k := 8) ?_ ?_
      · intro _
        intro a w' hC hO hd
        obtain ⟨x9, e9, r9⟩ := hd ⟨6, .data⟩ (by simp) rfl _ _ rfl rfl
        obtain rfl : x9 = .tuple #[.agg #[.bool gb, .int .i64 gn], .bool true] := r9
        rw [if_pos (wanted_none rfl)]
        clear hd hO
        refine pure_step (.bool true) rfl hC (Kept.refl _ _) ?_
        go_simp
      refine AllFrom.cons (k := 9) ?_ ?_
      · intro _
        intro a w' hC hO hd
        rw [if_pos (wanted_none rfl)]
        clear hd hO
        go_simp
        exact ⟨_, rfl, ⟨_, rfl, by simpa using hC.size, heap_alloc_new w' _⟩, hC.alloc _, (Kept.refl [] w').alloc _⟩
      refine AllFrom.cons (k := 10) ?_ ?_
      · intro h; exact absurd rfl h
      refine AllFrom.cons (k := 11) ?_ ?_
      · intro _
        intro a w' hC hO hd
        obtain ⟨x17, e17, r17⟩ := hd ⟨8, .data⟩ (by simp) rfl _ _ rfl rfl
        obtain rfl : x17 = .bool true := r17
        rw [if_pos (wanted_none rfl)]
        clear hd hO
        refine pure_step (.bool true) rfl hC (Kept.refl _ _) ?_
        go_simp
      exact trivial
    · intro o a w' ho hC hO hr
      obtain rfl := Option.some.inj (show some (_ : Oper) = some o from ho)
      refine ⟨rfl, wanted_none rfl, ?_⟩
      obtain ⟨xp, ep, rp⟩ := hr 7 (by decide) (by decide) rfl _ _ rfl rfl
      obtain rfl : xp = .agg #[.bool gb, .int .i64 gn] := rp
      obtain ⟨xv, ev, rv⟩ := hr 9 (by decide) (by decide) rfl _ _ rfl rfl
      clear hr hO ho
      obtain ⟨b, rfl, hb, hblk⟩ := show ValBlk _ xv w' from rv
      obtain ⟨y0, y1, z0, z1⟩ := cell2 hblk
      have hres : ValSet ((w.alloc (.cells #[.int .u8 (ka.toNat : Int), .int .u8 (kb.toNat : Int), .int .u8 (kc.toNat : Int), .int .u8 (kd.toNat : Int)] 33)).alloc (.cells #[.bool false, .int .i64 0] 44)) gb (gn) (.pointer (some ⟨b, 0, none⟩)) ((w'.setCell ⟨b, 0, none⟩ (.bool gb)).setCell ⟨b, 1, none⟩ (.int .i64 gn)) := ⟨b, rfl, set2 hblk _ _, (hC.setCell (.inr hb) _).setCell (.inr hb) _⟩
      have HRES := hid hres
      clear hres hblk hC rv
      go_simp
      exact HRES.out
    · skip
      refine AllFrom.cons (k := 0) ?_ ?_
      · intro h; exact absurd h (by decide)
      refine AllFrom.cons (k := 1) ?_ ?_
      · intro h; exact absurd h (by decide)
      refine AllFrom.cons (k := 2) ?_ ?_
      · intro h; exact absurd h (by decide)
      refine AllFrom.cons (k := 3) ?_ ?_
      · intro h; exact absurd h (by decide)
      refine AllFrom.cons (k := 4) ?_ ?_
      · intro h; exact absurd h (by decide)
      refine AllFrom.cons (k := 5) ?_ ?_
      · intro h; exact absurd h (by decide)
      refine AllFrom.cons (k := 6) ?_ ?_
      · intro h; exact absurd h (by decide)
      refine AllFrom.cons (k := 7) ?_ ?_
      · intro h; exact absurd h (by decide)
      refine AllFrom.cons (k := 8) ?_ ?_
      · intro _ a w' hO hd
        obtain ⟨x9, e9, r9⟩ := hd ⟨6, .data⟩ (by simp) rfl (by decide) _ _ rfl rfl
        obtain rfl : x9 = .tuple #[.agg #[.bool gb, .int .i64 gn], .bool true] := r9
        rw [if_pos (wanted_none rfl)]
        clear hd hO
        refine pure_late (.bool true) rfl ?_
        go_simp
      refine AllFrom.cons (k := 9) ?_ ?_
      · intro h; exact absurd h (by decide)
      refine AllFrom.cons (k := 10) ?_ ?_
      · intro h; exact absurd h (by decide)
      refine AllFrom.cons (k := 11) ?_ ?_
      · intro _ a w' hO hd
        obtain ⟨x17, e17, r17⟩ := hd ⟨8, .data⟩ (by simp) rfl (by decide) _ _ rfl rfl
        obtain rfl : x17 = .bool true := r17
        rw [if_pos (wanted_none rfl)]
        clear hd hO
        refine pure_late (.bool true) rfl ?_
        go_simp
      exact trivial
    · intro a' w4 v hv hK hO hrows
      obtain ⟨xp, ep, rp⟩ := hrows 8 (by decide) _ _ rfl rfl
      obtain rfl : xp = .bool true := rp
      obtain ⟨xq, eq, rq⟩ := hrows 11 (by decide) _ _ rfl rfl
      obtain rfl : xq = .bool true := rq
      obtain ⟨us, hus, ha⟩ := hO.lit rfl [false, false, false, false, false, false, false, true, true, true, true, true, true, true, true, true, true, true, false, false, false, false, false, false, false, false] (by kernel_rfl)
      have uz := hus 7 _ rfl hv
      have up := hus 17 _ rfl ep
      have uq := hus 8 _ rfl eq
      clear hrows hO hus hv ep eq
      subst ha
      simp only [merge, Nat.reduceAdd, uz, up, uq]
      clear uz up uq
      obtain ⟨b, rfl, hb, hk4⟩ := hK
    -- [end rows]
      obtain ⟨q0, q1, _, _⟩ := cell2 hb
      have hRBx := (hk4.block _ (Array.getElem?_eq_some_iff.1 HRB.out).1 (by simp)).trans HRB.out
      obtain ⟨v0, v1, t0, t1⟩ := cell2 hRBx
      have e5 := set2 hRBx (.bool gb) (.int .i64 gn)
      obtain ⟨g0, g1, _, _⟩ := cell2 e5
      have HK := hid (((HW0.out.trans hk4 (fun x hx => .inl hx)).setCell (p := ⟨w.heap.size + 1, 0, none⟩) (.inr (by simp)) (.bool gb)).setCell (p := ⟨w.heap.size + 1, 1, none⟩) (.inr (by simp)) (.int .i64 gn))
      clear hb hk4 hRBx e5
      go_wp2
      refine bodyPost_ret (by simp [results, Tryz.results38, go_sem, g0, g1]; rfl) rfl ?_
      exact ⟨rfl, HK.out⟩
  | none =>
    rw [hg] at HG hr
    simp only [Option.getD_none, Option.isSome_none, V.zero, V.v] at HG hr
    rw [← hr] at HF
    obtain ⟨rb, rn⟩ := r
    simp only [V.v] at HF ⊢
    clear hg hw0 hRB HR hr
    go_enter Tryz.func38, Tryz.ntmps38
    go_wp2_with fail
    -- [rows get1b]
    refine wp_region_rows_mid 10 7 [8, 11] [.eq (.pointer (some ⟨x.b, 0, none⟩)), .eq (.pointer (some ⟨x.b, 0, none⟩)), .eq (.pointer (some ⟨x.b, 2, none⟩)), .eq (.pointer (some ⟨x.d, 0, none⟩)), .eq (.agg #[.int .u8 (ka.toNat : Int), .int .u8 (kb.toNat : Int), .int .u8 (kc.toNat : Int), .int .u8 (kd.toNat : Int)]), .eq (.tuple #[.agg #[.bool false, .int .i64 0], .bool false]), .eq (.tuple #[.agg #[.bool false, .int .i64 0], .bool false]), .eq (.agg #[.bool false, .int .i64 0]), .eq (.bool false), .is (fun v w' => ValBlk ((w.alloc (.cells #[.int .u8 (ka.toNat : Int), .int .u8 (kb.toNat : Int), .int .u8 (kc.toNat : Int), .int .u8 (kd.toNat : Int)] 33)).alloc (.cells #[.bool false, .int .i64 0] 44)).heap.size v w') (fun v w w' hk h => ValBlk.kept hk h), .is (fun _ _ => True) (fun _ _ _ _ h => h), .eq (.bool false)] (fun w' => Kept [] ((w.alloc (.cells #[.int .u8 (ka.toNat : Int), .int .u8 (kb.toNat : Int), .int .u8 (kc.toNat : Int), .int .u8 (kd.toNat : Int)] 33)).alloc (.cells #[.bool false, .int .i64 0] 44)) w') (ValSet ((w.alloc (.cells #[.int .u8 (ka.toNat : Int), .int .u8 (kb.toNat : Int), .int .u8 (kc.toNat : Int), .int .u8 (kd.toNat : Int)] 33)).alloc (.cells #[.bool false, .int .i64 0] 44)) false (0)) (by kernel_rfl) (by kernel_rfl) (by kernel_rfl) (by kernel_rfl) (by kernel_rfl) (by kernel_rfl) (by kernel_rfl) ((Kept.refl [] ((w.alloc (.cells #[.int .u8 (ka.toNat : Int), .int .u8 (kb.toNat : Int), .int .u8 (kc.toNat : Int), .int .u8 (kd.toNat : Int)] 33)).alloc (.cells #[.bool false, .int .i64 0] 44))).drew) ?_ ?_ ?_ ?_
    · skip
      refine AllFrom.cons (k := 0) ?_ ?_
      · intro _
        intro a w' hC hO hd
        rw [if_pos (wanted_none rfl)]
        have p1 : a.tmps[1]? = some (.pointer (some ⟨x.b, 0, none⟩)) := hO.at (by kernel_rfl) rfl
        clear hd hO
        refine pure_step (.pointer (some ⟨x.b, 0, none⟩)) rfl hC (Kept.refl _ _) ?_
        go_simp
      refine AllFrom.cons (k := 1) ?_ ?_
      · intro _
        intro a w' hC hO hd
        obtain ⟨x10, e10, r10⟩ := hd ⟨0, .data⟩ (by simp) rfl _ _ rfl rfl
        obtain rfl : x10 = .pointer (some ⟨x.b, 0, none⟩) := r10
        rw [if_pos (wanted_none rfl)]
        clear hd hO
        refine pure_step (.pointer (some ⟨x.b, 0, none⟩)) rfl hC (Kept.refl _ _) ?_
        go_simp
      refine AllFrom.cons (k := 2) ?_ ?_
      · intro _
        intro a w' hC hO hd
        obtain ⟨x11, e11, r11⟩ := hd ⟨1, .data⟩ (by simp) rfl _ _ rfl rfl
        obtain rfl : x11 = .pointer (some ⟨x.b, 0, none⟩) := r11
        rw [if_pos (wanted_none rfl)]
        clear hd hO
        refine pure_step (.pointer (some ⟨x.b, 2, none⟩)) rfl hC (Kept.refl _ _) ?_
        go_simp
      refine AllFrom.cons (k := 3) ?_ ?_
      · intro _
        intro a w' hC hO hd
        obtain ⟨x12, e12, r12⟩ := hd ⟨2, .data⟩ (by simp) rfl _ _ rfl rfl
        obtain rfl : x12 = .pointer (some ⟨x.b, 2, none⟩) := r12
        rw [if_pos (wanted_none rfl)]
        have y1 := (HW0.out.trans hC (fun x hx => .inl hx)).cell d2 (by simp)
        clear hd hO
        refine pure_step (.pointer (some ⟨x.d, 0, none⟩)) rfl hC (Kept.refl _ _) ?_
        go_simp
      refine AllFrom.cons (k := 4) ?_ ?_
      · intro _
        intro a w' hC hO hd
        rw [if_pos (wanted_none rfl)]
        have p5 : a.tmps[5]? = some (.pointer (some ⟨w.heap.size, 0, none⟩)) := hO.at (by kernel_rfl) rfl
        obtain ⟨y0, y1, y2, y3⟩ := HB.out w' hC
        clear hd hO
        refine pure_step (.agg #[.int .u8 (ka.toNat : Int), .int .u8 (kb.toNat : Int), .int .u8 (kc.toNat : Int), .int .u8 (kd.toNat : Int)]) rfl hC (Kept.refl _ _) ?_
        go_simp
      refine AllFrom.cons (k := 5) ?_ ?_
      · intro _
        intro a w' hC hO hd
        obtain ⟨x13, e13, r13⟩ := hd ⟨3, .data⟩ (by simp) rfl _ _ rfl rfl
        obtain rfl : x13 = .pointer (some ⟨x.d, 0, none⟩) := r13
        obtain ⟨x14, e14, r14⟩ := hd ⟨4, .data⟩ (by simp) rfl _ _ rfl rfl
        obtain rfl : x14 = .agg #[.int .u8 (ka.toNat : Int), .int .u8 (kb.toNat : Int), .int .u8 (kc.toNat : Int), .int .u8 (kd.toNat : Int)] := r14
        rw [if_pos (wanted_none rfl)]
        clear hd hO
        go_simp
        refine (HG.out _ (HW0.out.trans hC (fun x hx => .inl hx))).mono ?_
        rintro e y ⟨rfl, hk⟩
        exact ⟨_, rfl, rfl, hC.trans hk (fun x hx => .inl hx), hk⟩
      refine AllFrom.cons (k := 6) ?_ ?_
      · intro _
        intro a w' hC hO hd
        obtain ⟨x15, e15, r15⟩ := hd ⟨5, .data⟩ (by simp) rfl _ _ rfl rfl
        obtain rfl : x15 = .tuple #[.agg #[.bool false, .int .i64 0], .bool false] := r15
        rw [if_pos (wanted_none rfl)]
        clear hd hO
        refine pure_step (.tuple #[.agg #[.bool false, .int .i64 0], .bool false]) rfl hC (Kept.refl _ _) ?_
        go_simp
      refine AllFrom.cons (k := 7) ?_ ?_
      · intro _
        intro a w' hC hO hd
        obtain ⟨x9, e9, r9⟩ := hd ⟨6, .data⟩ (by simp) rfl _ _ rfl rfl
        obtain rfl : x9 = .tuple #[.agg #[.bool false, .int .i64 0], .bool false] := r9
        rw [if_pos (wanted_none rfl)]
        clear hd hO
        refine pure_step (.agg #[.bool false, .int .i64 0]) rfl hC (Kept.refl _ _) ?_
        go_simp
      refine AllFrom.cons (k := 8) ?_ ?_
      · intro _
        intro a w' hC hO hd
        obtain ⟨x9, e9, r9⟩ := hd ⟨6, .data⟩ (by simp) rfl _ _ rfl rfl
        obtain rfl : x9 = .tuple #[.agg #[.bool false, .int .i64 0], .bool false] := r9
        rw [if_pos (wanted_none rfl)]
        clear hd hO
        refine pure_step (.bool false) rfl hC (Kept.refl _ _) ?_
        go_simp
      refine AllFrom.cons (k := 9) ?_ ?_
      · intro _
        intro a w' hC hO hd
        rw [if_pos (wanted_none rfl)]
        clear hd hO
        go_simp
        exact ⟨_, rfl, ⟨_, rfl, by simpa using hC.size, heap_alloc_new w' _⟩, hC.alloc _, (Kept.refl [] w').alloc _⟩
      refine AllFrom.cons (k := 10) ?_ ?_
      · intro h; exact absurd rfl h
      refine AllFrom.cons (k := 11) ?_ ?_
      · intro _
        intro a w' hC hO hd
        obtain ⟨x17, e17, r17⟩ := hd ⟨8, .data⟩ (by simp) rfl _ _ rfl rfl
        obtain rfl : x17 = .bool false := r17
        rw [if_pos (wanted_none rfl)]
        clear hd hO
        refine pure_step (.bool false) rfl hC (Kept.refl _ _) ?_
        go_simp
      exact trivial
    · intro o a w' ho hC hO hr
      obtain rfl := Option.some.inj (show some (_ : Oper) = some o from ho)
      refine ⟨rfl, wanted_none rfl, ?_⟩
      obtain ⟨xp, ep, rp⟩ := hr 7 (by decide) (by decide) rfl _ _ rfl rfl
      obtain rfl : xp = .agg #[.bool false, .int .i64 0] := rp
      obtain ⟨xv, ev, rv⟩ := hr 9 (by decide) (by decide) rfl _ _ rfl rfl
      clear hr hO ho
      obtain ⟨b, rfl, hb, hblk⟩ := show ValBlk _ xv w' from rv
      obtain ⟨y0, y1, z0, z1⟩ := cell2 hblk
      have hres : ValSet ((w.alloc (.cells #[.int .u8 (ka.toNat : Int), .int .u8 (kb.toNat : Int), .int .u8 (kc.toNat : Int), .int .u8 (kd.toNat : Int)] 33)).alloc (.cells #[.bool false, .int .i64 0] 44)) false (0) (.pointer (some ⟨b, 0, none⟩)) ((w'.setCell ⟨b, 0, none⟩ (.bool false)).setCell ⟨b, 1, none⟩ (.int .i64 0)) := ⟨b, rfl, set2 hblk _ _, (hC.setCell (.inr hb) _).setCell (.inr hb) _⟩
      have HRES := hid hres
      clear hres hblk hC rv
      go_simp
      exact HRES.out
    · skip
      refine AllFrom.cons (k := 0) ?_ ?_
      · intro h; exact absurd h (by decide)
      refine AllFrom.cons (k := 1) ?_ ?_
      · intro h; exact absurd h (by decide)
      refine AllFrom.cons (k := 2) ?_ ?_
      · intro h; exact absurd h (by decide)
      refine AllFrom.cons (k := 3) ?_ ?_
      · intro h; exact absurd h (by decide)
      refine AllFrom.cons (k := 4) ?_ ?_
      · intro h; exact absurd h (by decide)
      refine AllFrom.cons (k := 5) ?_ ?_
      · intro h; exact absurd h (by decide)
      refine AllFrom.cons (k := 6) ?_ ?_
      · intro h; exact absurd h (by decide)
      refine AllFrom.cons (k := 7) ?_ ?_
      · intro h; exact absurd h (by decide)
      refine AllFrom.cons (k := 8) ?_ ?_
      · intro _ a w' hO hd
        obtain ⟨x9, e9, r9⟩ := hd ⟨6, .data⟩ (by simp) rfl (by decide) _ _ rfl rfl
        obtain rfl : x9 = .tuple #[.agg #[.bool false, .int .i64 0], .bool false] := r9
        rw [if_pos (wanted_none rfl)]
        clear hd hO
        refine pure_late (.bool false) rfl ?_
        go_simp
      refine AllFrom.cons (k := 9) ?_ ?_
      · intro h; exact absurd h (by decide)
      refine AllFrom.cons (k := 10) ?_ ?_
      · intro h; exact absurd h (by decide)
      refine AllFrom.cons (k := 11) ?_ ?_
      · intro _ a w' hO hd
        obtain ⟨x17, e17, r17⟩ := hd ⟨8, .data⟩ (by simp) rfl (by decide) _ _ rfl rfl
        obtain rfl : x17 = .bool false := r17
        rw [if_pos (wanted_none rfl)]
        clear hd hO
        refine pure_late (.bool false) rfl ?_
        go_simp
      exact trivial
    · intro a' w4 v hv hK hO hrows
      obtain ⟨xp, ep, rp⟩ := hrows 8 (by decide) _ _ rfl rfl
      obtain rfl : xp = .bool false := rp
      obtain ⟨xq, eq, rq⟩ := hrows 11 (by decide) _ _ rfl rfl
      obtain rfl : xq = .bool false := rq
      obtain ⟨us, hus, ha⟩ := hO.lit rfl [false, false, false, false, false, false, false, true, true, true, true, true, true, true, true, true, true, true, false, false, false, false, false, false, false, false] (by kernel_rfl)
      have uz := hus 7 _ rfl hv
      have up := hus 17 _ rfl ep
      have uq := hus 8 _ rfl eq
      clear hrows hO hus hv ep eq
      subst ha
      simp only [merge, Nat.reduceAdd, uz, up, uq]
      clear uz up uq
      obtain ⟨b, rfl, hb, hk4⟩ := hK
    -- [end rows]
      have hRBx := (hk4.block _ (Array.getElem?_eq_some_iff.1 HRB.out).1 (by simp)).trans HRB.out
      have HRBX := hid hRBx
      have hkw := HW0.out.trans hk4 (fun x hx => .inl hx)
      clear hb hRBx
      go_wp2_with fail
      -- [rows get4]
      refine wp_region_rows_tail 6 (yieldDen [.eq (.pointer (some ⟨A, 0, none⟩)), .eq (.pointer (some ⟨A, 0, none⟩)), .eq (.pointer (some ⟨A, 0, none⟩)), .eq (.slice ba s.base.length bc), .eq (.agg #[.int .u8 (ka.toNat : Int), .int .u8 (kb.toNat : Int), .int .u8 (kc.toNat : Int), .int .u8 (kd.toNat : Int)]), .eq (.agg #[.bool rb, .int .i64 rn])]) (fun w' => Kept [] w4 w') (Kept []) (by kernel_rfl) (fun j v w w' h h' => yieldDen_kept _ j v w w' h h') (fun w => Kept.refl [] w) (by kernel_rfl) (by kernel_rfl) (by kernel_rfl) (by kernel_rfl) (by kernel_rfl) (by kernel_rfl) ((Kept.refl [] w4).drew) ?_ ?_
      · skip
        refine AllUpto.cons (n := 5) (k := 0) ?_ ?_
        · intro a w' hC hO hd
          rw [if_pos (wanted_none rfl)]
          have p0 : a.tmps[0]? = some (.pointer (some ⟨A, 0, none⟩)) := hO.at (by kernel_rfl) rfl
          clear hd hO
          refine pure_step (.pointer (some ⟨A, 0, none⟩)) rfl hC (Kept.refl _ _) ?_
          go_simp
        refine AllUpto.cons (n := 4) (k := 1) ?_ ?_
        · intro a w' hC hO hd
          obtain ⟨x20, e20, r20⟩ := hd ⟨0, .data⟩ (by simp) rfl _ _ rfl rfl
          obtain rfl : x20 = .pointer (some ⟨A, 0, none⟩) := r20
          rw [if_pos (wanted_none rfl)]
          clear hd hO
          refine pure_step (.pointer (some ⟨A, 0, none⟩)) rfl hC (Kept.refl _ _) ?_
          go_simp
        refine AllUpto.cons (n := 3) (k := 2) ?_ ?_
        · intro a w' hC hO hd
          obtain ⟨x21, e21, r21⟩ := hd ⟨1, .data⟩ (by simp) rfl _ _ rfl rfl
          obtain rfl : x21 = .pointer (some ⟨A, 0, none⟩) := r21
          rw [if_pos (wanted_none rfl)]
          clear hd hO
          refine pure_step (.pointer (some ⟨A, 0, none⟩)) rfl hC (Kept.refl _ _) ?_
          go_simp
        refine AllUpto.cons (n := 2) (k := 3) ?_ ?_
        · intro a w' hC hO hd
          obtain ⟨x22, e22, r22⟩ := hd ⟨2, .data⟩ (by simp) rfl _ _ rfl rfl
          obtain rfl : x22 = .pointer (some ⟨A, 0, none⟩) := r22
          rw [if_pos (wanted_none rfl)]
          have y1 := (hkw.trans hC (fun x hx => .inl hx)).cell c0 (by simp)
          clear hd hO
          refine pure_step (.slice ba s.base.length bc) rfl hC (Kept.refl _ _) ?_
          go_simp
        refine AllUpto.cons (n := 1) (k := 4) ?_ ?_
        · intro a w' hC hO hd
          rw [if_pos (wanted_none rfl)]
          have p5 : a.tmps[5]? = some (.pointer (some ⟨w.heap.size, 0, none⟩)) := hO.at (by kernel_rfl) rfl
          obtain ⟨y0, y1, y2, y3⟩ := HB.out w' (hk4.trans hC (fun x hx => .inl hx))
          clear hd hO
          refine pure_step (.agg #[.int .u8 (ka.toNat : Int), .int .u8 (kb.toNat : Int), .int .u8 (kc.toNat : Int), .int .u8 (kd.toNat : Int)]) rfl hC (Kept.refl _ _) ?_
          go_simp
        refine AllUpto.cons (n := 0) (k := 5) ?_ ?_
        · intro a w' hC hO hd
          obtain ⟨x23, e23, r23⟩ := hd ⟨3, .data⟩ (by simp) rfl _ _ rfl rfl
          obtain rfl : x23 = .slice ba s.base.length bc := r23
          obtain ⟨x24, e24, r24⟩ := hd ⟨4, .data⟩ (by simp) rfl _ _ rfl rfl
          obtain rfl : x24 = .agg #[.int .u8 (ka.toNat : Int), .int .u8 (kb.toNat : Int), .int .u8 (kc.toNat : Int), .int .u8 (kd.toNat : Int)] := r24
          rw [if_pos (wanted_none rfl)]
          clear hd hO
          go_simp
          refine (HF.out _ (hkw.trans hC (fun x hx => .inl hx))).mono ?_
          rintro e y ⟨rfl, hk⟩
          exact ⟨_, rfl, rfl, hC.trans hk (fun x hx => .inl hx), hk⟩
        exact AllUpto.nil
      · intro a' w4 hC hO hrows
        obtain ⟨xv, ev, rv⟩ := hrows 5 (by decide) _ _ rfl rfl
        obtain rfl : xv = .agg #[.bool rb, .int .i64 rn] := rv
        obtain ⟨us, hus, ha⟩ := hO.lit rfl [false, false, false, false, false, false, false, false, false, false, false, false, false, false, false, false, false, false, false, false, true, true, true, true, true, true] (by kernel_rfl)
        have uv := hus 25 _ rfl ev
        clear hrows hO hus ev
        subst ha
        simp only [merge, Nat.reduceAdd, uv, List.drop_succ_cons, List.drop_zero]
        clear uv
      -- [end rows]
        have hRBy := (hC.block _ (Array.getElem?_eq_some_iff.1 HRBX.out).1 (by simp)).trans HRBX.out
        obtain ⟨v0, v1, t0, t1⟩ := cell2 hRBy
        have e5 := set2 hRBy (.bool rb) (.int .i64 rn)
        obtain ⟨g0, g1, _, _⟩ := cell2 e5
        have HK := hid (((hkw.trans hC (fun x hx => .inl hx)).setCell (p := ⟨w.heap.size + 1, 0, none⟩) (.inr (by simp)) (.bool rb)).setCell (p := ⟨w.heap.size + 1, 1, none⟩) (.inr (by simp)) (.int .i64 rn))
        clear hk4 hkw hC hRBy e5
        go_wp2
        refine bodyPost_ret (by simp [results, Tryz.results38, go_sem, g0, g1]; rfl) rfl ?_
        exact ⟨rfl, HK.out⟩
--@@ end
--@@ concordatlaw09.To
set_option maxHeartbeats 4000000 in
set_option maxRecDepth 100000 in
theorem to_any (v : Value) (l : List Pr) (w : World) (h : SlAt w v 6 l.length (l.flatMap Pr.f)) (hl : l.length ≤ 20000) :
    Calls Tryz.prog 12 #[v] w fun e w' => ∃ v', e = .returned v' ∧ w'.ownsRow w.heap.size 59 6 v' l.length (l.flatMap Pr.f) ∧ Kept [] w w' := by
  obtain ⟨a, cap, rfl, _, _, hcs⟩ := h.ex
  have HC := hid hcs
  have HF := hid (show (Tryz.prog.info? 59).map (fun i => (i.zero, i.size, i.bytes)) = some (some (.agg #[.int .u8 0, .int .u8 0, .int .u8 0, .int .u8 0, .bool false, .int .i64 0]), 6, 24) by kernel_rfl)
  clear h hcs
  go_enter Tryz.func12, Tryz.ntmps12
  go_wp2
  have HO0 := hid (ownsRow_made0 w 59 6 w.heap.size (Nat.le_refl _))
  have HK0 := hid ((Kept.refl [] w).alloc (.cells #[] 59))
  go_loopg [3, 4] l.length (fun kx s3 s4 wr => ∃ k : Nat, s4 = .int .i64 k ∧ k ≤ l.length ∧ l.length - k ≤ kx ∧ Aside (wr.ownsRow w.heap.size 59 6 s3 k ((l.take k).flatMap Pr.f)) ∧ Aside (Kept [] w wr))
  case atStart => exact ⟨0, by first | rfl | go_num, by omega, by omega, HO0.out, HK0.out⟩
  case round =>
    clear HO0 HK0
    obtain ⟨k, rfl, hk, hkx, HO, HK⟩ := hrel
    have hsz := HK.out.size
    by_cases hlt : k < l.length
    · have hltz : (k : Int) < (l.length : Int) := by omega
      obtain ⟨b, off, rfl, hb, hcs⟩ := HC.out (by omega)
      obtain ⟨e0, e1, e2, e3, e4, e5⟩ := pair_cells hcs hlt
      have HT := hid (show l.take (k + 1) = l.take k ++ [l[k]] by rw [List.take_succ_eq_append_getElem hlt])
      clear hcs
      generalize l[k] = x at *
      obtain ⟨⟨x1, x2, x3, x4⟩, ⟨x5, x6⟩⟩ := x
      dsimp only at e0 e1 e2 e3 e4 e5
      have HS := hid (show ∀ w', Kept [] w w' → w'.cell? ⟨b, off + k * 6, none⟩ = some (.int .u8 (x1.toNat : Int)) ∧ w'.cell? ⟨b, off + k * 6 + 1, none⟩ = some (.int .u8 (x2.toNat : Int)) ∧ w'.cell? ⟨b, off + k * 6 + 2, none⟩ = some (.int .u8 (x3.toNat : Int)) ∧ w'.cell? ⟨b, off + k * 6 + 3, none⟩ = some (.int .u8 (x4.toNat : Int)) ∧ w'.cell? ⟨b, off + k * 6 + 4, none⟩ = some (.bool x5) ∧ w'.cell? ⟨b, off + k * 6 + 5, none⟩ = some (.int .i64 x6) from fun w' hk' => ⟨hk'.cell e0 (by simp), hk'.cell e1 (by simp), hk'.cell e2 (by simp), hk'.cell e3 (by simp), hk'.cell e4 (by simp), hk'.cell e5 (by simp)⟩)
      have HKd := hid HK.out.drew
      clear e0 e1 e2 e3 e4 e5
      go_wp2_with fail
      go_region_held3 (fun w' => w'.cell? ⟨b, off + k * 6, none⟩ = some (.int .u8 (x1.toNat : Int)) ∧ w'.cell? ⟨b, off + k * 6 + 1, none⟩ = some (.int .u8 (x2.toNat : Int)) ∧ w'.cell? ⟨b, off + k * 6 + 2, none⟩ = some (.int .u8 (x3.toNat : Int)) ∧ w'.cell? ⟨b, off + k * 6 + 3, none⟩ = some (.int .u8 (x4.toNat : Int)) ∧ w'.cell? ⟨b, off + k * 6 + 4, none⟩ = some (.bool x5) ∧ w'.cell? ⟨b, off + k * 6 + 5, none⟩ = some (.int .i64 x6))
        ((refine HS.out _ ?_; first | exact hk1 | exact HKd.out | exact HKd.out.alloc _))
        ((rw [if_pos (by rfl)]; refine wp_append_is _ _ 30 rfl 59 _ 6 24 Tryz.underlying30 HF.out rfl (by decide) (by decide) w.heap.size _ k _ rfl (ownsRow_kept (HO.out) (((Kept.refl [] wr).drew).alloc _) (by simp)) _ 1 1 (Pr.f ⟨⟨x1, x2, x3, x4⟩, ⟨x5, x6⟩⟩) rfl rfl (fun j u h => cells_new _ (Pr.f ⟨⟨x1, x2, x3, x4⟩, ⟨x5, x6⟩⟩) _ j u h) (by simp [Pr.f, Value.oneCell']) (by omega) (by simp; omega) ?_; intro v' w1 hown1 hgrow hnil; have hk1 := (HKd.out.alloc (.cells (Pr.f ⟨⟨x1, x2, x3, x4⟩, ⟨x5, x6⟩⟩).toArray 59)).grown_own (ownsRow_kept (HO.out) (((Kept.refl [] wr).drew).alloc _) (by simp)) hgrow (Nat.le_refl _)))
      have HK1 := hid hk1
      have H1 := hid hown1
      clear hown1 hgrow hnil hk1
      go_wp2
      go_roundg (l.length - (k + 1))
      case measure => omega
      case rel => exact ⟨k + 1, by first | rfl | go_num, by omega, Nat.le_refl _, by show World.ownsRow _ _ _ _ _ _ _; rw [HT.out, List.flatMap_append]; simpa using H1.out, HK1.out⟩
    · obtain rfl : k = l.length := by omega
      have hltz : ¬ (l.length : Int) < (l.length : Int) := by omega
      go_wp2
      go_returns
      exact ⟨_, rfl, by have := HO.out; rw [List.take_length] at this; exact this, HK.out⟩
--@@ concordatlaw09.From
set_option maxHeartbeats 4000000 in
set_option maxRecDepth 100000 in
theorem from_any (v : Value) (l : List Pr) (w : World) (h : SlAt w v 6 l.length (l.flatMap Pr.f)) (hl : l.length ≤ 20000) :
    Calls Tryz.prog 13 #[v] w fun e w' => ∃ v', e = .returned v' ∧ w'.ownsRow w.heap.size 68 6 v' l.length (l.flatMap Pr.f) ∧ Kept [] w w' := by
  obtain ⟨a, cap, rfl, _, _, hcs⟩ := h.ex
  have HC := hid hcs
  have HF := hid (show (Tryz.prog.info? 68).map (fun i => (i.zero, i.size, i.bytes)) = some (some (.agg #[.int .u8 0, .int .u8 0, .int .u8 0, .int .u8 0, .bool false, .int .i64 0]), 6, 24) by kernel_rfl)
  clear h hcs
  go_enter Tryz.func13, Tryz.ntmps13
  go_wp2
  have HO0 := hid (ownsRow_made0 w 68 6 w.heap.size (Nat.le_refl _))
  have HK0 := hid ((Kept.refl [] w).alloc (.cells #[] 68))
  go_loopg [3, 4] l.length (fun kx s3 s4 wr => ∃ k : Nat, s4 = .int .i64 k ∧ k ≤ l.length ∧ l.length - k ≤ kx ∧ Aside (wr.ownsRow w.heap.size 68 6 s3 k ((l.take k).flatMap Pr.f)) ∧ Aside (Kept [] w wr))
  case atStart => exact ⟨0, by first | rfl | go_num, by omega, by omega, HO0.out, HK0.out⟩
  case round =>
    clear HO0 HK0
    obtain ⟨k, rfl, hk, hkx, HO, HK⟩ := hrel
    have hsz := HK.out.size
    by_cases hlt : k < l.length
    · have hltz : (k : Int) < (l.length : Int) := by omega
      obtain ⟨b, off, rfl, hb, hcs⟩ := HC.out (by omega)
      obtain ⟨e0, e1, e2, e3, e4, e5⟩ := pair_cells hcs hlt
      have HT := hid (show l.take (k + 1) = l.take k ++ [l[k]] by rw [List.take_succ_eq_append_getElem hlt])
      clear hcs
      generalize l[k] = x at *
      obtain ⟨⟨x1, x2, x3, x4⟩, ⟨x5, x6⟩⟩ := x
      dsimp only at e0 e1 e2 e3 e4 e5
      have HS := hid (show ∀ w', Kept [] w w' → w'.cell? ⟨b, off + k * 6, none⟩ = some (.int .u8 (x1.toNat : Int)) ∧ w'.cell? ⟨b, off + k * 6 + 1, none⟩ = some (.int .u8 (x2.toNat : Int)) ∧ w'.cell? ⟨b, off + k * 6 + 2, none⟩ = some (.int .u8 (x3.toNat : Int)) ∧ w'.cell? ⟨b, off + k * 6 + 3, none⟩ = some (.int .u8 (x4.toNat : Int)) ∧ w'.cell? ⟨b, off + k * 6 + 4, none⟩ = some (.bool x5) ∧ w'.cell? ⟨b, off + k * 6 + 5, none⟩ = some (.int .i64 x6) from fun w' hk' => ⟨hk'.cell e0 (by simp), hk'.cell e1 (by simp), hk'.cell e2 (by simp), hk'.cell e3 (by simp), hk'.cell e4 (by simp), hk'.cell e5 (by simp)⟩)
      have HKd := hid HK.out.drew
      clear e0 e1 e2 e3 e4 e5
      go_wp2_with fail
      go_region_held3 (fun w' => w'.cell? ⟨b, off + k * 6, none⟩ = some (.int .u8 (x1.toNat : Int)) ∧ w'.cell? ⟨b, off + k * 6 + 1, none⟩ = some (.int .u8 (x2.toNat : Int)) ∧ w'.cell? ⟨b, off + k * 6 + 2, none⟩ = some (.int .u8 (x3.toNat : Int)) ∧ w'.cell? ⟨b, off + k * 6 + 3, none⟩ = some (.int .u8 (x4.toNat : Int)) ∧ w'.cell? ⟨b, off + k * 6 + 4, none⟩ = some (.bool x5) ∧ w'.cell? ⟨b, off + k * 6 + 5, none⟩ = some (.int .i64 x6))
        ((refine HS.out _ ?_; first | exact hk1 | exact HKd.out | exact HKd.out.alloc _))
        ((rw [if_pos (by rfl)]; refine wp_append_is _ _ 22 rfl 68 _ 6 24 Tryz.underlying22 HF.out rfl (by decide) (by decide) w.heap.size _ k _ rfl (ownsRow_kept (HO.out) (((Kept.refl [] wr).drew).alloc _) (by simp)) _ 1 1 (Pr.f ⟨⟨x1, x2, x3, x4⟩, ⟨x5, x6⟩⟩) rfl rfl (fun j u h => cells_new _ (Pr.f ⟨⟨x1, x2, x3, x4⟩, ⟨x5, x6⟩⟩) _ j u h) (by simp [Pr.f, Value.oneCell']) (by omega) (by simp; omega) ?_; intro v' w1 hown1 hgrow hnil; have hk1 := (HKd.out.alloc (.cells (Pr.f ⟨⟨x1, x2, x3, x4⟩, ⟨x5, x6⟩⟩).toArray 68)).grown_own (ownsRow_kept (HO.out) (((Kept.refl [] wr).drew).alloc _) (by simp)) hgrow (Nat.le_refl _)))
      have HK1 := hid hk1
      have H1 := hid hown1
      clear hown1 hgrow hnil hk1
      go_wp2
      go_roundg (l.length - (k + 1))
      case measure => omega
      case rel => exact ⟨k + 1, by first | rfl | go_num, by omega, Nat.le_refl _, by show World.ownsRow _ _ _ _ _ _ _; rw [HT.out, List.flatMap_append]; simpa using H1.out, HK1.out⟩
    · obtain rfl : k = l.length := by omega
      have hltz : ¬ (l.length : Int) < (l.length : Int) := by omega
      go_wp2
      go_returns
      exact ⟨_, rfl, by have := HO.out; rw [List.take_length] at this; exact this, HK.out⟩
--@@ end
--@@ (*draft.Draft).Recs
theorem recInfo : (Tryz.prog.info? 65).map (fun i => (i.zero, i.size, i.bytes)) = some (some (.agg #[.int .i64 0, .int .i64 0, .int .u16 0, .int .u8 0, .int .u8 0, .int .u8 0, .int .u8 0, .bool false, .int .i64 0, .bool false, .int .i64 0]), 11, 56) := by kernel_rfl
set_option maxHeartbeats 8000000 in
set_option maxRecDepth 100000 in
theorem recs_any (a m : Nat) (l : List (K4 × V)) (tx : Int) (v : Value) (base : List Pr) (w : World) (h : DraftIs w a m l) (hn : (l.map (·.1)).Nodup) (hl : l.length ≤ 1000) (hv : PrAt w v base) :
    Calls Tryz.prog 50 #[.pointer (some ⟨a, 0, none⟩), .int .i64 tx, v] w fun e w' => ∃ v', e = .returned v' ∧ w'.ownsRow w.heap.size 65 11 v' (recsP tx base (keysP (l.map toPr))).length ((recsP tx base (keysP (l.map toPr))).flatMap Rc.f) ∧ Kept [] w w' := by
  have HF := hid recInfo
  have hkl := keysP_len (l.map toPr)
  have HP := hid (dpairs_any a m l w h hn hl)
  have HV := hid hv
  clear h hv
  have hkl2 : (keysP (l.map toPr)).length ≤ 1000 := by simp at hkl; omega
  generalize keysP (l.map toPr) = ps at HP hkl2 ⊢
  clear hkl
  go_enter Tryz.func50, Tryz.ntmps50
  go_wp2_with (first
    | (go_at_call 35; refine HP.out.mono ?_; clear HP; rintro e w1 ⟨v1, rfl, hp1, hk1⟩; obtain ⟨a1, c1, rfl, _, _, hcs⟩ := hp1.at'.ex; have HC := hid hcs; have HK0 := hid hk1; clear hcs hk1 hp1))
  go_loopg [7, 14] ps.length (fun kx s7 s14 wr => ∃ k : Nat, s14 = .int .i64 k ∧ k ≤ ps.length ∧ ps.length - k ≤ kx ∧ Aside (wr.ownsRow w1.heap.size 65 11 s7 k ((recsP tx base (ps.take k)).flatMap Rc.f)) ∧ Aside (Kept [] w1 wr))
  case atStart => exact ⟨0, by first | rfl | go_num, by omega, by omega, ⟨rfl, .inl ⟨rfl, rfl⟩⟩, Kept.refl _ _⟩
  case round =>
    obtain ⟨k, rfl, hk, hkx, HO, HK1⟩ := hrel
    have HK := hid (HK0.out.trans HK1.out (fun x hx => .inl hx))
    have hsz := HK1.out.size
    by_cases hlt : k < ps.length
    · have hltz : (k : Int) < (ps.length : Int) := by omega
      obtain ⟨b, off, rfl, hb, hcs⟩ := HC.out (by omega)
      have hcW : ∀ j u, (ps.flatMap Pr.f)[j]? = some u → wr.cell? ⟨b, off + j, none⟩ = some u := fun j u hj => HK1.out.cell (hcs j u hj) (by simp)
      obtain ⟨e0, e1, e2, e3, e4, e5⟩ := pair_cells hcW hlt
      have HT := hid (show ps.take (k + 1) = ps.take k ++ [ps[k]] by rw [List.take_succ_eq_append_getElem hlt])
      clear hcW hcs
      generalize ps[k] = x at *
      obtain ⟨⟨x1, x2, x3, x4⟩, ⟨x5, x6⟩⟩ := x
      dsimp only at e0 e1 e2 e3 e4 e5
      have HS := hid (show ∀ w', Kept [] (wr.alloc (.cells #[.int .u8 (x1.toNat : Int), .int .u8 (x2.toNat : Int), .int .u8 (x3.toNat : Int), .int .u8 (x4.toNat : Int), .bool x5, .int .i64 x6] 59)) w' → w'.cell? ⟨wr.heap.size, 0, none⟩ = some (.int .u8 (x1.toNat : Int)) ∧ w'.cell? ⟨wr.heap.size, 1, none⟩ = some (.int .u8 (x2.toNat : Int)) ∧ w'.cell? ⟨wr.heap.size, 2, none⟩ = some (.int .u8 (x3.toNat : Int)) ∧ w'.cell? ⟨wr.heap.size, 3, none⟩ = some (.int .u8 (x4.toNat : Int)) ∧ w'.cell? ⟨wr.heap.size, 4, none⟩ = some (.bool x5) ∧ w'.cell? ⟨wr.heap.size, 5, none⟩ = some (.int .i64 x6) from fun w' hk' =>
        have nc := new_cell wr [.int .u8 (x1.toNat : Int), .int .u8 (x2.toNat : Int), .int .u8 (x3.toNat : Int), .int .u8 (x4.toNat : Int), .bool x5, .int .i64 x6] 59
        ⟨hk'.cell (nc 0 _ rfl) (by simp), hk'.cell (nc 1 _ rfl) (by simp), hk'.cell (nc 2 _ rfl) (by simp), hk'.cell (nc 3 _ rfl) (by simp), hk'.cell (nc 4 _ rfl) (by simp), hk'.cell (nc 5 _ rfl) (by simp)⟩)
      have HW := hid ((Kept.refl [] wr).alloc (.cells #[.int .u8 (x1.toNat : Int), .int .u8 (x2.toNat : Int), .int .u8 (x3.toNat : Int), .int .u8 (x4.toNat : Int), .bool x5, .int .i64 x6] 59))
      have HFI := hid (find_any v base ⟨x1, x2, x3, x4⟩ (wr.alloc (.cells #[.int .u8 (x1.toNat : Int), .int .u8 (x2.toNat : Int), .int .u8 (x3.toNat : Int), .int .u8 (x4.toNat : Int), .bool x5, .int .i64 x6] 59)) ((HV.out.kept HK.out).kept HW.out).at')
      obtain ⟨fv, hfv⟩ : ∃ fv, fv = findP base ⟨x1, x2, x3, x4⟩ := ⟨_, rfl⟩
      have HFV := hid hfv
      rw [← hfv] at HFI
      clear hfv
      obtain ⟨f1, f2⟩ := fv
      simp only [V.v] at HFI
      have hr1 := hid (dright_any ⟨f1, f2⟩)
      simp only [V.v] at hr1
      obtain ⟨rt, hrt⟩ : ∃ rt, V.right ⟨f1, f2⟩ = rt := ⟨_, rfl⟩
      have HRT := hid hrt
      rw [hrt] at hr1
      clear hrt
      go_wp2_with (first
        | (go_at_call 74; refine HFI.out.mono ?_; clear HFI; rintro e w2 ⟨rfl, hk2⟩; obtain ⟨d0, d1, d2, d3, d4, d5⟩ := HS.out w2 hk2; have h12 : wr.heap.size < w2.heap.size := (by have := hk2.size; simp at this; omega); have HK2 := hid hk2; clear hk2 e0 e1 e2 e3 e4 e5)
        | (go_at_call 85; refine Here.mk ?_))
      refine Here.of ?_
      refine (hr1.out _).mono ?_
      clear hr1
      rintro e w3 ⟨rfl, hk3⟩
      have h23 : w2.heap.size < w3.heap.size := by have := hk3.size; simp at this; omega
      have hb3 : w3.heap[w2.heap.size]? = some (.cells #[.bool f1, .int .i64 f2] 44 (0, 0)) := (hk3.block _ (by simp) (by simp)).trans (heap_alloc_new w2 _)
      have y0 : w3.cell? ⟨w2.heap.size, 0, none⟩ = some (.bool f1) := by simp [World.cell?, hb3]
      have y1 : w3.cell? ⟨w2.heap.size, 1, none⟩ = some (.int .i64 f2) := by simp [World.cell?, hb3]
      have g0 : w3.frozen? ⟨w2.heap.size, 0, none⟩ = false := by simp [World.frozen?, hb3]
      have g1 : w3.frozen? ⟨w2.heap.size, 1, none⟩ = false := by simp [World.frozen?, hb3]
      clear hb3 d0 d1 d2 d3 d4 d5
      have HK23 := hid (((Kept.refl [] w2).alloc (.cells #[.bool f1, .int .i64 f2] 44)).trans hk3 (fun x hx => .inl hx))
      obtain ⟨d0, d1, d2, d3, d4, d5⟩ := HS.out w3 (HK2.out.trans HK23.out (fun x hx => .inl hx))
      have HK3 := hid ((HW.out.trans HK2.out (fun x hx => .inl hx)).trans HK23.out (fun x hx => .inl hx))
      clear hk3
      cases rt
      · have HK4 := hid ((HK3.out.setCell (p := ⟨w2.heap.size, 0, none⟩) (.inr (by simp; omega)) (.bool false)).setCell (p := ⟨w2.heap.size, 1, none⟩) (.inr (by simp; omega)) (.int .i64 0))
        go_wp2_with (at_builtin; refine Here.mk ?_)
        refine Here.of ?_
        have hs4 : ((w3.setCell ⟨w2.heap.size, 0, none⟩ (.bool false)).setCell ⟨w2.heap.size, 1, none⟩ (.int .i64 0)).heap.size = w3.heap.size := by simp
        clear d0 d1 d2 d3 d4 d5 y0 y1 g0 g1
        generalize (w3.setCell ⟨w2.heap.size, 0, none⟩ (.bool false)).setCell ⟨w2.heap.size, 1, none⟩ (.int .i64 0) = w4 at HK4 hs4 ⊢
        rw [← hs4]
        refine wpList_append_is rfl _ _ 61 rfl 65 _ 11 56 Tryz.underlying61 HF.out rfl (by decide) (by decide) w1.heap.size _ k _ rfl ((ownsRow_kept HO.out HK4.out (by simp)).alloc _) _ 1 1 (Rc.f ⟨1, tx, 0, ⟨x1, x2, x3, x4⟩, V.zero, ⟨x5, x6⟩⟩) rfl rfl (fun j u h => cells_new _ (Rc.f ⟨1, tx, 0, ⟨x1, x2, x3, x4⟩, V.zero, ⟨x5, x6⟩⟩) _ j u h) (by simp [Rc.f, Value.oneCell']) (by omega) (by have := HK4.out.size; simp at this ⊢; omega) ?_
        intro v' w5 hown5 hgrow hnil
        have HK5 := hid (((HK1.out.trans HK4.out (fun x hx => .inl hx)).alloc (.cells (Rc.f ⟨1, tx, 0, ⟨x1, x2, x3, x4⟩, V.zero, ⟨x5, x6⟩⟩).toArray 65)).grown_own ((ownsRow_kept HO.out HK4.out (by simp)).alloc _) hgrow (Nat.le_refl _))
        have H5 := hid hown5
        clear hown5 hgrow hnil
        go_wp2
        go_roundg (ps.length - (k + 1))
        case measure => omega
        case rel =>
          have hrec : recP tx base ⟨⟨x1, x2, x3, x4⟩, ⟨x5, x6⟩⟩ = ⟨1, tx, 0, ⟨x1, x2, x3, x4⟩, V.zero, ⟨x5, x6⟩⟩ := by
            unfold recP fixV
            dsimp only
            rw [← HFV.out, HRT.out]
            rfl
          exact ⟨k + 1, by first | rfl | go_num, by omega, Nat.le_refl _, by show World.ownsRow _ _ _ _ _ _ _; rw [HT.out]; unfold recsP; rw [List.map_append, List.flatMap_append, List.map_cons, hrec]; simpa [recsP] using H5.out, HK5.out⟩
      ·
        go_wp2_with (at_builtin; refine wpList_append_is rfl _ _ 61 rfl 65 _ 11 56 Tryz.underlying61 HF.out rfl (by decide) (by decide) w1.heap.size _ k _ rfl ((ownsRow_kept HO.out HK3.out (by simp)).alloc _) _ 1 1 (Rc.f ⟨1, tx, 0, ⟨x1, x2, x3, x4⟩, ⟨f1, f2⟩, ⟨x5, x6⟩⟩) rfl rfl (fun j u h => cells_new _ (Rc.f ⟨1, tx, 0, ⟨x1, x2, x3, x4⟩, ⟨f1, f2⟩, ⟨x5, x6⟩⟩) _ j u h) (by simp [Rc.f, Value.oneCell']) (by omega) (by have := HK3.out.size; simp at this ⊢; omega) ?_; intro v' w5 hown5 hgrow hnil)
        have HK5 := hid (((HK1.out.trans HK3.out (fun x hx => .inl hx)).alloc (.cells (Rc.f ⟨1, tx, 0, ⟨x1, x2, x3, x4⟩, ⟨f1, f2⟩, ⟨x5, x6⟩⟩).toArray 65)).grown_own ((ownsRow_kept HO.out HK3.out (by simp)).alloc _) hgrow (Nat.le_refl _))
        have H5 := hid hown5
        clear hown5 hgrow hnil
        go_wp2
        go_roundg (ps.length - (k + 1))
        case measure => omega
        case rel =>
          have hrec : recP tx base ⟨⟨x1, x2, x3, x4⟩, ⟨x5, x6⟩⟩ = ⟨1, tx, 0, ⟨x1, x2, x3, x4⟩, ⟨f1, f2⟩, ⟨x5, x6⟩⟩ := by
            unfold recP fixV
            dsimp only
            rw [← HFV.out, HRT.out]
            rfl
          exact ⟨k + 1, by first | rfl | go_num, by omega, Nat.le_refl _, by show World.ownsRow _ _ _ _ _ _ _; rw [HT.out]; unfold recsP; rw [List.map_append, List.flatMap_append, List.map_cons, hrec]; simpa [recsP] using H5.out, HK5.out⟩
    · obtain rfl : k = ps.length := by omega
      have hltz : ¬ (ps.length : Int) < (ps.length : Int) := by omega
      go_wp2
      go_returns
      refine ⟨_, rfl, ?_, HK.out⟩
      have := HO.out
      rw [List.take_length] at this
      have hl1 : (recsP tx base ps).length = ps.length := by simp [recsP]
      rw [hl1]
      refine ⟨this.1, ?_⟩
      rcases this.2 with h1 | ⟨g, cap, cur, h1, h2, h3⟩
      · exact .inl h1
      · exact .inr ⟨g, cap, cur, h1, Nat.le_trans HK0.out.size h2, h3⟩
--@@ end
--@@ (*store.Store).Vote
theorem keyO_v (o : Option K4) : ∃ k : K4, keyO o = k := ⟨_, rfl⟩
def RecN (lo : Nat) (l : List Rc) (v : Value) (w : World) : Prop := (∃ pa pc, v = .slice pa l.length pc) ∧ w.ownsRow lo 65 11 v l.length (l.flatMap Rc.f)
theorem RecN.kept {lo : Nat} {l : List Rc} {v : Value} {w w' : World} (hk : Kept [] w w') (h : RecN lo l v w) : RecN lo l v w' := ⟨h.1, ownsRow_kept h.2 hk (by simp)⟩
set_option maxRecDepth 100000 in
set_option maxHeartbeats 4000000 in
theorem svote_any {w : World} {D : Nat → Prop} {A : Nat} {s : Sp} {n : Nat} (h : StoreAt w D A s) (hl : s.tab.le n) (hn : n ≤ 100000) (hm : s.tab.rows.length ≤ 50000) (hw : ∀ x ∈ s.works, x.2.ws.length ≤ 1000) (tx : Int) (mask : Nat) :
    Calls Tryz.prog 25 #[.pointer (some ⟨A, 0, none⟩), .int .i64 tx, .int .u16 (mask : Int)] w fun e w' => ∃ v, e = .returned (.tuple #[.int .i64 (s.vote tx mask).1.1, v, .int .i64 (s.vote tx mask).1.2.2]) ∧ SlAt w' v 11 (s.vote tx mask).1.2.1.length ((s.vote tx mask).1.2.1.flatMap Rc.f) ∧ StoreAt w' D A (s.vote tx mask).2 ∧ KD D w w' := by
  have HS := hid h
  have HL := hid hl
  have HM := hid hm
  have nilS : ∀ W : World, SlAt W (.slice none 0 0) 11 0 [] := fun W => ⟨none, 0, rfl, by decide, rfl, fun h => absurd h (by decide)⟩
  have NS := hid nilS
  obtain ⟨M, L, bv, ws, H⟩ := h
  obtain ⟨c0, c1, c2⟩ := H.cells
  have HH := hid H
  unfold Sp.vote
  cases hx : aget tx s.works with
  | none =>
    obtain ⟨hL, _⟩ := H.look_none hx
    clear H c0 c1 hx hl hm nilS
    go_enter Tryz.func25, Tryz.ntmps25
    go_wp2
    go_returns
    exact ⟨_, rfl, NS.out _, HS.out, KD.same⟩
  | some k =>
    have hwl := hw _ (tget_mem hx)
    obtain ⟨x, rfl, hxa, hW, hL⟩ := H.look_some hx
    obtain ⟨d0, d1, d2⟩ := hW.cells
    dsimp only
    by_cases h3 : x.k.state = 3
    · rw [if_pos h3]
      rw [h3] at d0
      clear H c0 c1 hx hl hm nilS hW d1 d2 hxa hw hwl h3
      go_enter Tryz.func25, Tryz.ntmps25
      go_wp2
      go_returns
      exact ⟨_, rfl, NS.out _, HS.out, KD.same⟩
    have hb3 : (x.k.state == 3) = false := by simpa using h3
    rw [if_neg h3]
    by_cases hmz : mask = 0
    · subst hmz
      rw [if_pos rfl]
      clear H c0 c1 hx hl hm nilS hW d1 d2 hxa hw hwl h3
      go_enter Tryz.func25, Tryz.ntmps25
      go_wp2
      go_returns
      exact ⟨_, rfl, NS.out _, HS.out, KD.same⟩
    have hbm : ((mask : Int) == 0) = false := by simpa using hmz
    rw [if_neg hmz]
    have HWA := hid (waits_at H.tab tx)
    obtain ⟨⟨qa, qb, qc, qd⟩, hq⟩ := keyO_v (aget tx s.tab.waits)
    rw [hq] at HWA
    simp only [K4.v] at HWA
    have HFG := hid (fun W (hK : Kept [] w W) => sforget_any (w := W) ⟨M, L, bv, ws, H.kept hK (fun x hx => by cases hx)⟩ hl hn hm tx)
    have HKD := hid (fun W (hK : Kept [] w W) => show KD D w W from hK.kd' H.dlt)
    have HDC := hid (fun W (hK : Kept [] w W) => dcount_any x.d x.m x.k.ws W (hW.dr.kept hK (by simp) (by simp)))
    have HWK := hid (fun W (hK : Kept [] w W) => show W.cell? ⟨x.b, 0, none⟩ = some (.int .i64 x.k.state) ∧ W.cell? ⟨x.b, 2, none⟩ = some (.pointer (some ⟨x.d, 0, none⟩)) ∧ W.cell? ⟨A, 1, none⟩ = some (.pointer (some ⟨L, 0, none⟩)) from ⟨hK.cell d0 (by simp), hK.cell d2 (by simp), hK.cell c1 (by simp)⟩)
    have hgo : (s.forget tx) = s.forget tx := rfl
    by_cases hno : x.k.state = 2 ∨ (aget tx s.tab.waits).isSome = true
    · rw [if_pos hno]
      by_cases h2 : x.k.state = 2
      · rw [h2] at HWK d0
        clear H c0 hx hl hm nilS hW d1 d2 hxa hw hwl h3 hmz hq hno h2 hgo hb3 HDC
        go_enter Tryz.func25, Tryz.ntmps25
        go_wp2_with first
          | (go_at_call 47; refine HWA.out.mono ?_; clear HWA; rintro e w1 ⟨rfl, hk1⟩; have HK1 := hid (hk1.alloc (.cells #[.int .u8 (qa.toNat : Int), .int .u8 (qb.toNat : Int), .int .u8 (qc.toNat : Int), .int .u8 (qd.toNat : Int)] 33)); obtain ⟨z0, z1, z2⟩ := HWK.out _ HK1.out; have HF2 := hid (HFG.out _ HK1.out); have HKD1 := hid (HKD.out _ HK1.out); clear HWK HFG HKD HK1 hk1)
          | (go_at_call 48; refine HF2.out.mono ?_; clear HF2; rintro e w2 ⟨rfl, hS2, hkd2⟩)
        go_returns
        exact ⟨_, rfl, NS.out _, hS2, HKD1.out.trans hkd2 (fun _ hx => hx)⟩
      · have hi := hno.resolve_left h2
        rw [hi] at HWA
        have hb2 : (x.k.state == 2) = false := by simpa using h2
        clear H c0 hx hl hm nilS hW d1 d2 hxa hw hwl h3 hmz hq hno hi h2 hgo HDC
        go_enter Tryz.func25, Tryz.ntmps25
        go_wp2_with first
          | (go_at_call 47; refine HWA.out.mono ?_; clear HWA; rintro e w1 ⟨rfl, hk1⟩; have HK1 := hid (hk1.alloc (.cells #[.int .u8 (qa.toNat : Int), .int .u8 (qb.toNat : Int), .int .u8 (qc.toNat : Int), .int .u8 (qd.toNat : Int)] 33)); obtain ⟨z0, z1, z2⟩ := HWK.out _ HK1.out; have HF2 := hid (HFG.out _ HK1.out); have HKD1 := hid (HKD.out _ HK1.out); clear HWK HFG HKD HK1 hk1)
          | (go_at_call 48; refine HF2.out.mono ?_; clear HF2; rintro e w2 ⟨rfl, hS2, hkd2⟩)
        go_returns
        exact ⟨_, rfl, NS.out _, hS2, HKD1.out.trans hkd2 (fun _ hx => hx)⟩
    · rw [if_neg hno]
      obtain ⟨hs2, hwn⟩ := not_or.1 hno
      have hwf : (aget tx s.tab.waits).isSome = false := by simpa using hwn
      rw [hwf] at HWA
      have hb2 : (x.k.state == 2) = false := by simpa using hs2
      by_cases hz : x.k.ws.length = 0
      · rw [if_pos hz]
        have hbz : ((x.k.ws.length : Int) == 0) = true := by simp [hz]
        clear H c0 hx hl hm nilS hW d1 d2 hxa hw hwl h3 hmz hq hno hs2 hwn hwf hz hgo
        go_enter Tryz.func25, Tryz.ntmps25
        go_wp2_with first
          | (go_at_call 47; refine HWA.out.mono ?_; clear HWA; rintro e w1 ⟨rfl, hk1⟩; have HK1 := hid (hk1.alloc (.cells #[.int .u8 (qa.toNat : Int), .int .u8 (qb.toNat : Int), .int .u8 (qc.toNat : Int), .int .u8 (qd.toNat : Int)] 33)); obtain ⟨z0, z1, z2⟩ := HWK.out _ HK1.out; have HF2 := hid (HFG.out _ HK1.out); have HKD1 := hid (HKD.out _ HK1.out); have HDC1 := hid (HDC.out _ HK1.out); clear HWK HFG HKD HDC HK1 hk1)
          | (go_at_call 49; refine HDC1.out.mono ?_; clear HDC1; rintro e w2 ⟨rfl, rfl⟩)
          | (go_at_call 48; refine HF2.out.mono ?_; clear HF2; rintro e w2 ⟨rfl, hS2, hkd2⟩)
        go_returns
        exact ⟨_, rfl, NS.out _, hS2, HKD1.out.trans hkd2 (fun _ hx => hx)⟩
      · rw [if_neg hz]
        have hbz : ((x.k.ws.length : Int) == 0) = false := by simpa using hz
        obtain ⟨ba, bc, rfl, _⟩ := H.base.at'.ex
        have HSET := hid (fun W (hK : Kept [] w W) => show W.frozen? ⟨x.b, 0, none⟩ = false ∧ StoIs (W.setCell ⟨x.b, 0, none⟩ (.int .i64 3)) D A M L (.slice ba s.base.length bc) (aput tx (⟨x.b, x.d, x.m, ⟨3, x.k.err, x.k.ws⟩⟩ : So) ws) ⟨s.base, s.tab, aput tx ⟨3, x.k.err, x.k.ws⟩ s.works⟩ ∧ WrkIs (W.setCell ⟨x.b, 0, none⟩ (.int .i64 3)) ⟨x.b, x.d, x.m, ⟨3, x.k.err, x.k.ws⟩⟩ ∧ KD D w (W.setCell ⟨x.b, 0, none⟩ (.int .i64 3)) from by
          have HW := hW.kept hK (fun b hb => by simp)
          have H1 := H.kept hK (fun x hx => by cases hx)
          have hk1 : Kept [x.b] W (W.setCell ⟨x.b, 0, none⟩ (.int .i64 3)) := (Kept.refl _ W).setCell (.inl (by simp)) _
          have hnd := hW.nd
          simp only [So.bs, List.nodup_cons, List.mem_cons, List.not_mem_nil, or_false, not_or] at hnd
          have hW1 : WrkIs (W.setCell ⟨x.b, 0, none⟩ (.int .i64 3)) ⟨x.b, x.d, x.m, ⟨3, x.k.err, x.k.ws⟩⟩ :=
            ⟨by simpa using heap_putS HW.blk 0 (.int .i64 3), HW.dr.kept hk1 (by simp; exact fun e => hnd.1.1 e.symm) (by simp; exact fun e => hnd.1.2 e.symm), hW.kn, hW.nd⟩
          have hkx : Kept x.bs W (W.setCell ⟨x.b, 0, none⟩ (.int .i64 3)) := hk1.mono (by simp [So.bs])
          exact ⟨HW.frz 0, H1.turn hxa (x' := ⟨x.b, x.d, x.m, ⟨3, x.k.err, x.k.ws⟩⟩) rfl hW1 hkx, hW1, (hK.kd' H.dlt).trans (H1.kdw (fun b hb => smem_bs (tget_mem hxa) hb) hkx) (fun _ hx => hx)⟩)
        have HRI := hid recInfo
        obtain ⟨RL, hRL⟩ : ∃ RL, RL = recsP tx s.base (keysP (x.k.ws.map toPr)) := ⟨_, rfl⟩
        have hRn : RL.length ≤ 1000 := by
          have := keysP_len (x.k.ws.map toPr)
          subst hRL
          simp only [recsP, List.length_map] at this ⊢
          simp only [List.length_map] at hwl
          omega
        have HRE := hid (fun W (hW' : DraftIs W x.d x.m x.k.ws) (hb : PrAt W (.slice ba s.base.length bc) s.base) => recs_any x.d x.m x.k.ws tx (.slice ba s.base.length bc) s.base W hW' hW.kn hwl hb)
        rw [← hRL] at HRE ⊢
        have HHS := hid H.base.sp
        clear H c0 hx hl hm nilS hW d1 d2 hxa hw hwl h3 hmz hq hno hs2 hwn hwf hz hgo hRL HFG HKD HS
        go_enter Tryz.func25, Tryz.ntmps25
        go_wp2_with first
          | (go_at_call 47; refine HWA.out.mono ?_; clear HWA; rintro e w1 ⟨rfl, hk1⟩; have HK1 := hid (hk1.alloc (.cells #[.int .u8 (qa.toNat : Int), .int .u8 (qb.toNat : Int), .int .u8 (qc.toNat : Int), .int .u8 (qd.toNat : Int)] 33)); obtain ⟨z0, z1, z2⟩ := HWK.out _ HK1.out; obtain ⟨fz, hs1, hs2, hs3⟩ := HSET.out _ HK1.out; have HS1 := hid hs1; have HS2 := hid hs2; have HKD1 := hid hs3; have HDC1 := hid (HDC.out _ HK1.out); clear HWK HSET HDC HK1 hk1 hs1 hs2 hs3)
          | (go_at_call 49; refine HDC1.out.mono ?_; clear HDC1; rintro e w2 ⟨rfl, rfl⟩)
        generalize (w1.alloc (.cells #[.int .u8 (qa.toNat : Int), .int .u8 (qb.toNat : Int), .int .u8 (qc.toNat : Int), .int .u8 (qd.toNat : Int)] 33)).setCell ⟨x.b, 0, none⟩ (.int .i64 3) = wz at *
        clear z0 z1 z2 fz d0 c1
        obtain ⟨c0, c1, c2⟩ := HS1.out.cells
        obtain ⟨d0, d1, d2⟩ := HS2.out.cells
        clear c1 c2 d0 d1
        -- [rows vote16]
        refine wp_region_rows_tail 10 (yieldDen [.eq (.pointer (some ⟨x.b, 0, none⟩)), .eq (.pointer (some ⟨x.b, 0, none⟩)), .eq (.pointer (some ⟨x.b, 2, none⟩)), .eq (.pointer (some ⟨x.d, 0, none⟩)), .eq (.int .i64 tx), .eq (.pointer (some ⟨A, 0, none⟩)), .eq (.pointer (some ⟨A, 0, none⟩)), .eq (.pointer (some ⟨A, 0, none⟩)), .eq (.slice ba s.base.length bc), .is (fun v w' => RecN wz.heap.size RL v w') (fun v w w' hk h => RecN.kept hk h)]) (fun w' => Kept [] wz w') (Kept []) (by kernel_rfl) (fun j v w w' h h' => yieldDen_kept _ j v w w' h h') (fun w => Kept.refl [] w) (by kernel_rfl) (by kernel_rfl) (by kernel_rfl) (by kernel_rfl) (by kernel_rfl) (by kernel_rfl) ((Kept.refl [] wz).drew) ?_ ?_
        · skip
          refine AllUpto.cons (n := 9) (k := 0) ?_ ?_
          · intro a w' hC hO hd
            rw [if_pos (wanted_none rfl)]
            have p9 : a.tmps[9]? = some (.pointer (some ⟨x.b, 0, none⟩)) := hO.at (by kernel_rfl) rfl
            clear hd hO
            refine pure_step (.pointer (some ⟨x.b, 0, none⟩)) rfl hC (Kept.refl _ _) ?_
            go_simp
          refine AllUpto.cons (n := 8) (k := 1) ?_ ?_
          · intro a w' hC hO hd
            obtain ⟨x65, e65, r65⟩ := hd ⟨0, .data⟩ (by simp) rfl _ _ rfl rfl
            obtain rfl : x65 = .pointer (some ⟨x.b, 0, none⟩) := r65
            rw [if_pos (wanted_none rfl)]
            clear hd hO
            refine pure_step (.pointer (some ⟨x.b, 0, none⟩)) rfl hC (Kept.refl _ _) ?_
            go_simp
          refine AllUpto.cons (n := 7) (k := 2) ?_ ?_
          · intro a w' hC hO hd
            obtain ⟨x66, e66, r66⟩ := hd ⟨1, .data⟩ (by simp) rfl _ _ rfl rfl
            obtain rfl : x66 = .pointer (some ⟨x.b, 0, none⟩) := r66
            rw [if_pos (wanted_none rfl)]
            clear hd hO
            refine pure_step (.pointer (some ⟨x.b, 2, none⟩)) rfl hC (Kept.refl _ _) ?_
            go_simp
          refine AllUpto.cons (n := 6) (k := 3) ?_ ?_
          · intro a w' hC hO hd
            obtain ⟨x67, e67, r67⟩ := hd ⟨2, .data⟩ (by simp) rfl _ _ rfl rfl
            obtain rfl : x67 = .pointer (some ⟨x.b, 2, none⟩) := r67
            rw [if_pos (wanted_none rfl)]
            have y1 := hC.cell d2 (by simp)
            clear hd hO
            refine pure_step (.pointer (some ⟨x.d, 0, none⟩)) rfl hC (Kept.refl _ _) ?_
            go_simp
          refine AllUpto.cons (n := 5) (k := 4) ?_ ?_
          · intro a w' hC hO hd
            rw [if_pos (wanted_none rfl)]
            have p1 : a.tmps[1]? = some (.int .i64 tx) := hO.at (by kernel_rfl) rfl
            clear hd hO
            refine pure_step (.int .i64 tx) rfl hC (Kept.refl _ _) ?_
            go_simp
          refine AllUpto.cons (n := 4) (k := 5) ?_ ?_
          · intro a w' hC hO hd
            rw [if_pos (wanted_none rfl)]
            have p0 : a.tmps[0]? = some (.pointer (some ⟨A, 0, none⟩)) := hO.at (by kernel_rfl) rfl
            clear hd hO
            refine pure_step (.pointer (some ⟨A, 0, none⟩)) rfl hC (Kept.refl _ _) ?_
            go_simp
          refine AllUpto.cons (n := 3) (k := 6) ?_ ?_
          · intro a w' hC hO hd
            obtain ⟨x70, e70, r70⟩ := hd ⟨5, .data⟩ (by simp) rfl _ _ rfl rfl
            obtain rfl : x70 = .pointer (some ⟨A, 0, none⟩) := r70
            rw [if_pos (wanted_none rfl)]
            clear hd hO
            refine pure_step (.pointer (some ⟨A, 0, none⟩)) rfl hC (Kept.refl _ _) ?_
            go_simp
          refine AllUpto.cons (n := 2) (k := 7) ?_ ?_
          · intro a w' hC hO hd
            obtain ⟨x71, e71, r71⟩ := hd ⟨6, .data⟩ (by simp) rfl _ _ rfl rfl
            obtain rfl : x71 = .pointer (some ⟨A, 0, none⟩) := r71
            rw [if_pos (wanted_none rfl)]
            clear hd hO
            refine pure_step (.pointer (some ⟨A, 0, none⟩)) rfl hC (Kept.refl _ _) ?_
            go_simp
          refine AllUpto.cons (n := 1) (k := 8) ?_ ?_
          · intro a w' hC hO hd
            obtain ⟨x72, e72, r72⟩ := hd ⟨7, .data⟩ (by simp) rfl _ _ rfl rfl
            obtain rfl : x72 = .pointer (some ⟨A, 0, none⟩) := r72
            rw [if_pos (wanted_none rfl)]
            have y1 := hC.cell c0 (by simp)
            clear hd hO
            refine pure_step (.slice ba s.base.length bc) rfl hC (Kept.refl _ _) ?_
            go_simp
          refine AllUpto.cons (n := 0) (k := 9) ?_ ?_
          · intro a w' hC hO hd
            obtain ⟨x68, e68, r68⟩ := hd ⟨3, .data⟩ (by simp) rfl _ _ rfl rfl
            obtain rfl : x68 = .pointer (some ⟨x.d, 0, none⟩) := r68
            obtain ⟨x69, e69, r69⟩ := hd ⟨4, .data⟩ (by simp) rfl _ _ rfl rfl
            obtain rfl : x69 = .int .i64 tx := r69
            obtain ⟨x73, e73, r73⟩ := hd ⟨8, .data⟩ (by simp) rfl _ _ rfl rfl
            obtain rfl : x73 = .slice ba s.base.length bc := r73
            rw [if_pos (wanted_none rfl)]
            clear hd hO
            go_simp
            refine (HRE.out w' (HS2.out.dr.kept hC (by simp) (by simp)) (HS1.out.base.kept hC)).mono ?_
            rintro e y ⟨v2, rfl, ho2, hk⟩
            obtain ⟨ra, rc, rfl⟩ := ownsRow_slice ho2
            exact ⟨_, rfl, ⟨⟨_, _, rfl⟩, ownsRow_base ho2 hC.size⟩, hC.trans hk (fun x hx => .inl hx), hk⟩
          exact AllUpto.nil
        · intro a' w4 hC hO hrows
          obtain ⟨xv, ev, rv⟩ := hrows 9 (by decide) _ _ rfl rfl
          obtain ⟨us, hus, ha⟩ := hO.lit rfl [false, false, false, false, false, false, false, false, false, false, false, false, true, false, false, false, false, false, false, false, false, false, false, false, false, false, false, false, false, false, false, false, false, false, false, false, false, false, false, false, false, false, false, false, false, false, false, false, false, false, false, false, false, false, false, false, false, false, false, false, false, false, false, false, false, true, true, true, true, true, true, true, true, true, true, false, false, false, false, false, false] (by kernel_rfl)
          have uv := hus 74 _ rfl ev
          clear hrows hO hus ev
          subst ha
          simp only [merge, Nat.reduceAdd, uv, List.drop_succ_cons, List.drop_zero]
          clear uv
          obtain ⟨⟨ra, rc, rfl⟩, ho⟩ := show (∃ pa pc, xv = .slice pa _ pc) ∧ _ from rv
          have HO := hid ho
          have hsz := hC.size
          have HC4 := hid hC
          clear ho rv hC c0 d2
        -- [end rows]
          go_wp2_with (at_builtin; refine wpList_append_is rfl _ _ 61 rfl 65 _ 11 56 Tryz.underlying61 HRI.out rfl (by decide) (by decide) wz.heap.size _ RL.length _ rfl (HO.out.alloc _) _ 1 1 (Rc.f ⟨2, tx, mask, ⟨0, 0, 0, 0⟩, V.zero, V.zero⟩) rfl rfl (fun j u h => cells_new _ (Rc.f ⟨2, tx, mask, ⟨0, 0, 0, 0⟩, V.zero, V.zero⟩) _ j u h) (by simp [Rc.f, Value.oneCell']) (by omega) (by simp; omega) ?_; intro v' w5 hown5 hgrow hnil; have HK5 := hid ((HC4.out.alloc (.cells (Rc.f ⟨2, tx, mask, ⟨0, 0, 0, 0⟩, V.zero, V.zero⟩).toArray 65)).grown_own (HO.out.alloc _) hgrow (Nat.le_refl _)))
          go_returns
          refine ⟨_, rfl, ?_, ⟨M, L, _, _, HS1.out.kept HK5.out (fun x hx => by cases hx)⟩, HKD1.out.trans (HK5.out.kd' HS1.out.dlt) (fun _ hx => hx)⟩
          have := SlAt.of_own hown5
          rw [List.flatMap_append, List.length_append]
          simpa using this
--@@ end
--@@ (*store.Store).passed$1
def CntC {α : Type} [DecidableEq α] (w0 : World) (b : Nat) (ek : α → Value) (ks ks' : List α) (w : World) : Prop := Kept [b] w0 w ∧ (CntIs w b ek ks ∨ CntIs w b ek ks')
theorem zeroIK : ∀ w, (zeroValue 3).run Tryz.prog w = .ok (.int .i64 0) w := fun w => by kernel_rfl
theorem cnt_get {l : List (K4 × Value)} (h : ∀ p ∈ l, ∃ n, p.2 = .int .i64 n) (x : K4) : ∃ n, (aget x l).getD (.int .i64 0) = .int .i64 n := by
  cases hg : aget x l with
  | none => exact ⟨0, rfl⟩
  | some u => obtain ⟨n, hn⟩ := h _ (tget_mem hg); exact ⟨n, hn⟩
theorem addK_again (ks : List K4) (x : K4) : addK (addK ks x) x = addK ks x := by
  have h : x ∈ addK ks x := addK_mem.2 (.inr rfl)
  exact (show addK (addK ks x) x = if x ∈ addK ks x then addK ks x else addK ks x ++ [x] from rfl).trans (if_pos h)
theorem cnt_entry {w0 w : World} {b : Nat} {ks : List K4} {x : K4} {t et : TypeId} (h : CntC w0 b K4.v ks (addK ks x) w) (ht : Tryz.prog.underlying t = some (.map 33 et)) (hz : (zeroValue et).run Tryz.prog w = .ok (.int .i64 0) w) :
    ∃ n st w', (Instr.mapEntry t (.map (some b)) x.v).run Tryz.prog w = .ok (.tuple #[.int .i64 n, goInt (st : Nat)]) w' ∧ CntC w0 b K4.v ks (addK ks x) w' ∧ EntD b K4.v x (addK ks x) w' st ∧ EntG b K4.v x (addK ks x) w w' := by
  have key : ∀ ks', addK ks' x = addK ks x → CntIs w b K4.v ks' → ∃ n st w', (Instr.mapEntry t (.map (some b)) x.v).run Tryz.prog w = .ok (.tuple #[.int .i64 n, goInt (st : Nat)]) w' ∧ CntC w0 b K4.v ks (addK ks x) w' ∧ EntD b K4.v x (addK ks x) w' st ∧ EntG b K4.v x (addK ks x) w w' := fun ks' he ⟨l, hm, hk, hn⟩ => by
    obtain ⟨st, w', hr, hE, hk1, hu⟩ := hm.run_entry keyK ht hz x
    obtain ⟨n, hg⟩ := cnt_get hn x
    rw [hg] at hr hE
    have hkeys : (aput x (.int .i64 n) l).map (·.1) = addK ks x := by rw [aput_keys, hk, ← he]; rfl
    have hnum : ∀ p ∈ aput x (.int .i64 n) l, ∃ n, p.2 = .int .i64 n := fun p hp => by
      rcases mem_aput' hp with rfl | hp
      · exact ⟨n, rfl⟩
      · exact hn p hp
    refine ⟨n, st, w', hr, ⟨h.1.trans hk1 (fun x hx => .inl hx), .inr ⟨_, hE.map, hkeys, hnum⟩⟩, ⟨_, hE, hkeys, hnum⟩, hk1, fun st' hd => ?_⟩
    obtain ⟨l2, hE2, _⟩ := hd
    rw [hu st' l2 hE2]
    exact ⟨_, hE, hkeys, hnum⟩
  rcases h.2 with h2 | h2
  · exact key ks rfl h2
  · exact key _ (addK_again ks x) h2
theorem cnt_put {w w' : World} {b : Nat} {ks : List K4} {x : K4} {l : List (K4 × Value)} {n : Int} (h : MapIs w b K4.v (aput x (.int .i64 n) l)) (hm : MapIs w' b K4.v l) (hk : l.map (·.1) = addK ks x) (hn : ∀ p ∈ l, ∃ n, p.2 = .int .i64 n) : CntIs w b K4.v (addK ks x) := by
  refine ⟨_, h, ?_, fun p hp => ?_⟩
  · rw [aput_keys, hk, if_pos (addK_mem.2 (.inr rfl))]
  · rcases mem_aput' hp with rfl | hp
    · exact ⟨n, rfl⟩
    · exact hn p hp
set_option maxRecDepth 100000 in
set_option maxHeartbeats 4000000 in
theorem passed1_any {w : World} (B b : Nat) (v : Value) (l : List Pr) (ks : List K4) (hB : w.heap[B]? = some (.cells #[.map (some b)] 146 (0, 0))) (hm : CntIs w b K4.v ks) (hv : PrAt w v l) (hne : B ≠ b) (hll : l.length ≤ 1000000) :
    Calls Tryz.prog 90 (#[v] ++ #[.pointer (some ⟨B, 0, none⟩)]) w fun e w' => e = .returned (.tuple #[]) ∧ CntIs w' b K4.v ((thereK l).foldl addK ks) ∧ Kept [b] w w' := by
  obtain ⟨a1, c1, rfl, _, _, hcs⟩ := hv.at'.ex
  have HV := hid hv
  have HC := hid hcs
  have HBB := hid hB
  have HM := hid hm
  have hbl := (Array.getElem?_eq_some_iff.1 hB).1
  clear hv hcs hB hm
  simp only [List.append_toArray, List.cons_append, List.nil_append]
  go_enter Tryz.func90, Tryz.ntmps90
  go_wp2
  go_loopg [7] l.length (fun kx s7 wr => ∃ k : Nat, s7 = .int .i64 k ∧ k ≤ l.length ∧ l.length - k ≤ kx ∧ Aside (CntIs wr b K4.v ((thereK (l.take k)).foldl addK ks)) ∧ Aside (Kept [b] w wr))
  case atStart => exact ⟨0, by first | rfl | go_num, by omega, by omega, by show CntIs _ _ _ _; simpa [thereK] using HM.out, Kept.refl _ _⟩
  case round =>
    obtain ⟨k, rfl, hk, hkx, HO, HK1⟩ := hrel
    by_cases hlt : k < l.length
    · have hltz : (k : Int) < (l.length : Int) := by omega
      obtain ⟨bb, off, rfl, hb, hcs⟩ := HC.out (by omega)
      have hfar : bb ≠ b := fun e => by
        obtain ⟨L, hL, _⟩ := HM.out
        exact HV.out.far (small_map hL) _ _ _ rfl (by omega) e
      have hcW : ∀ j u, (l.flatMap Pr.f)[j]? = some u → wr.cell? ⟨bb, off + j, none⟩ = some u := fun j u hj => HK1.out.cell (hcs j u hj) (by simpa using hfar)
      obtain ⟨e0, e1, e2, e3, e4, e5⟩ := pair_cells hcW hlt
      have HT := hid (show l.take (k + 1) = l.take k ++ [l[k]] by rw [List.take_succ_eq_append_getElem hlt])
      have hBw : wr.heap[B]? = some (.cells #[.map (some b)] 146 (0, 0)) := (HK1.out.block B hbl (by simpa using hne)).trans HBB.out
      have HBW := hid hBw
      clear hcW hcs hBw
      generalize l[k] = x at *
      obtain ⟨⟨x1, x2, x3, x4⟩, ⟨x5, x6⟩⟩ := x
      dsimp only at e0 e1 e2 e3 e4 e5
      cases x5
      · have HK2 := hid ((HK1.out.alloc (.cells #[.int .u8 (x1.toNat : Int), .int .u8 (x2.toNat : Int), .int .u8 (x3.toNat : Int), .int .u8 (x4.toNat : Int), .bool false, .int .i64 x6] 59)))
        have HO2 := hid (HO.out.kept ((Kept.refl [] wr).alloc (.cells #[.int .u8 (x1.toNat : Int), .int .u8 (x2.toNat : Int), .int .u8 (x3.toNat : Int), .int .u8 (x4.toNat : Int), .bool false, .int .i64 x6] 59)) (by simp))
        go_wp2
        go_roundg (l.length - (k + 1))
        case measure => omega
        case rel => exact ⟨k + 1, by first | rfl | go_num, by omega, by omega, by show CntIs _ _ _ _; rw [HT.out, thereK_append]; simpa [thereK] using HO2.out, HK2.out⟩
      · go_wp2
        have HS := hid (fun W (hK : Kept [b] (wr.alloc (.cells #[.int .u8 (x1.toNat : Int), .int .u8 (x2.toNat : Int), .int .u8 (x3.toNat : Int), .int .u8 (x4.toNat : Int), .bool true, .int .i64 x6] 59)) W) =>
          have hlb : ([b] : List Nat).contains wr.heap.size = false := by
            obtain ⟨L, hL, _⟩ := HO.out
            have := hL.lt
            simp; omega
          have nc := new_cell wr [.int .u8 (x1.toNat : Int), .int .u8 (x2.toNat : Int), .int .u8 (x3.toNat : Int), .int .u8 (x4.toNat : Int), .bool true, .int .i64 x6] 59
          show W.cell? ⟨wr.heap.size, 0, none⟩ = some (.int .u8 (x1.toNat : Int)) ∧ W.cell? ⟨wr.heap.size, 1, none⟩ = some (.int .u8 (x2.toNat : Int)) ∧ W.cell? ⟨wr.heap.size, 2, none⟩ = some (.int .u8 (x3.toNat : Int)) ∧ W.cell? ⟨wr.heap.size, 3, none⟩ = some (.int .u8 (x4.toNat : Int)) from
          ⟨hK.cell (nc 0 _ rfl) (by simpa using hlb), hK.cell (nc 1 _ rfl) (by simpa using hlb), hK.cell (nc 2 _ rfl) (by simpa using hlb), hK.cell (nc 3 _ rfl) (by simpa using hlb)⟩)
        obtain ⟨kn, hkn⟩ : ∃ kn, kn = (thereK (l.take k)).foldl addK ks := ⟨_, rfl⟩
        rw [← hkn] at HO
        have HKN := hid hkn
        have HBX := hid (fun W (hK : Kept [b] (wr.alloc (.cells #[.int .u8 (x1.toNat : Int), .int .u8 (x2.toNat : Int), .int .u8 (x3.toNat : Int), .int .u8 (x4.toNat : Int), .bool true, .int .i64 x6] 59)) W) =>
          have hBl := (Array.getElem?_eq_some_iff.1 HBW.out).1
          have h1 : (wr.alloc (.cells #[.int .u8 (x1.toNat : Int), .int .u8 (x2.toNat : Int), .int .u8 (x3.toNat : Int), .int .u8 (x4.toNat : Int), .bool true, .int .i64 x6] 59)).heap[B]? = some (.cells #[.map (some b)] 146 (0, 0)) := (((Kept.refl [] wr).alloc _).block B hBl (by simp)).trans HBW.out
          show W.cell? ⟨B, 0, none⟩ = some (.map (some b)) from hK.cell (by simp [World.cell?, h1]) (by simpa using hne))
        have HO2 := hid (HO.out.kept ((Kept.refl [] wr).alloc (.cells #[.int .u8 (x1.toNat : Int), .int .u8 (x2.toNat : Int), .int .u8 (x3.toNat : Int), .int .u8 (x4.toNat : Int), .bool true, .int .i64 x6] 59)) (by simp))
        have HK2 := hid ((HK1.out.alloc (.cells #[.int .u8 (x1.toNat : Int), .int .u8 (x2.toNat : Int), .int .u8 (x3.toNat : Int), .int .u8 (x4.toNat : Int), .bool true, .int .i64 x6] 59)))
        clear e0 e1 e2 e3 e4 e5 hkn HO
        generalize hwz : wr.alloc (.cells #[.int .u8 (x1.toNat : Int), .int .u8 (x2.toNat : Int), .int .u8 (x3.toNat : Int), .int .u8 (x4.toNat : Int), .bool true, .int .i64 x6] 59) = wz at *
        have HCC := hid (show CntC wz b K4.v kn (addK kn ⟨x1, x2, x3, x4⟩) wz.drew from ⟨(Kept.refl _ _).drew, .inl (HO2.out.kept (S := []) ((Kept.refl [] _).drew) (by simp))⟩)
        -- [rows passed4]
        refine wp_region_rows_tail 7 (yieldDenG [.eq (.map (some b)), .eq (.pointer (some ⟨wr.heap.size, 0, none⟩)), .eq (.agg #[.int .u8 (x1.toNat : Int), .int .u8 (x2.toNat : Int), .int .u8 (x3.toNat : Int), .int .u8 (x4.toNat : Int)]), .is (fun v _ => ∃ n, v = .int .i64 n) (fun _ _ _ _ h => h), .is (fun v _ => ∃ n, v = .int .i64 n) (fun _ _ _ _ h => h), .is (fun v w' => ∃ n st, v = .tuple #[.int .i64 n, goInt (st : Nat)] ∧ EntD b K4.v ⟨x1, x2, x3, x4⟩ (addK kn ⟨x1, x2, x3, x4⟩) w' st) (fun v w w' hg h => by obtain ⟨n, st, h1, h2⟩ := h; exact ⟨n, st, h1, hg.2 st h2⟩), .is (fun v w' => ∃ st, v = goInt (st : Nat) ∧ EntD b K4.v ⟨x1, x2, x3, x4⟩ (addK kn ⟨x1, x2, x3, x4⟩) w' st) (fun v w w' hg h => by obtain ⟨st, h1, h2⟩ := h; exact ⟨st, h1, hg.2 st h2⟩)]) (fun w' => CntC wz b K4.v kn (addK kn ⟨x1, x2, x3, x4⟩) w') (EntG b K4.v ⟨x1, x2, x3, x4⟩ (addK kn ⟨x1, x2, x3, x4⟩)) (by kernel_rfl) (fun j v w w' h h' => yieldDenG_kept _ j v w w' h h') (fun w => EntG.refl w) (by kernel_rfl) (by kernel_rfl) (by kernel_rfl) (by kernel_rfl) (by kernel_rfl) (by kernel_rfl) HCC.out ?_ ?_
        · skip
          refine AllUpto.cons (n := 6) (k := 0) ?_ ?_
          · intro a w' hC hO hd
            rw [if_pos (wanted_none rfl)]
            have p1 : a.tmps[1]? = some (.pointer (some ⟨B, 0, none⟩)) := hO.at (by kernel_rfl) rfl
            have y1 := HBX.out w' hC.1
            clear hd hO
            refine pure_step (.map (some b)) rfl hC (EntG.refl _) ?_
            go_simp
          refine AllUpto.cons (n := 5) (k := 1) ?_ ?_
          · intro a w' hC hO hd
            rw [if_pos (wanted_none rfl)]
            have p4 : a.tmps[4]? = some (.pointer (some ⟨wr.heap.size, 0, none⟩)) := hO.at (by kernel_rfl) rfl
            clear hd hO
            refine pure_step (.pointer (some ⟨wr.heap.size, 0, none⟩)) rfl hC (EntG.refl _) ?_
            go_simp
          refine AllUpto.cons (n := 4) (k := 2) ?_ ?_
          · intro a w' hC hO hd
            obtain ⟨x15, e15, r15⟩ := hd ⟨1, .data⟩ (by simp) rfl _ _ rfl rfl
            obtain rfl : x15 = .pointer (some ⟨wr.heap.size, 0, none⟩) := r15
            rw [if_pos (wanted_none rfl)]
            obtain ⟨y0, y1, y2, y3⟩ := HS.out w' hC.1
            clear hd hO
            refine pure_step (.agg #[.int .u8 (x1.toNat : Int), .int .u8 (x2.toNat : Int), .int .u8 (x3.toNat : Int), .int .u8 (x4.toNat : Int)]) rfl hC (EntG.refl _) ?_
            go_simp
          refine AllUpto.cons (n := 3) (k := 3) ?_ ?_
          · intro a w' hC hO hd
            obtain ⟨x14, e14, r14⟩ := hd ⟨0, .data⟩ (by simp) rfl _ _ rfl rfl
            obtain rfl : x14 = .map (some b) := r14
            obtain ⟨x16, e16, r16⟩ := hd ⟨2, .data⟩ (by simp) rfl _ _ rfl rfl
            obtain rfl : x16 = .agg #[.int .u8 (x1.toNat : Int), .int .u8 (x2.toNat : Int), .int .u8 (x3.toNat : Int), .int .u8 (x4.toNat : Int)] := r16
            rw [if_pos (wanted_none rfl)]
            clear hd hO
            obtain ⟨l3, hm3, hn3⟩ : ∃ l3, MapIs w' b K4.v l3 ∧ ∀ p ∈ l3, ∃ n, p.2 = .int .i64 n := hC.2.elim (fun ⟨l, h1, _, h3⟩ => ⟨l, h1, h3⟩) (fun ⟨l, h1, _, h3⟩ => ⟨l, h1, h3⟩)
            obtain ⟨n3, hg3⟩ : ∃ n, (aget (⟨x1, x2, x3, x4⟩ : K4) l3).getD (.int .i64 0) = .int .i64 n := cnt_get hn3 _
            have hL3 := hm3.run_lookup keyK Tryz.underlying146 (zeroIK w') (⟨x1, x2, x3, x4⟩ : K4) false
            rw [hg3] at hL3
            simp only [K4.v] at hL3
            clear hm3 hn3 hg3
            refine pure_step (.int .i64 n3) ⟨_, rfl⟩ hC (EntG.refl _) ?_
            go_simp
          refine AllUpto.cons (n := 2) (k := 4) ?_ ?_
          · intro a w' hC hO hd
            obtain ⟨x17, e17, r17⟩ := hd ⟨3, .data⟩ (by simp) rfl _ _ rfl rfl
            obtain ⟨n17, rfl⟩ := r17
            rw [if_pos (wanted_none rfl)]
            clear hd hO
            refine pure_step (.int .i64 (IntKind.i64.wrap (n17 + 1))) ⟨_, rfl⟩ hC (EntG.refl _) ?_
            go_simp
          refine AllUpto.cons (n := 1) (k := 5) ?_ ?_
          · intro a w' hC hO hd
            obtain ⟨x14, e14, r14⟩ := hd ⟨0, .data⟩ (by simp) rfl _ _ rfl rfl
            obtain rfl : x14 = .map (some b) := r14
            obtain ⟨x16, e16, r16⟩ := hd ⟨2, .data⟩ (by simp) rfl _ _ rfl rfl
            obtain rfl : x16 = .agg #[.int .u8 (x1.toNat : Int), .int .u8 (x2.toNat : Int), .int .u8 (x3.toNat : Int), .int .u8 (x4.toNat : Int)] := r16
            rw [if_pos (wanted_none rfl)]
            clear hd hO
            obtain ⟨n5, st5, w5, hr5, hC5, hE5, hG5⟩ := cnt_entry hC Tryz.underlying146 (zeroIK w')
            simp only [K4.v] at hr5
            go_simp
            exact ⟨_, rfl, n5, st5, rfl, hE5⟩
          refine AllUpto.cons (n := 0) (k := 6) ?_ ?_
          · intro a w' hC hO hd
            obtain ⟨x19, e19, r19⟩ := hd ⟨5, .data⟩ (by simp) rfl _ _ rfl rfl
            obtain ⟨n19, st19, rfl, hd19⟩ := r19
            rw [if_pos (wanted_none rfl)]
            clear hd hO
            refine pure_step (goInt (st19 : Nat)) ⟨_, rfl, hd19⟩ hC (EntG.refl _) ?_
            go_simp
          exact AllUpto.nil
        · intro a' w4 hC hO hrows
          obtain ⟨xn, en, rn⟩ := hrows 4 (by decide) _ _ rfl rfl
          obtain ⟨xp, ep, rp⟩ := hrows 0 (by decide) _ _ rfl rfl
          obtain rfl : xp = .map (some b) := rp
          obtain ⟨xs, es, rs⟩ := hrows 6 (by decide) _ _ rfl rfl
          obtain ⟨us, hus, ha⟩ := hO.lit rfl [false, false, false, false, false, false, false, false, false, false, false, false, false, false, true, true, true, true, true, true, true, false] (by kernel_rfl)
          have un := hus 18 _ rfl en
          have up := hus 14 _ rfl ep
          have us := hus 20 _ rfl es
          clear hrows hO hus en ep es
          subst ha
          simp only [merge, Nat.reduceAdd, un, up, us, List.drop_succ_cons, List.drop_zero]
          clear un up us
          obtain ⟨n18, rfl⟩ := show ∃ n, xn = .int .i64 n from rn
          obtain ⟨st, rfl, l5, hE5, hks5, hns5⟩ := show ∃ st : Nat, xs = goInt st ∧ EntD b K4.v ⟨x1, x2, x3, x4⟩ (addK kn ⟨x1, x2, x3, x4⟩) w4 st from rs
          have hC4 := hid hC
          have hRS := fun v => hE5.run_store (P := Tryz.prog) (t := 146) v
          have HE5 := hid hE5
          have HKS := hid hks5
          have HNS := hid hns5
          clear hE5 hks5 hns5 rs rn hC
          obtain ⟨w6, hr6, hm6, hk6⟩ := hRS (.int .i64 n18)
          simp only [goInt] at hr6
          have HM6 := hid hm6
          have HK6 := hid hk6
          clear hRS hm6 hk6
          have hKeep : Kept [b] w w6 := (HK2.out.trans hC4.out.1 (fun x hx => .inl hx)).trans HK6.out (fun x hx => .inl hx)
          have hCnt : CntIs w6 b K4.v (addK kn ⟨x1, x2, x3, x4⟩) := cnt_put HM6.out HE5.out.map HKS.out HNS.out
          have HKeep := hid hKeep
          have HCnt := hid hCnt
          clear hKeep hCnt HM6 HE5 HKS HNS hC4 HK6 HCC
          go_wp2
          go_roundg (l.length - (k + 1))
          case measure => omega
          case rel => exact ⟨k + 1, by first | rfl | go_num, by omega, Nat.le_refl _, by show CntIs _ _ _ _; rw [HT.out, thereK_append, List.foldl_append, ← HKN.out]; exact HCnt.out, HKeep.out⟩
        -- [end rows]
    · have hke : k = l.length := by omega
      have hltz : ¬ (k : Int) < (l.length : Int) := by omega
      go_wp2
      subst hke
      rw [List.take_length] at HO
      go_returns
      exact ⟨rfl, HO.out, HK1.out⟩
--@@ end
theorem soP_perm {todo : List (Int × So)} {x : Int} {u : Value} {T : List (Int × Value)} (h : (soP todo).Perm ((x, u) :: T)) : ∃ so t', u = .pointer (some ⟨so.b, 0, none⟩) ∧ T = soP t' ∧ todo.Perm ((x, so) :: t') := by
  obtain ⟨t', h1, h2⟩ := perm_of_map (fun x : Int × So => (x.1, Value.pointer (some ⟨x.2.b, 0, none⟩))) h.symm todo rfl
  cases t' with
  | nil => cases h2
  | cons y t' =>
    simp only [List.map_cons, List.cons.injEq, Prod.mk.injEq] at h2
    obtain ⟨⟨rfl, rfl⟩, rfl⟩ := h2
    exact ⟨y.2, t', rfl, rfl, h1.symm⟩
theorem lastP_worksK {ws : List (K4 × V)} (hn : (ws.map (·.1)).Nodup) (k : K4) : lastP k (keysP (ws.map toPr)) = aget k ws := by
  rw [srt_lastP (keysP_srt _), keysP_get, lastP_works ws hn]
theorem mem_keysP_iff {ws : List (K4 × V)} (hn : (ws.map (·.1)).Nodup) {p : Pr} : p ∈ keysP (ws.map toPr) ↔ p ∈ ws.map toPr := by
  refine ⟨keysP_mem _, fun h => ?_⟩
  obtain ⟨y, hy, rfl⟩ := List.mem_map.1 h
  have h1 := lastP_worksK hn y.1
  rw [tget_of_mem hn (k := y.1) (v := y.2) hy, srt_lastP (keysP_srt _)] at h1
  exact getP_mem h1
def cntP (b l : List Pr) (acc : List (Int × So)) : List K4 := (acc.flatMap fun x => thereK (keysP (x.2.k.ws.map toPr))).foldl addK ((thereK l).foldl addK ((thereK b).foldl addK []))
theorem cntP_snoc (b l : List Pr) (acc : List (Int × So)) (x : Int × So) : cntP b l (acc ++ [x]) = (thereK (keysP (x.2.k.ws.map toPr))).foldl addK (cntP b l acc) := by
  unfold cntP
  rw [List.flatMap_append, List.foldl_append]
  simp
theorem cntP_len {s : Sp} {ws acc : List (Int × So)} (he : s.works = soK ws) (hp : acc.Perm ws) (hn : ∀ x ∈ ws, (x.2.k.ws.map (·.1)).Nodup) (l : List Pr) : (cntP s.base l acc).length = (distK (thereK (s.base ++ l ++ s.drafts))).length := by
  unfold cntP
  rw [← List.foldl_append, ← List.foldl_append]
  refine foldl_addK_len List.nodup_nil List.nodup_nil fun y => ?_
  refine or_congr Iff.rfl ?_
  simp only [thereK_append, List.mem_append, or_assoc]
  refine or_congr Iff.rfl (or_congr Iff.rfl ?_)
  rw [List.mem_flatMap, thereK_mem]
  unfold Sp.drafts
  rw [he]
  constructor
  · rintro ⟨x, hx, hy⟩
    obtain ⟨p, hp', ht, hk⟩ := thereK_mem.1 hy
    have hx' := hp.mem_iff.1 hx
    exact ⟨p, List.mem_flatMap.2 ⟨(x.1, x.2.k), List.mem_map.2 ⟨x, hx', rfl⟩, keysP_mem _ hp'⟩, ht, hk⟩
  · rintro ⟨p, hp', ht, hk⟩
    obtain ⟨z, hz, hpz⟩ := List.mem_flatMap.1 hp'
    obtain ⟨x, hx, rfl⟩ := List.mem_map.1 hz
    exact ⟨x, hp.mem_iff.2 hx, thereK_mem.2 ⟨p, (mem_keysP_iff (hn x hx)).2 hpz, ht, hk⟩⟩
--@@ (*store.Store).passed
set_option maxRecDepth 100000 in
set_option maxHeartbeats 4000000 in
theorem spassed_any {w : World} {D : Nat → Prop} {A : Nat} {s : Sp} (h : StoreAt w D A s) (hw : ∀ x ∈ s.works, x.2.ws.length ≤ 1000) (hb : s.base.length ≤ 10000) (v : Value) (l : List Pr) (hv : PrAt w v l) (hl : l.length ≤ 10000) :
    Calls Tryz.prog 57 #[.pointer (some ⟨A, 0, none⟩), v] w fun e w' => e = .returned (.bool (s.passed l)) ∧ Kept [] w w' := by
  obtain ⟨M, L, bv, ws, H⟩ := h
  obtain ⟨c0, c1, c2⟩ := H.cells
  obtain ⟨ba, bc, rfl, _⟩ := H.base.at'.ex
  obtain ⟨va, vc, rfl, _⟩ := hv.at'.ex
  have HH := hid H
  have HV := hid hv
  have hlt := H.lt
  have hAw := hlt A (.inr (.inl (by simp [stBs])))
  have hMw := hlt M (.inr (.inl (by simp [stBs])))
  have hwl : ∀ x ∈ ws, x.2.k.ws.length ≤ 1000 := fun x hx => hw (x.1, x.2.k) (by rw [H.eq]; exact List.mem_map.2 ⟨x, hx, rfl⟩)
  have HWL := hid hwl
  have hmm := @run_makeMap Tryz.prog
  clear H hv hlt hw hwl c1
  go_enter Tryz.func57, Tryz.ntmps57
  go_wp2_with (first
    | (go_at_call 90; refine Here.mk ?_))
  refine Here.of ?_
  have hbn : w.heap.size + 1 ≠ w.heap.size := by omega
  have hkA : Kept [] w ((w.alloc (.map #[] 0)).alloc (.cells #[.map (some w.heap.size)] 146)) := ((Kept.refl [] w).alloc _).alloc _
  have hBA : ((w.alloc (.map #[] 0)).alloc (.cells #[.map (some w.heap.size)] 146)).heap[w.heap.size + 1]? = some (.cells #[.map (some w.heap.size)] 146 (0, 0)) := by
    have := heap_alloc_new (w.alloc (.map #[] 0)) (.cells #[.map (some w.heap.size)] 146)
    simpa using this
  have hCA : CntIs ((w.alloc (.map #[] 0)).alloc (.cells #[.map (some w.heap.size)] 146)) w.heap.size K4.v [] := ⟨[], (MapIs.made w K4.v).alloc _, rfl, fun p hp => by cases hp⟩
  generalize hwA : (w.alloc (.map #[] 0)).alloc (.cells #[.map (some w.heap.size)] 146) = wA at *
  generalize hbq : w.heap.size = b at *
  refine (passed1_any (b + 1) b _ s.base [] hBA hCA (HH.out.base.kept hkA) hbn (by omega)).mono ?_
  rintro e w1 ⟨rfl, hC1, hk1⟩
  have hB1 := (hk1.block (b + 1) (Array.getElem?_eq_some_iff.1 hBA).1 (by simpa using hbn)).trans hBA
  have hkW1 : Kept [] w w1 := hkA.trans hk1 (fun x hx => .inr (by simp at hx; omega))
  clear hBA hCA hkA hk1
  have HB1 := hid hB1
  have HC1 := hid hC1
  have HK1 := hid hkW1
  clear hB1 hC1 hkW1 hwA
  go_wp2_with (first
    | (go_at_call 90; refine Here.mk ?_))
  refine Here.of ?_
  refine (passed1_any (b + 1) b _ l _ HB1.out HC1.out (HV.out.kept HK1.out) hbn (by omega)).mono ?_
  rintro e w2 ⟨rfl, hC2, hk2⟩
  have HB2 := hid ((hk2.block (b + 1) (Array.getElem?_eq_some_iff.1 HB1.out).1 (by simpa using hbn)).trans HB1.out)
  have HC2 := hid hC2
  have HK2 := hid (HK1.out.trans hk2 (fun x hx => .inr (by simp at hx; omega)))
  have y2 := HK2.out.cell c2 (by simp)
  clear hC2 hk2 HB1 HC1 HK1
  go_wp2_with (first
    | (at_range; refine wpList_range_is rfl _ 80 rfl _ _ Tryz.underlying80 rfl (HH.out.map.kept HK2.out (by simp)) ?_; intro w3 hR hk3 hsz3))
  go_frame
  have HR := hid hR
  have HK3 := hid (HK2.out.trans hk3 (fun x hx => by cases hx))
  have HC3 := hid (HC2.out.kept hk3 (by simp))
  have HB3 := hid ((hk3.block (b + 1) (Array.getElem?_eq_some_iff.1 HB2.out).1 (by simp)).trans HB2.out)
  have hb2 := (Array.getElem?_eq_some_iff.1 HB2.out).1
  have hMb : M < b := by omega
  have hw2 : w.heap.size ≤ w2.heap.size := HK2.out.size
  clear hR hk3 HC2 HB2 HK2 hmm c0 c2 y2
  go_loopg [8] ws.length (fun kx s8 wr => ∃ (todo acc : List (Int × So)), Aside (CntIs wr b K4.v (cntP s.base l acc)) ∧ Aside ((acc ++ todo).Perm ws) ∧ Aside (RangeIs wr M w2.heap.size (Value.int .i64) (soP todo)) ∧ Aside (Kept [] w wr) ∧ Aside (wr.heap[b + 1]? = some (.cells #[.map (some b)] 146 (0, 0))) ∧ todo.length ≤ kx)
  case atStart => exact ⟨ws, [], by show CntIs _ _ _ _; simpa [cntP] using HC3.out, List.Perm.refl _, HR.out, HK3.out, HB3.out, Nat.le_refl _⟩
  case round =>
    clear HR HC3 HB3 HK3
    obtain ⟨todo, acc, HC, HP, HR, HK, HB, hkx⟩ := hrel
    have yB : wr.cell? ⟨b + 1, 0, none⟩ = some (.map (some b)) := by simp [World.cell?, HB.out]
    obtain ⟨lm, hm, hks, hns⟩ := id HC
    have hln := fun ty => hm.run_len Tryz.underlying146 ty
    have hnc : lm.length = (cntP s.base l acc).length := by have := congrArg List.length hks; simpa using this
    generalize lm.length = nn at *
    have HNC := hid hnc
    have HC' := hid (show CntIs wr b K4.v (cntP s.base l acc) from HC)
    clear hm hks hns hnc HC
    go_wp2_with (first
      | (at_next; refine wpList_next_is rfl _ rfl rfl HR.out ?_ ?_; (intro hd0); rotate_left; (intro x u T w1 hp hR1 hk1 hs1 hen; obtain ⟨so, t', rfl, rfl, hp'⟩ := soP_perm hp; have HP' := hid hp'; have HR1 := hid hR1; have HK1 := hid hk1; clear hp hp' hR1 hk1 yB hln; refine Here.mk ?_)))
    · refine Here.of ?_
      have hmem : (x, so) ∈ ws := HP.mem_iff.1 (List.mem_append_right _ (HP'.out.mem_iff.2 (List.mem_cons_self ..)))
      have hKW : Kept [] w w1 := HK.out.trans HK1.out (fun y hy => .inr (by simp at hy; omega))
      have hW := (HH.out.each _ hmem).kept hKW (by simp)
      obtain ⟨_, _, d2⟩ := hW.cells
      have HPR := hid (dpairs_any so.d so.m so.k.ws w1 hW.dr hW.kn (HWL.out _ hmem))
      have HB1 := hid (((HK1.out.block (b + 1) (Array.getElem?_eq_some_iff.1 HB.out).1 (by simp; omega)).trans HB.out))
      have HC1 := hid (HC'.out.kept HK1.out (by simp; omega))
      have HKW := hid hKW
      have hlen := HP'.out.length_eq
      have hsl := hs1
      have HPM := hid HP
      clear hKW hW HB HC' hmem HK HP
      go_wp2_with (first
        | (go_at_call 35; refine HPR.out.mono ?_; clear HPR; rintro e w5 ⟨v5, rfl, hp5, hk5⟩; obtain ⟨a5, c5, rfl, _⟩ := hp5.at'.ex; have HP5 := hid hp5; have HK5 := hid hk5; clear hp5 hk5)
        | (go_at_call 90; refine Here.mk ?_))
      refine Here.of ?_
      have hB5 := (HK5.out.block (b + 1) (Array.getElem?_eq_some_iff.1 HB1.out).1 (by simp)).trans HB1.out
      have hl5 := keysP_len (so.k.ws.map toPr)
      refine (passed1_any (b + 1) b _ _ _ hB5 (HC1.out.kept HK5.out (by simp)) HP5.out hbn (by have := HWL.out _ (HPM.out.mem_iff.1 (List.mem_append_right _ (HP'.out.mem_iff.2 (List.mem_cons_self ..)))); simp only [List.length_map] at hl5; simp only at this; omega)).mono ?_
      rintro e w6 ⟨rfl, hC6, hk6⟩
      have HC6 := hid hC6
      have HK6 := hid ((HK5.out.mono (T := [b]) (by simp)).trans hk6 (fun y hy => .inl hy))
      have HKW6 := hid (HKW.out.trans HK6.out (fun y hy => .inr (by simp at hy; omega)))
      clear hC6 hk6 hB5 hl5 HC1
      go_wp2
      go_roundg t'.length
      case measure =>
        simp at hlen
        omega
      case rel =>
        refine ⟨t', acc ++ [(x, so)], ?_, ?_, HR1.out.kept HK6.out (by simp; omega) (by simp; omega), HKW6.out, ?_, Nat.le_refl _⟩
        · show CntIs _ _ _ _
          rw [cntP_snoc]
          exact HC6.out
        · show List.Perm _ _
          rw [List.append_assoc]
          exact (HP'.out.symm.append_left acc).trans HPM.out
        · show _ = _
          exact (HK6.out.block (b + 1) (Array.getElem?_eq_some_iff.1 HB1.out).1 (by simp)).trans HB1.out
    · have ht : todo = [] := by
        cases todo with
        | nil => rfl
        | cons p t => simp [soP] at hd0
      subst ht
      have hperm : acc.Perm ws := by have h := (show (acc ++ []).Perm ws from HP); rwa [List.append_nil] at h
      have hcount : nn = (distK (thereK (s.base ++ l ++ s.drafts))).length := HNC.out.trans (cntP_len HH.out.eq hperm (fun x hx => (HH.out.each x hx).kn) l)
      have hpd : s.passed l = decide (64 < nn) := by unfold Sp.passed; rw [hcount]
      have hdz : decide ((64 : Int) < (nn : Int)) = s.passed l := by
        rw [hpd]
        by_cases h : 64 < nn
        · rw [decide_eq_true h, decide_eq_true (by omega)]
        · rw [decide_eq_false h, decide_eq_false (by omega)]
      rw [hdz]
      have HKE := hid (show Kept [] w wr from HK)
      clear hpd hcount hperm HNC hd0 HP hdz
      go_ret
      exact ⟨rfl, HKE.out⟩
--@@ end
--@@ (*store.Store).put
set_option maxRecDepth 100000 in
set_option maxHeartbeats 4000000 in
theorem sput_any {w : World} {D : Nat → Prop} {A M L : Nat} {bv : Value} {ws : List (Int × So)} {s : Sp} (H : StoIs w D A M L bv ws s) (hw : ∀ x ∈ s.works, x.2.ws.length ≤ 1000) (hb : s.base.length ≤ 10000) {x : So} (hW : WrkIs w x) (k : K4) (v : V) :
    Calls Tryz.prog 39 #[.pointer (some ⟨A, 0, none⟩), .pointer (some ⟨x.b, 0, none⟩), k.v, v.v] w fun e w' => e = .returned (.int .i64 (s.put x.k k v).1) ∧ DraftIs w' x.d x.m (s.put x.k k v).2 ∧ Kept [x.m] w w' := by
  obtain ⟨d0, d1, d2⟩ := hW.cells
  have hxm := hW.dr.lt.2
  have HPA := hid (fun W (hK : Kept [] w W) (l : List Pr) v' (hv : PrAt W v' l) (hl : l.length ≤ 10000) => spassed_any (w := W) ⟨M, L, bv, ws, H.kept hK (fun x hx => by cases hx)⟩ hw hb v' l hv hl)
  have HPU := hid (fun W (hK : Kept [] w W) => dput_any x.d x.m x.k.ws k v W (hW.dr.kept hK (by simp) (by simp)))
  have HDR := hid (fun W (hK : Kept [] w W) => show DraftIs W x.d x.m x.k.ws from hW.dr.kept hK (by simp) (by simp))
  obtain ⟨pd, hpd⟩ : ∃ pd, pd = s.passed [⟨k, v⟩] := ⟨_, rfl⟩
  have HPD := hid hpd
  unfold Sp.put
  rw [← hpd]
  have HXM := hid hxm
  clear H hW hw hb d0 d1 hxm
  obtain ⟨ka, kb, kc, kd⟩ := k
  obtain ⟨vt, vn⟩ := v
  simp only [K4.v, V.v] at HPU ⊢
  have HKV := hid (fun W (hK : Kept [] ((w.alloc (.cells #[.int .u8 (ka.toNat : Int), .int .u8 (kb.toNat : Int), .int .u8 (kc.toNat : Int), .int .u8 (kd.toNat : Int)] 33)).alloc (.cells #[.bool vt, .int .i64 vn] 44)) W) =>
    have hk0 : Kept [] (w.alloc (.cells #[.int .u8 (ka.toNat : Int), .int .u8 (kb.toNat : Int), .int .u8 (kc.toNat : Int), .int .u8 (kd.toNat : Int)] 33)) W := ((Kept.refl [] _).alloc _).trans hK (by simp)
    have nc := new_cell w [.int .u8 (ka.toNat : Int), .int .u8 (kb.toNat : Int), .int .u8 (kc.toNat : Int), .int .u8 (kd.toNat : Int)] 33
    have nv := new_cell (w.alloc (.cells #[.int .u8 (ka.toNat : Int), .int .u8 (kb.toNat : Int), .int .u8 (kc.toNat : Int), .int .u8 (kd.toNat : Int)] 33)) [.bool vt, .int .i64 vn] 44
    show W.cell? ⟨w.heap.size, 0, none⟩ = some (.int .u8 (ka.toNat : Int)) ∧ W.cell? ⟨w.heap.size, 1, none⟩ = some (.int .u8 (kb.toNat : Int)) ∧ W.cell? ⟨w.heap.size, 2, none⟩ = some (.int .u8 (kc.toNat : Int)) ∧ W.cell? ⟨w.heap.size, 3, none⟩ = some (.int .u8 (kd.toNat : Int)) ∧ W.cell? ⟨w.heap.size + 1, 0, none⟩ = some (.bool vt) ∧ W.cell? ⟨w.heap.size + 1, 1, none⟩ = some (.int .i64 vn) from
      ⟨hk0.cell (nc 0 _ rfl) (by simp), hk0.cell (nc 1 _ rfl) (by simp), hk0.cell (nc 2 _ rfl) (by simp), hk0.cell (nc 3 _ rfl) (by simp), hK.cell (by simpa using nv 0 _ rfl) (by simp), hK.cell (by simpa using nv 1 _ rfl) (by simp)⟩)
  have HW0 := hid (((Kept.refl [] w).alloc (.cells #[.int .u8 (ka.toNat : Int), .int .u8 (kb.toNat : Int), .int .u8 (kc.toNat : Int), .int .u8 (kd.toNat : Int)] 33)).alloc (.cells #[.bool vt, .int .i64 vn] 44))
  have HC2 := hid (fun W (hK : Kept [] w W) => show W.cell? ⟨x.b, 2, none⟩ = some (.pointer (some ⟨x.d, 0, none⟩)) from hK.cell d2 (by simp))
  clear d2 hpd
  cases vt with
  | false =>
    rw [if_neg (by simp)]
    go_enter Tryz.func39, Tryz.ntmps39
    go_wp2_with fail
    generalize (w.alloc (.cells #[.int .u8 (ka.toNat : Int), .int .u8 (kb.toNat : Int), .int .u8 (kc.toNat : Int), .int .u8 (kd.toNat : Int)] 33)).alloc (.cells #[.bool false, .int .i64 vn] 44) = wq at *
    have HZ := hid (Kept.refl [] wq)
    -- [rows put3a]
    refine wp_region_rows_tail 6 (yieldDen [.eq (.pointer (some ⟨x.b, 0, none⟩)), .eq (.pointer (some ⟨x.b, 0, none⟩)), .eq (.pointer (some ⟨x.b, 2, none⟩)), .eq (.pointer (some ⟨x.d, 0, none⟩)), .eq (.agg #[.int .u8 (ka.toNat : Int), .int .u8 (kb.toNat : Int), .int .u8 (kc.toNat : Int), .int .u8 (kd.toNat : Int)]), .eq (.agg #[.bool false, .int .i64 vn])]) (fun w' => Kept [] wq w') (Kept []) (by kernel_rfl) (fun j v w w' h h' => yieldDen_kept _ j v w w' h h') (fun w => Kept.refl [] w) (by kernel_rfl) (by kernel_rfl) (by kernel_rfl) (by kernel_rfl) (by kernel_rfl) (by kernel_rfl) ((Kept.refl [] wq).drew) ?_ ?_
    · skip
      refine AllUpto.cons (n := 5) (k := 0) ?_ ?_
      · intro a w' hC hO hd
        rw [if_pos (wanted_none rfl)]
        have p1 : a.tmps[1]? = some (.pointer (some ⟨x.b, 0, none⟩)) := hO.at (by kernel_rfl) rfl
        clear hd hO
        refine pure_step (.pointer (some ⟨x.b, 0, none⟩)) rfl hC (Kept.refl _ _) ?_
        go_simp
      refine AllUpto.cons (n := 4) (k := 1) ?_ ?_
      · intro a w' hC hO hd
        obtain ⟨x19, e19, r19⟩ := hd ⟨0, .data⟩ (by simp) rfl _ _ rfl rfl
        obtain rfl : x19 = .pointer (some ⟨x.b, 0, none⟩) := r19
        rw [if_pos (wanted_none rfl)]
        clear hd hO
        refine pure_step (.pointer (some ⟨x.b, 0, none⟩)) rfl hC (Kept.refl _ _) ?_
        go_simp
      refine AllUpto.cons (n := 3) (k := 2) ?_ ?_
      · intro a w' hC hO hd
        obtain ⟨x20, e20, r20⟩ := hd ⟨1, .data⟩ (by simp) rfl _ _ rfl rfl
        obtain rfl : x20 = .pointer (some ⟨x.b, 0, none⟩) := r20
        rw [if_pos (wanted_none rfl)]
        clear hd hO
        refine pure_step (.pointer (some ⟨x.b, 2, none⟩)) rfl hC (Kept.refl _ _) ?_
        go_simp
      refine AllUpto.cons (n := 2) (k := 3) ?_ ?_
      · intro a w' hC hO hd
        obtain ⟨x21, e21, r21⟩ := hd ⟨2, .data⟩ (by simp) rfl _ _ rfl rfl
        obtain rfl : x21 = .pointer (some ⟨x.b, 2, none⟩) := r21
        rw [if_pos (wanted_none rfl)]
        have y1 := HC2.out _ (HW0.out.trans (HZ.out.trans hC (fun x hx => .inl hx)) (fun x hx => .inl hx))
        clear hd hO
        refine pure_step (.pointer (some ⟨x.d, 0, none⟩)) rfl hC (Kept.refl _ _) ?_
        go_simp
      refine AllUpto.cons (n := 1) (k := 4) ?_ ?_
      · intro a w' hC hO hd
        rw [if_pos (wanted_none rfl)]
        have p6 : a.tmps[6]? = some (.pointer (some ⟨w.heap.size, 0, none⟩)) := hO.at (by kernel_rfl) rfl
        obtain ⟨y0, y1, y2, y3, y4, y5⟩ := HKV.out w' (HZ.out.trans hC (fun x hx => .inl hx))
        clear hd hO
        refine pure_step (.agg #[.int .u8 (ka.toNat : Int), .int .u8 (kb.toNat : Int), .int .u8 (kc.toNat : Int), .int .u8 (kd.toNat : Int)]) rfl hC (Kept.refl _ _) ?_
        go_simp
      refine AllUpto.cons (n := 0) (k := 5) ?_ ?_
      · intro a w' hC hO hd
        rw [if_pos (wanted_none rfl)]
        have p7 : a.tmps[7]? = some (.pointer (some ⟨(w.heap.size + 1), 0, none⟩)) := hO.at (by kernel_rfl) rfl
        obtain ⟨y0, y1, y2, y3, y4, y5⟩ := HKV.out w' (HZ.out.trans hC (fun x hx => .inl hx))
        clear hd hO
        refine pure_step (.agg #[.bool false, .int .i64 vn]) rfl hC (Kept.refl _ _) ?_
        go_simp
      exact AllUpto.nil
    · intro a' w4 hC hO hrows
      obtain ⟨xd, ed, rd⟩ := hrows 3 (by decide) _ _ rfl rfl
      obtain rfl : xd = .pointer (some ⟨x.d, 0, none⟩) := rd
      obtain ⟨xk, ek, rk⟩ := hrows 4 (by decide) _ _ rfl rfl
      obtain rfl : xk = .agg #[.int .u8 (ka.toNat : Int), .int .u8 (kb.toNat : Int), .int .u8 (kc.toNat : Int), .int .u8 (kd.toNat : Int)] := rk
      obtain ⟨xv, ev, rv⟩ := hrows 5 (by decide) _ _ rfl rfl
      obtain rfl : xv = .agg #[.bool false, .int .i64 vn] := rv
      obtain ⟨us, hus, ha⟩ := hO.lit rfl [false, false, false, false, false, false, false, false, true, false, false, false, false, false, false, false, false, false, false, true, true, true, true, true, true, true] (by kernel_rfl)
      have ud := hus 22 _ rfl ed
      have uk := hus 23 _ rfl ek
      have uv := hus 24 _ rfl ev
      clear hrows hO hus ed ek ev
      subst ha
      simp only [merge, Nat.reduceAdd, ud, uk, uv, List.drop_succ_cons, List.drop_zero]
      clear ud uk uv
      have HQ := hid (HW0.out.trans (HZ.out.trans hC (fun x hx => .inl hx)) (fun x hx => .inl hx))
      clear hC
      go_wp2_with (go_at_call 75; refine (HPU.out _ HQ.out).mono ?_; clear HPU; rintro e w5 ⟨rfl, hd5, hk5⟩)
      go_returns
      exact ⟨rfl, hd5, (HQ.out.mono (by simp)).trans hk5 (fun x hx => .inl hx)⟩
    -- [end rows]
  | true =>
    obtain ⟨R, hR⟩ : ∃ R, R = (if true = true ∧ pd = true then ((16 : Int), x.k.ws) else dPut x.k.ws ⟨ka, kb, kc, kd⟩ ⟨true, vn⟩) := ⟨_, rfl⟩
    rw [← hR]
    have HRR := hid hR
    clear hR
    go_enter Tryz.func39, Tryz.ntmps39
    go_wp2_with (first
      | (go_at_call 57; refine Here.mk ?_))
    refine Here.of ?_
    have hW2 : Kept [] ((w.alloc (.cells #[.int .u8 (ka.toNat : Int), .int .u8 (kb.toNat : Int), .int .u8 (kc.toNat : Int), .int .u8 (kd.toNat : Int)] 33)).alloc (.cells #[.bool true, .int .i64 vn] 44)) (((w.alloc (.cells #[.int .u8 (ka.toNat : Int), .int .u8 (kb.toNat : Int), .int .u8 (kc.toNat : Int), .int .u8 (kd.toNat : Int)] 33)).alloc (.cells #[.bool true, .int .i64 vn] 44)).alloc (.cells #[.int .u8 (ka.toNat : Int), .int .u8 (kb.toNat : Int), .int .u8 (kc.toNat : Int), .int .u8 (kd.toNat : Int), .bool true, .int .i64 vn] 59)) := (Kept.refl [] _).alloc _
    have hrow := ownsRow_new ((w.alloc (.cells #[.int .u8 (ka.toNat : Int), .int .u8 (kb.toNat : Int), .int .u8 (kc.toNat : Int), .int .u8 (kd.toNat : Int)] 33)).alloc (.cells #[.bool true, .int .i64 vn] 44)) (Pr.f ⟨⟨ka, kb, kc, kd⟩, ⟨true, vn⟩⟩) 59 6 1 0 (Nat.zero_le _) (by decide) rfl
    have hpr : PrAt (((w.alloc (.cells #[.int .u8 (ka.toNat : Int), .int .u8 (kb.toNat : Int), .int .u8 (kc.toNat : Int), .int .u8 (kd.toNat : Int)] 33)).alloc (.cells #[.bool true, .int .i64 vn] 44)).alloc (.cells #[.int .u8 (ka.toNat : Int), .int .u8 (kb.toNat : Int), .int .u8 (kc.toNat : Int), .int .u8 (kd.toNat : Int), .bool true, .int .i64 vn] 59)) (.slice (some ⟨w.heap.size + 1 + 1, 0, none⟩) 1 1) [⟨⟨ka, kb, kc, kd⟩, ⟨true, vn⟩⟩] := by
      have := PrAt.of_own (l := [⟨⟨ka, kb, kc, kd⟩, ⟨true, vn⟩⟩]) hrow rfl
      simpa [Pr.f] using this
    refine (HPA.out _ (HW0.out.trans hW2 (fun x hx => .inl hx)) _ _ hpr (by simp)).mono ?_
    rintro e wq ⟨rfl, hkq⟩
    rw [← HPD.out]
    have HZ := hid (hW2.trans hkq (fun x hx => .inl hx))
    clear hW2 hrow hpr hkq
    cases pd with
    | true =>
      have hR : R = (16, x.k.ws) := by have h := HRR.out; simpa using h
      subst hR
      go_wp2
      go_returns
      exact ⟨rfl, HDR.out _ (HW0.out.trans HZ.out (fun x hx => .inl hx)), (HW0.out.trans HZ.out (fun x hx => .inl hx)).mono (by simp)⟩
    | false =>
      have hR : R = dPut x.k.ws ⟨ka, kb, kc, kd⟩ ⟨true, vn⟩ := by have h := HRR.out; simpa using h
      subst hR
      clear HRR
      go_wp2_with fail
      -- [rows put3b]
      refine wp_region_rows_tail 6 (yieldDen [.eq (.pointer (some ⟨x.b, 0, none⟩)), .eq (.pointer (some ⟨x.b, 0, none⟩)), .eq (.pointer (some ⟨x.b, 2, none⟩)), .eq (.pointer (some ⟨x.d, 0, none⟩)), .eq (.agg #[.int .u8 (ka.toNat : Int), .int .u8 (kb.toNat : Int), .int .u8 (kc.toNat : Int), .int .u8 (kd.toNat : Int)]), .eq (.agg #[.bool true, .int .i64 vn])]) (fun w' => Kept [] wq w') (Kept []) (by kernel_rfl) (fun j v w w' h h' => yieldDen_kept _ j v w w' h h') (fun w => Kept.refl [] w) (by kernel_rfl) (by kernel_rfl) (by kernel_rfl) (by kernel_rfl) (by kernel_rfl) (by kernel_rfl) ((Kept.refl [] wq).drew) ?_ ?_
      · skip
        refine AllUpto.cons (n := 5) (k := 0) ?_ ?_
        · intro a w' hC hO hd
          rw [if_pos (wanted_none rfl)]
          have p1 : a.tmps[1]? = some (.pointer (some ⟨x.b, 0, none⟩)) := hO.at (by kernel_rfl) rfl
          clear hd hO
          refine pure_step (.pointer (some ⟨x.b, 0, none⟩)) rfl hC (Kept.refl _ _) ?_
          go_simp
        refine AllUpto.cons (n := 4) (k := 1) ?_ ?_
        · intro a w' hC hO hd
          obtain ⟨x19, e19, r19⟩ := hd ⟨0, .data⟩ (by simp) rfl _ _ rfl rfl
          obtain rfl : x19 = .pointer (some ⟨x.b, 0, none⟩) := r19
          rw [if_pos (wanted_none rfl)]
          clear hd hO
          refine pure_step (.pointer (some ⟨x.b, 0, none⟩)) rfl hC (Kept.refl _ _) ?_
          go_simp
        refine AllUpto.cons (n := 3) (k := 2) ?_ ?_
        · intro a w' hC hO hd
          obtain ⟨x20, e20, r20⟩ := hd ⟨1, .data⟩ (by simp) rfl _ _ rfl rfl
          obtain rfl : x20 = .pointer (some ⟨x.b, 0, none⟩) := r20
          rw [if_pos (wanted_none rfl)]
          clear hd hO
          refine pure_step (.pointer (some ⟨x.b, 2, none⟩)) rfl hC (Kept.refl _ _) ?_
          go_simp
        refine AllUpto.cons (n := 2) (k := 3) ?_ ?_
        · intro a w' hC hO hd
          obtain ⟨x21, e21, r21⟩ := hd ⟨2, .data⟩ (by simp) rfl _ _ rfl rfl
          obtain rfl : x21 = .pointer (some ⟨x.b, 2, none⟩) := r21
          rw [if_pos (wanted_none rfl)]
          have y1 := HC2.out _ (HW0.out.trans (HZ.out.trans hC (fun x hx => .inl hx)) (fun x hx => .inl hx))
          clear hd hO
          refine pure_step (.pointer (some ⟨x.d, 0, none⟩)) rfl hC (Kept.refl _ _) ?_
          go_simp
        refine AllUpto.cons (n := 1) (k := 4) ?_ ?_
        · intro a w' hC hO hd
          rw [if_pos (wanted_none rfl)]
          have p6 : a.tmps[6]? = some (.pointer (some ⟨w.heap.size, 0, none⟩)) := hO.at (by kernel_rfl) rfl
          obtain ⟨y0, y1, y2, y3, y4, y5⟩ := HKV.out w' (HZ.out.trans hC (fun x hx => .inl hx))
          clear hd hO
          refine pure_step (.agg #[.int .u8 (ka.toNat : Int), .int .u8 (kb.toNat : Int), .int .u8 (kc.toNat : Int), .int .u8 (kd.toNat : Int)]) rfl hC (Kept.refl _ _) ?_
          go_simp
        refine AllUpto.cons (n := 0) (k := 5) ?_ ?_
        · intro a w' hC hO hd
          rw [if_pos (wanted_none rfl)]
          have p7 : a.tmps[7]? = some (.pointer (some ⟨(w.heap.size + 1), 0, none⟩)) := hO.at (by kernel_rfl) rfl
          obtain ⟨y0, y1, y2, y3, y4, y5⟩ := HKV.out w' (HZ.out.trans hC (fun x hx => .inl hx))
          clear hd hO
          refine pure_step (.agg #[.bool true, .int .i64 vn]) rfl hC (Kept.refl _ _) ?_
          go_simp
        exact AllUpto.nil
      · intro a' w4 hC hO hrows
        obtain ⟨xd, ed, rd⟩ := hrows 3 (by decide) _ _ rfl rfl
        obtain rfl : xd = .pointer (some ⟨x.d, 0, none⟩) := rd
        obtain ⟨xk, ek, rk⟩ := hrows 4 (by decide) _ _ rfl rfl
        obtain rfl : xk = .agg #[.int .u8 (ka.toNat : Int), .int .u8 (kb.toNat : Int), .int .u8 (kc.toNat : Int), .int .u8 (kd.toNat : Int)] := rk
        obtain ⟨xv, ev, rv⟩ := hrows 5 (by decide) _ _ rfl rfl
        obtain rfl : xv = .agg #[.bool true, .int .i64 vn] := rv
        obtain ⟨us, hus, ha⟩ := hO.lit rfl [false, false, false, false, false, false, false, false, true, false, false, false, false, false, false, false, false, false, false, true, true, true, true, true, true, true] (by kernel_rfl)
        have ud := hus 22 _ rfl ed
        have uk := hus 23 _ rfl ek
        have uv := hus 24 _ rfl ev
        clear hrows hO hus ed ek ev
        subst ha
        simp only [merge, Nat.reduceAdd, ud, uk, uv, List.drop_succ_cons, List.drop_zero]
        clear ud uk uv
        have HQ := hid (HW0.out.trans (HZ.out.trans hC (fun x hx => .inl hx)) (fun x hx => .inl hx))
        clear hC
        go_wp2_with (go_at_call 75; refine (HPU.out _ HQ.out).mono ?_; clear HPU; rintro e w5 ⟨rfl, hd5, hk5⟩)
        go_returns
        exact ⟨rfl, hd5, (HQ.out.mono (by simp)).trans hk5 (fun x hx => .inl hx)⟩
      -- [end rows]
--@@ end
--@@ concordatref00.SamePairs
set_option maxRecDepth 100000 in
set_option maxHeartbeats 4000000 in
theorem samePairs_any (v1 v2 : Value) (xs ys : List Pr) (w : World) (h1 : SlAt w v1 6 xs.length (xs.flatMap Pr.f)) (h2 : SlAt w v2 6 ys.length (ys.flatMap Pr.f)) :
    Calls Tryz.prog 21 #[v1, v2] w fun e w' => e = .returned (.bool (decide (xs = ys))) ∧ Kept [] w w' := by
  obtain ⟨a1, cap1, rfl, m1, _, c1⟩ := h1.ex
  obtain ⟨a2, cap2, rfl, m2, _, c2⟩ := h2.ex
  clear h1 h2
  have HC1 := hid c1
  have HC2 := hid c2
  clear c1 c2
  by_cases hl : xs.length = ys.length
  · have hb : ((xs.length : Int) != (ys.length : Int)) = false := by simp [hl]
    have HL := hid hl
    clear hl
    go_enter Tryz.func21, Tryz.ntmps21
    go_wp2
    go_loopw [5] (fun i wr => ∃ k : Nat, k ≤ xs.length ∧ i = .int .i64 k ∧ xs.take k = ys.take k ∧ ∃ n, wr = w.drewN n) (fun i _ => xs.length - (intOf i).toNat)
    case atStart => exact ⟨0, Nat.zero_le _, rfl, rfl, 0, rfl⟩
    case round =>
      obtain ⟨k, hk, rfl, ht, n, rfl⟩ := hrel
      have HT := hid ht
      clear ht
      by_cases hlt : k < xs.length
      · have hlt2 : k < ys.length := by rw [← HL.out]; exact hlt
        obtain ⟨b1, o1, rfl, _, d1⟩ := HC1.out (by omega)
        obtain ⟨b2, o2, rfl, _, d2⟩ := HC2.out (by omega)
        obtain ⟨e0, e1, e2, e3, e4, e5⟩ := pair_cells d1 hlt
        obtain ⟨f0, f1, f2, f3, f4, f5⟩ := pair_cells d2 hlt2
        clear d1 d2
        have HX := hid (show xs.take (k + 1) = xs.take k ++ [xs[k]] by rw [List.take_succ_eq_append_getElem hlt])
        have HY := hid (show ys.take (k + 1) = ys.take k ++ [ys[k]] by rw [List.take_succ_eq_append_getElem hlt2])
        have HXE := hid (show xs[k]? = some xs[k] by simp [hlt])
        have HYE := hid (show ys[k]? = some ys[k] by simp [hlt2])
        generalize xs[k] = x at *
        generalize ys[k] = y at *
        by_cases hxy : x = y
        · have hq := fun (w : World) => neP w x y
          rw [show (!decide (x = y)) = false by simp [hxy]] at hq
          have HXY := hid hxy
          clear hxy
          obtain ⟨⟨x1, x2, x3, x4⟩, ⟨x5, x6⟩⟩ := x
          obtain ⟨⟨y1, y2, y3, y4⟩, ⟨y5, y6⟩⟩ := y
          dsimp only at e0 e1 e2 e3 e4 e5 f0 f1 f2 f3 f4 f5
          simp only [Pr.v] at hq
          go_wp2_with fail
          go_quiet (fail)
          go_wp2
          go_roundw
          case rel => exact ⟨k + 1, by omega, by go_num, by rw [HX.out, HY.out, HT.out, HXY.out], _, rfl⟩
          case measure => simp [intOf]; omega
        · have hq := fun (w : World) => neP w x y
          rw [show (!decide (x = y)) = true by simp [hxy]] at hq
          have HXY := hid hxy
          clear hxy
          obtain ⟨⟨x1, x2, x3, x4⟩, ⟨x5, x6⟩⟩ := x
          obtain ⟨⟨y1, y2, y3, y4⟩, ⟨y5, y6⟩⟩ := y
          dsimp only at e0 e1 e2 e3 e4 e5 f0 f1 f2 f3 f4 f5
          simp only [Pr.v] at hq
          go_wp2_with fail
          go_quiet (fail)
          go_wp2
          go_ret
          refine ⟨ret_bool ?_, ((Kept.refl [] w).drewN _).drewN _⟩
          symm
          refine decide_eq_false fun h => HXY.out ?_
          have := HXE.out
          rw [h, HYE.out] at this
          exact (Option.some.inj this).symm
      · go_wp2
        go_ret
        obtain rfl : k = xs.length := by omega
        refine ⟨ret_bool ?_, (Kept.refl [] w).drewN _⟩
        have := HT.out
        rw [List.take_length, HL.out, List.take_length] at this
        simp [this]
  · have hb : ((xs.length : Int) != (ys.length : Int)) = true := by simp; omega
    have HL := hid hl
    clear hl
    go_enter Tryz.func21, Tryz.ntmps21
    go_wp2
    go_ret
    exact ⟨ret_bool (by symm; exact decide_eq_false fun h => HL.out (by rw [h])), Kept.refl _ _⟩
--@@ concordatref00.Below
set_option maxRecDepth 100000 in
set_option maxHeartbeats 4000000 in
theorem below_any (x y : K4) (w : World) :
    Calls Tryz.prog 103 #[x.v, y.v] w fun e w' => e = .returned (.bool (decide (x.num < y.num))) ∧ Kept [] w w' := by
  obtain ⟨x1, x2, x3, x4⟩ := x
  obtain ⟨y1, y2, y3, y4⟩ := y
  have HN := hid (show decide ((⟨x1, x2, x3, x4⟩ : K4).num < (⟨y1, y2, y3, y4⟩ : K4).num) = decide (((x1.toNat * 256 + x2.toNat) * 256 + x3.toNat) * 256 + x4.toNat < ((y1.toNat * 256 + y2.toNat) * 256 + y3.toNat) * 256 + y4.toNat) from rfl)
  rw [HN.out]
  clear HN
  simp only [K4.v]
  have hx1 := x1.toNat_lt; have hx2 := x2.toNat_lt; have hx3 := x3.toNat_lt; have hx4 := x4.toNat_lt
  have hy1 := y1.toNat_lt; have hy2 := y2.toNat_lt; have hy3 := y3.toNat_lt; have hy4 := y4.toNat_lt
  generalize x1.toNat = a1 at *; generalize x2.toNat = a2 at *; generalize x3.toNat = a3 at *; generalize x4.toNat = a4 at *
  generalize y1.toNat = b1 at *; generalize y2.toNat = b2 at *; generalize y3.toNat = b3 at *; generalize y4.toNat = b4 at *
  have HSa := hid (show ∀ n, ((w.alloc (.cells #[.int .u8 (a1 : Int), .int .u8 (a2 : Int), .int .u8 (a3 : Int), .int .u8 (a4 : Int)] 33)).alloc (.cells #[.int .u8 (b1 : Int), .int .u8 (b2 : Int), .int .u8 (b3 : Int), .int .u8 (b4 : Int)] 33)).drewN n = ((w.alloc (.cells #[.int .u8 (a1 : Int), .int .u8 (a2 : Int), .int .u8 (a3 : Int), .int .u8 (a4 : Int)] 33)).alloc (.cells #[.int .u8 (b1 : Int), .int .u8 (b2 : Int), .int .u8 (b3 : Int), .int .u8 (b4 : Int)] 33)).drewN n from fun n => rfl)
  clear HSa
  go_enter Tryz.func103, Tryz.ntmps103
  go_wp2
  go_loopw [5] (fun i wr => ∃ k : Nat, k ≤ 4 ∧ i = .int .i64 k ∧ (k ≥ 1 → a1 = b1) ∧ (k ≥ 2 → a2 = b2) ∧ (k ≥ 3 → a3 = b3) ∧ (k ≥ 4 → a4 = b4) ∧ ∃ n, wr = ((w.alloc (.cells #[.int .u8 (a1 : Int), .int .u8 (a2 : Int), .int .u8 (a3 : Int), .int .u8 (a4 : Int)] 33)).alloc (.cells #[.int .u8 (b1 : Int), .int .u8 (b2 : Int), .int .u8 (b3 : Int), .int .u8 (b4 : Int)] 33)).drewN n) (fun i _ => 4 - (intOf i).toNat)
  case atStart => exact ⟨0, Nat.zero_le _, rfl, by omega, by omega, by omega, by omega, 0, rfl⟩
  case round =>
    obtain ⟨k, hk, rfl, p1, p2, p3, p4, n, rfl⟩ := hrel
    have hk' : k = 0 ∨ k = 1 ∨ k = 2 ∨ k = 3 ∨ k = 4 := by omega
    rcases hk' with rfl | rfl | rfl | rfl | rfl
    · have HA := hid p1; have HB := hid p2; have HC := hid p3; have HD := hid p4
      clear p1 p2 p3 p4
      by_cases he : a1 = b1
      · have hb : ((a1 : Int) != (b1 : Int)) = false := by simp [he]
        have HE := hid he
        clear he
        go_wp2_with fail
        go_quiet (fail)
        go_wp2
        go_roundw
        case rel => exact ⟨1, by omega, by go_num, fun h => HE.out, fun h => by omega, fun h => by omega, fun h => by omega, _, rfl⟩
        case measure => simp [intOf]
      · have hb : ((a1 : Int) != (b1 : Int)) = true := by simp; omega
        have HE := hid he
        clear he
        go_wp2_with fail
        go_quiet (fail)
        go_wp2_with fail
        go_quiet (fail)
        go_wp2
        go_ret
        refine ⟨ret_bool ?_, ((((((Kept.refl [] w).alloc _).alloc _).drewN _).drewN _).drewN _)⟩
        have h1 := HA.out; have h2 := HB.out; have h3 := HC.out; have h4 := HD.out; have h5 := HE.out
        clear HA HB HC HD HE
        simp only [decide_eq_decide]
        omega
    · have HA := hid p1; have HB := hid p2; have HC := hid p3; have HD := hid p4
      clear p1 p2 p3 p4
      by_cases he : a2 = b2
      · have hb : ((a2 : Int) != (b2 : Int)) = false := by simp [he]
        have HE := hid he
        clear he
        go_wp2_with fail
        go_quiet (fail)
        go_wp2
        go_roundw
        case rel => exact ⟨2, by omega, by go_num, fun h => HA.out (by omega), fun h => HE.out, fun h => by omega, fun h => by omega, _, rfl⟩
        case measure => simp [intOf]
      · have hb : ((a2 : Int) != (b2 : Int)) = true := by simp; omega
        have HE := hid he
        clear he
        go_wp2_with fail
        go_quiet (fail)
        go_wp2_with fail
        go_quiet (fail)
        go_wp2
        go_ret
        refine ⟨ret_bool ?_, ((((((Kept.refl [] w).alloc _).alloc _).drewN _).drewN _).drewN _)⟩
        have h1 := HA.out; have h2 := HB.out; have h3 := HC.out; have h4 := HD.out; have h5 := HE.out
        clear HA HB HC HD HE
        simp only [decide_eq_decide]
        omega
    · have HA := hid p1; have HB := hid p2; have HC := hid p3; have HD := hid p4
      clear p1 p2 p3 p4
      by_cases he : a3 = b3
      · have hb : ((a3 : Int) != (b3 : Int)) = false := by simp [he]
        have HE := hid he
        clear he
        go_wp2_with fail
        go_quiet (fail)
        go_wp2
        go_roundw
        case rel => exact ⟨3, by omega, by go_num, fun h => HA.out (by omega), fun h => HB.out (by omega), fun h => HE.out, fun h => by omega, _, rfl⟩
        case measure => simp [intOf]
      · have hb : ((a3 : Int) != (b3 : Int)) = true := by simp; omega
        have HE := hid he
        clear he
        go_wp2_with fail
        go_quiet (fail)
        go_wp2_with fail
        go_quiet (fail)
        go_wp2
        go_ret
        refine ⟨ret_bool ?_, ((((((Kept.refl [] w).alloc _).alloc _).drewN _).drewN _).drewN _)⟩
        have h1 := HA.out; have h2 := HB.out; have h3 := HC.out; have h4 := HD.out; have h5 := HE.out
        clear HA HB HC HD HE
        simp only [decide_eq_decide]
        omega
    · have HA := hid p1; have HB := hid p2; have HC := hid p3; have HD := hid p4
      clear p1 p2 p3 p4
      by_cases he : a4 = b4
      · have hb : ((a4 : Int) != (b4 : Int)) = false := by simp [he]
        have HE := hid he
        clear he
        go_wp2_with fail
        go_quiet (fail)
        go_wp2
        go_roundw
        case rel => exact ⟨4, by omega, by go_num, fun h => HA.out (by omega), fun h => HB.out (by omega), fun h => HC.out (by omega), fun h => HE.out, _, rfl⟩
        case measure => simp [intOf]
      · have hb : ((a4 : Int) != (b4 : Int)) = true := by simp; omega
        have HE := hid he
        clear he
        go_wp2_with fail
        go_quiet (fail)
        go_wp2_with fail
        go_quiet (fail)
        go_wp2
        go_ret
        refine ⟨ret_bool ?_, ((((((Kept.refl [] w).alloc _).alloc _).drewN _).drewN _).drewN _)⟩
        have h1 := HA.out; have h2 := HB.out; have h3 := HC.out; have h4 := HD.out; have h5 := HE.out
        clear HA HB HC HD HE
        simp only [decide_eq_decide]
        omega
    · go_wp2
      go_ret
      refine ⟨ret_bool ?_, ((((Kept.refl [] w).alloc _).alloc _).drewN _)⟩
      symm
      have h1 := p1 (by omega); have h2 := p2 (by omega); have h3 := p3 (by omega); have h4 := p4 (by omega)
      exact decide_eq_false (by omega)
--@@ end
end Go.Proofs.YtpfgpbafechncaaGreat
