/- RedoAnswers: the walk. -/
import Derived.Test.YtpcpeoejcnndhaaGreatM11
import Derived.Test.YtpcpeoejcnndhaaGreatM2
import Derived.Test.YtpcpeoejcnndhaaGreatRedoSame
import Derived.Test.YtpcpeoejcnndhaaGreatRfReplay
import Derived.Test.YtpcpeoejcnndhaaGreatRfRecs
import Derived.Test.YtpcpeoejcnndhaaGreatRfSame
set_option linter.all false
namespace Go.Proofs.YtpcpeoejcnndhaaGreat.redoAnswers
open Go.RowKit Go.Shelf Go.Lib Go.Sort Go.Proofs Go.Proofs.YtpcpeoejcnndhaaGreat
--@@ concordatlaw11.RedoAnswers
theorem calls_true {f : FuncId} {args : Array Value} {w : World} {p : Prop} [Decidable p] (hp : p) (h : Calls Tryz.prog f args w fun e w' => e = .returned (.bool (decide p)) ∧ Kept [] w w') : Calls Tryz.prog f args w fun e w' => e = .returned (.bool true) ∧ Kept [] w w' :=
  h.mono fun e w' ⟨h1, h2⟩ => ⟨by rw [h1, decide_eq_true hp], h2⟩
def recsB (s : Stp) : List Rc := if s.right = true then recsS s else []
theorem recsB_at {w : World} {lo : Nat} {v : Value} {s : Stp} (h1 : s.right = true → w.ownsRow lo 55 11 v (recsS s).length ((recsS s).flatMap Rc.f)) (h2 : s.right = false → v = .slice none 0 0) : SlAt w v 11 (recsB s).length ((recsB s).flatMap Rc.f) := by
  unfold recsB
  cases hr : s.right with
  | true => rw [if_pos rfl]; exact SlAt.of_own (h1 hr)
  | false => rw [if_neg (by simp), h2 hr]; exact ⟨none, 0, rfl, by decide, rfl, fun h => absurd h (by decide)⟩
theorem recsB_rt {w : World} {lo : Nat} {v : Value} {s : Stp} {rt : Bool} (e : rt = s.right) (h1 : rt = true → w.ownsRow lo 55 11 v (recsS s).length ((recsS s).flatMap Rc.f)) (h2 : rt = false → v = .slice none 0 0) : SlAt w v 11 (recsB s).length ((recsB s).flatMap Rc.f) := by
  subst e
  exact recsB_at h1 h2
set_option maxHeartbeats 8000000 in
set_option maxRecDepth 100000 in
theorem walk (v0 : Value) (l : List Rc) (bv tv : Value) (s : Stp) (bv2 tv2 : Value) (t : Stp) (w : World) (h0 : SlAt w v0 Rc.ps.length l.length (l.flatMap Rc.f)) (hok : ∀ x ∈ l, x.ok) (hs : RSt w bv tv s) (hsx : ∀ x ∈ s.txs, x.mask ≤ 65535 ∧ x.ws.length * 24 ≤ reachBytes) (ht : RSt w bv2 tv2 t) (htx : ∀ x ∈ t.txs, x.mask ≤ 65535 ∧ x.ws.length * 24 ≤ reachBytes) :
    Calls Tryz.prog 3 #[v0, .agg #[bv, tv], .agg #[bv2, tv2]] w fun e w' => e = .returned (.bool true) ∧ Kept [] w w' := by
  have H0 := hid (show SlAt w v0 11 l.length (l.flatMap Rc.f) from h0)
  obtain ⟨a, cap, rfl, hmax, _, _⟩ := h0.ex
  have HS0 := hid hs
  have HT0 := hid ht
  have HBS := hid (fun W (hK : Kept [] ((w.alloc (.cells #[bv, tv] 26)).alloc (.cells #[bv2, tv2] 26)) W) => And.intro (blk2 (((Kept.refl [] _).alloc _).trans hK (fun x hx => .inl hx))) (show W.cell? ⟨w.heap.size + 1, 0, none⟩ = some bv2 ∧ W.cell? ⟨w.heap.size + 1, 1, none⟩ = some tv2 from by have := blk2 hK; simpa using this))
  have HW0 := hid (((Kept.refl [] w).alloc (.cells #[bv, tv] 26)).alloc (.cells #[bv2, tv2] 26))
  clear h0 hs ht hmax
  by_cases hlen : 100 < l.length
  · have hlenz : (100 : Int) < (l.length : Int) := by omega
    clear hok hsx htx
    go_enter Tryz.func3, Tryz.ntmps3
    go_wp2_with (go_at_call 4; refine (alive11_any _).mono ?_; rintro e wa ⟨rfl, hka⟩)
    go_ret
    exact ⟨rfl, HW0.out.trans hka (fun x hx => .inl hx)⟩
  have hlenz : (l.length : Int) ≤ 100 := by omega
  have HGS := hid (fun W (hK : Kept [] w W) => great_any _ _ s W (HS0.out.kept hK) (fun x hx => (hsx x hx).2))
  have HGT := hid (fun W (hK : Kept [] w W) => great_any _ _ t W (HT0.out.kept hK) (fun x hx => (htx x hx).2))
  cases hgs : greatS s with
  | true =>
    rw [hgs] at HGS
    clear hok hsx htx hgs HGT
    go_enter Tryz.func3, Tryz.ntmps3
    go_wp2_with (first
      | (go_at_call 4; refine (alive11_any _).mono ?_; rintro e wa ⟨rfl, hka⟩; obtain ⟨⟨g0, g1⟩, g2, g3⟩ := HBS.out _ hka; have HKA := hid (HW0.out.trans hka (fun x hx => .inl hx)); clear hka)
      | (go_at_call 5; refine (HGS.out _ HKA.out).mono ?_; clear HGS; rintro e wc ⟨rfl, hkc⟩))
    go_ret
    exact ⟨rfl, HKA.out.trans hkc (fun x hx => .inl hx)⟩
  | false =>
  rw [hgs] at HGS
  cases hgt : greatS t with
  | true =>
    rw [hgt] at HGT
    clear hok hsx htx hgs hgt
    go_enter Tryz.func3, Tryz.ntmps3
    go_wp2_with (first
      | (go_at_call 4; refine (alive11_any _).mono ?_; rintro e wa ⟨rfl, hka⟩; obtain ⟨⟨g0, g1⟩, g2, g3⟩ := HBS.out _ hka; have HKX := hid hka; have HKA := hid (HW0.out.trans hka (fun x hx => .inl hx)); clear hka)
      | (go_at_call 5; refine (HGS.out _ HKA.out).mono ?_; clear HGS; rintro e wc ⟨rfl, hkc⟩; clear g0 g1 g2 g3; obtain ⟨⟨g0, g1⟩, g2, g3⟩ := HBS.out _ (HKX.out.trans hkc (fun x hx => .inl hx)); have HKC := hid (HKA.out.trans hkc (fun x hx => .inl hx)); clear hkc)
      | (go_at_call 5; refine (HGT.out _ HKC.out).mono ?_; rintro e wd ⟨rfl, hkd⟩))
    go_ret
    exact ⟨rfl, HKC.out.trans hkd (fun x hx => .inl hx)⟩
  | false =>
  rw [hgt] at HGT
  obtain ⟨p1, p2, p3⟩ := greatS_false hgs
  obtain ⟨r1, r2, r3⟩ := greatS_false hgt
  have hsum : (s.txs.map fun x => x.ws.length).sum ≤ 200 := by
    simp only [greatS, Bool.or_eq_false_iff, decide_eq_false_iff_not, Nat.not_lt] at hgs
    exact hgs.2.2
  have hrl : (recsS s).length ≤ 500 := by have := recs_len s; omega
  have hml := fun r hr => hok r hr
  have HTO := hid (fun W (hK : Kept [] w W) => stto_any _ _ s W (HS0.out.kept hK) (by omega) (by omega) (fun x hx => by have := p3 x hx; omega))
  have HTT := hid (fun W (hK : Kept [] w W) => stto_any _ _ t W (HT0.out.kept hK) (by omega) (by omega) (fun x hx => by have := r3 x hx; omega))
  have HRC := hid (fun W b1 t1 (h : StAt W b1 t1 s) => redoRecs_any b1 t1 s W h (by omega))
  have HRR := hid (fun W (hK : Kept [] w W) => refrecs_any bv tv s W (HS0.out.kept hK) (by omega) (fun x hx => by have := p3 x hx; omega) (by omega))
  have HRP := hid (fun W (hK : Kept [] w W) => replay_any (.slice a l.length cap) l W (H0.out.kept hK) (by omega) hml)
  have HRF := hid (fun W (hK : Kept [] w W) => rreplay_any (.slice a l.length cap) l W (H0.out.kept hK) (by omega) hml)
  rw [ref_replay] at HRF
  obtain ⟨q1, q2, q3⟩ := st_sizes l hml
  have HOF := hid (fun W b1 t1 (h : StAt W b1 t1 (replayP l)) => stof_any b1 t1 (replayP l) W h.r (by omega) (by omega) (fun x hx => by have := q3 x hx; omega))
  have HOS := hid (fun W b1 t1 (h : StAt W b1 t1 s) => stof_any b1 t1 s W h.r (by omega) (by omega) (fun x hx => by have := p3 x hx; omega))
  have HSB := hid (fun W v (h : SlAt W v 11 (recsB s).length ((recsB s).flatMap Rc.f)) u (h' : SlAt W u 11 (recsB s).length ((recsB s).flatMap Rc.f)) => calls_true rfl (sameRecs_any v u (recsB s) (recsB s) W h h'))
  have HDB := hid (fun W b1 t1 (h : StAt W b1 t1 s) => doubt_any b1 t1 s W h (by omega))
  have HTD := hid (fun W b1 t1 (h : StAt W b1 t1 s) => told_any b1 t1 s W h (by omega))
  have HNB := hid (fun W c (hK : Kept [] w W) => rnumbers_any bv tv s c W (HS0.out.kept hK) (by omega))
  have HSI := hid (fun W (c : Bool) v u (h : SlAt W v 1 (numbersS s c).length ((numbersS s c).map (Value.int .i64))) (h' : SlAt W u 1 (numbersS s c).length ((numbersS s c).map (Value.int .i64))) => calls_true rfl (sameInts_any v u (numbersS s c) (numbersS s c) W h h'))
  obtain ⟨sd, hsd⟩ : ∃ sd, sd = decide (s = t) := ⟨_, rfl⟩
  have HSS := hid (fun W b1 t1 b2 t2 (h1 : StAt W b1 t1 s) (h2 : StAt W b2 t2 t) => same_any b1 t1 b2 t2 s t W h1 h2)
  have HSR := hid (fun W (hK : Kept [] w W) => rsame_any bv tv bv2 tv2 s t W (HS0.out.kept hK) (HT0.out.kept hK))
  rw [← hsd] at HSS HSR
  have HSP := hid (fun W b1 t1 b2 t2 (h1 : StAt W b1 t1 (replayP l)) (h2 : StAt W b2 t2 (replayP l)) => calls_true rfl (rsame_any b1 t1 b2 t2 (replayP l) (replayP l) W h1.r h2.r))
  have HSO := hid (fun W b1 t1 (h1 : StAt W b1 t1 s) (hK : Kept [] w W) => calls_true rfl (rsame_any b1 t1 bv tv s s W h1.r (HS0.out.kept hK)))
  clear hok hsx htx hgs hgt hsum hrl hml p1 p2 p3 r1 r2 r3 q1 q2 q3 hsd
  obtain ⟨rt, hrt⟩ : ∃ rt, rt = s.right := ⟨_, rfl⟩
  rw [← hrt] at HRC HRR
  have HRT := hid hrt
  clear hrt
  go_enter Tryz.func3, Tryz.ntmps3
  go_wp2_with (first
    | (go_at_call 4; refine (alive11_any _).mono ?_; rintro e wa ⟨rfl, hka⟩; obtain ⟨⟨g0, g1⟩, g2, g3⟩ := HBS.out _ hka; have HKX := hid hka; have HKA := hid (HW0.out.trans hka (fun x hx => .inl hx)); clear hka)
    | (go_at_call 5; refine (HGS.out _ HKA.out).mono ?_; clear HGS; rintro e wc ⟨rfl, hkc⟩; clear g0 g1 g2 g3; obtain ⟨⟨g0, g1⟩, g2, g3⟩ := HBS.out _ (HKX.out.trans hkc (fun x hx => .inl hx)); have HKX := hid (HKX.out.trans hkc (fun x hx => .inl hx)); have HKA := hid (HKA.out.trans hkc (fun x hx => .inl hx)); clear hkc)
    | (go_at_call 5; refine (HGT.out _ HKA.out).mono ?_; clear HGT; rintro e wd ⟨rfl, hkd⟩; clear g0 g1 g2 g3; obtain ⟨⟨g0, g1⟩, g2, g3⟩ := HBS.out _ (HKX.out.trans hkd (fun x hx => .inl hx)); have HKX := hid (HKX.out.trans hkd (fun x hx => .inl hx)); have HKA := hid (HKA.out.trans hkd (fun x hx => .inl hx)); clear hkd)
    | (go_at_call 6; refine (HTO.out _ HKA.out).mono ?_; clear HTO; rintro e we ⟨ob, ot, rfl, hst, hkd⟩; obtain ⟨xa, xc, ya, yc, rfl, rfl⟩ := hst.slices; refine Here.mk ?_))
  refine Here.of ?_
  have HST := hid hst
  have HKX := hid (HKX.out.trans hkd (fun x hx => .inl hx))
  have HKA := hid (HKA.out.trans hkd (fun x hx => .inl hx))
  clear hst hkd g0 g1 g2 g3
  have HWD := hid ((Kept.refl [] we).alloc (.cells #[.slice xa s.base.length xc, .slice ya s.txs.length yc] 32))
  have HBD := hid (fun W (hK : Kept [] (we.alloc (.cells #[.slice xa s.base.length xc, .slice ya s.txs.length yc] 32)) W) => blk2 hK)
  go_wp2_with (first
    | (go_at_call 7; refine (HRC.out _ _ _ (HST.out.kept HWD.out)).mono ?_; clear HRC; rintro e w4 ⟨v4, rfl, ho4, hn4, hk4⟩; have HV4 := hid (recsB_rt HRT.out ho4 hn4); have HD4 := hid hk4; have HK4 := hid (HWD.out.trans hk4 (fun x hx => .inl hx)); obtain ⟨⟨g0, g1⟩, g2, g3⟩ := HBS.out _ (HKX.out.trans HK4.out (fun x hx => .inl hx)); clear ho4 hn4 hk4)
    | (go_at_call 8; refine (HRR.out _ (HKA.out.trans HK4.out (fun x hx => .inl hx))).mono ?_; clear HRR; rintro e w5 ⟨v5, rfl, ho5, hn5, hk5⟩; have HV5 := hid (recsB_rt HRT.out ho5 hn5); have HKE := hid hk5; clear ho5 hn5 hk5 g0 g1 g2 g3; refine Here.mk ?_))
  refine Here.of ?_
  have hk5 := HKE.out
  have HV4 := hid (HV4.out.kept hk5)
  have HD5 := hid (HD4.out.trans hk5 (fun x hx => .inl hx))
  have HK5 := hid (HK4.out.trans hk5 (fun x hx => .inl hx))
  have HKW := hid (HKA.out.trans HK5.out (fun x hx => .inl hx))
  have HKS := hid (HKX.out.trans HK5.out (fun x hx => .inl hx))
  have HS5 := hid (HST.out.kept HK5.out)
  have HCC := hid (fun W (hW : Kept [] w5 W) => show W.cell? ⟨w.heap.size, 0, none⟩ = some bv ∧ W.cell? ⟨w.heap.size, 1, none⟩ = some tv ∧ W.cell? ⟨w.heap.size + 1, 0, none⟩ = some bv2 ∧ W.cell? ⟨w.heap.size + 1, 1, none⟩ = some tv2 ∧ W.cell? ⟨we.heap.size, 0, none⟩ = some (.slice xa s.base.length xc) ∧ W.cell? ⟨we.heap.size, 1, none⟩ = some (.slice ya s.txs.length yc) from by
    obtain ⟨⟨h1, h2⟩, h3, h4⟩ := HBS.out W (HKS.out.trans hW (fun x hx => .inl hx))
    obtain ⟨h5, h6⟩ := HBD.out W (HD5.out.trans hW (fun x hx => .inl hx))
    exact ⟨h1, h2, h3, h4, h5, h6⟩)
  clear hk5
  go_wp2
  -- [rows law8]
  refine wp_region_chainK [(37, .slice a l.length cap), (40, .slice a l.length cap), (42, .bool true), (43, .bool true), (44, v4), (45, v5), (46, .bool true), (47, .bool true), (48, .bool true), (49, .bool rt), (50, .bool rt), (51, .bool true), (52, .bool true), (53, .bool true), (54, .agg #[.slice xa s.base.length xc, .slice ya s.txs.length yc]), (56, .agg #[bv, tv]), (58, .bool true), (59, .bool true), (60, .bool true), (61, .agg #[.slice xa s.base.length xc, .slice ya s.txs.length yc]), (63, .agg #[bv, tv]), (65, .bool true), (66, .bool true), (67, .bool true), (68, .agg #[.slice xa s.base.length xc, .slice ya s.txs.length yc]), (69, .agg #[bv2, tv2]), (71, .bool sd), (72, .agg #[bv, tv]), (73, .agg #[bv2, tv2]), (74, .bool sd), (75, .bool true), (76, .bool true), (77, .bool true), (78, .agg #[.slice xa s.base.length xc, .slice ya s.txs.length yc]), (80, .agg #[bv, tv]), (81, .bool true), (82, .bool true), (6, .bool true)] [(0, .slice a l.length cap), (4, .pointer (some ⟨w.heap.size, 0, none⟩)), (5, .pointer (some ⟨w.heap.size + 1, 0, none⟩)), (7, .pointer (some ⟨we.heap.size, 0, none⟩)), (8, v4), (9, .bool rt), (10, v5), (11, .bool rt)] (fun w' => w'.cell? ⟨w.heap.size, 0, none⟩ = some bv ∧ w'.cell? ⟨w.heap.size, 1, none⟩ = some tv ∧ w'.cell? ⟨w.heap.size + 1, 0, none⟩ = some bv2 ∧ w'.cell? ⟨w.heap.size + 1, 1, none⟩ = some tv2 ∧ w'.cell? ⟨we.heap.size, 0, none⟩ = some (.slice xa s.base.length xc) ∧ w'.cell? ⟨we.heap.size, 1, none⟩ = some (.slice ya s.txs.length yc)) [1, 2, 4, 5, 9, 18, 20, 21, 25, 27, 28, 33, 34, 37, 42, 44] [[2, 1], [4, 2], [5, 4], [9, 6, 5], [18, 16, 11, 9], [20, 18], [21, 20], [25, 23, 21], [27, 25], [28, 27], [33, 30, 28], [34, 33], [37, 34], [42, 40, 37], [44, 42]] false [false, false, false, false, false, false, true, false, false, false, false, false, false, false, false, false, false, false, false, false, false, false, false, false, false, false, false, false, false, false, false, false, false, false, false, false, false, true, false, false, true, false, true, true, true, true, true, true, true, true, true, true, true, true, true, false, true, false, true, true, true, true, false, true, false, true, true, true, true, true, false, true, true, true, true, true, true, true, true, false, true, true, true] (by kernel_rfl) (by kernel_rfl) (by simp) (HCC.out _ (Kept.refl [] w5).drew) ?_ ?_
  · refine ⟨.inr ?_, .inl rfl, .inl rfl, .inr ?_, .inl rfl, .inl rfl, .inr ?_, .inr ?_, .inr ?_, .inl rfl, .inr ?_, .inr ?_, .inr ?_, .inr ?_, .inr ?_, .inr ?_, .inr ?_, .inr ?_, .inl rfl, .inr ?_, .inl rfl, .inl rfl, .inr ?_, .inr ?_, .inr ?_, .inl rfl, .inr ?_, .inl rfl, .inl rfl, .inr ?_, .inr ?_, .inr ?_, .inr ?_, .inl rfl, .inl rfl, .inr ?_, .inr ?_, .inl rfl, .inr ?_, .inr ?_, .inr ?_, .inr ?_, .inl rfl, .inr ?_, .inl rfl, .inr ?_, .inr ?_, trivial⟩
    all_goals
      intro a w' hC hF hO
      simp only [List.forall_mem_cons, List.forall_mem_nil, and_true, List.not_mem_nil, false_implies, implies_true] at hF hO
      obtain ⟨f37, f40, f42, f43, f44, f45, f46, f47, f48, f49, f50, f51, f52, f53, f54, f56, f58, f59, f60, f61, f63, f65, f66, f67, f68, f69, f71, f72, f73, f74, f75, f76, f77, f78, f80, f81, f82, f6⟩ := hF
      obtain ⟨o0, o4, o5, o7, o8, o9, o10, o11⟩ := hO
      obtain ⟨y1, y2, y3, y4, y5, y6⟩ := hC
    all_goals first | ((first | rw [if_pos (wanted_none rfl)] | rw [if_pos (wanted_some rfl (yielded_of (o := _) rfl rfl (by assumption)))]); refine pure_q _ rfl ?_; go_simp; done) | (rw [if_neg (by rw [show Region.wanted _ _ = false from want_no rfl (yielded_of (o := _) rfl rfl (by assumption)) (by decide)]; decide)]; exact rfl) | (rw [if_neg (by rw [show Region.wanted _ _ = false from want_lost rfl (yield_undef (o := _) rfl rfl (by assumption))]; decide)]; exact rfl)
  · intro us hF
    simp only [List.forall_mem_cons, List.forall_mem_nil, and_true, List.not_mem_nil, false_implies, implies_true] at hF
    obtain ⟨f37, f40, f42, f43, f44, f45, f46, f47, f48, f49, f50, f51, f52, f53, f54, f56, f58, f59, f60, f61, f63, f65, f66, f67, f68, f69, f71, f72, f73, f74, f75, f76, f77, f78, f80, f81, f82, f6⟩ := hF
    simp only [merge, Nat.reduceAdd, List.drop_succ_cons, List.drop_zero, f37, f40, f42, f43, f44, f45, f46, f47, f48, f49, f50, f51, f52, f53, f54, f56, f58, f59, f60, f61, f63, f65, f66, f67, f68, f69, f71, f72, f73, f74, f75, f76, f77, f78, f80, f81, f82, f6]
    clear f37 f40 f42 f43 f44 f45 f46 f47 f48 f49 f50 f51 f52 f53 f54 f56 f58 f59 f60 f61 f63 f65 f66 f67 f68 f69 f71 f72 f73 f74 f75 f76 f77 f78 f80 f81 f82 f6
    have hk := (Kept.refl [] w5).drew
    refine wpK_one 1 _ (by kernel_rfl) rfl (wanted_none rfl) ?_
    go_simp
    refine (HRP.out _ (HKW.out.trans hk (fun x hx => .inl hx))).mono ?_
    rintro e y38 ⟨b38, t38, rfl, hst, hkc⟩
    have hst38 := hst
    have hk := hk.trans hkc (fun x hx => .inl hx)
    clear hkc
    refine ⟨HCC.out _ hk, kn_none rfl, ?_⟩
    refine wpK_one 2 _ (by kernel_rfl) rfl (wanted_none rfl) ?_
    go_simp
    refine (HOF.out _ _ _ hst38).mono ?_
    rintro e y39 ⟨b39, t39, rfl, hst, hkc⟩
    have hst39 := hst
    have hk := hk.trans hkc (fun x hx => .inl hx)
    clear hkc
    refine ⟨HCC.out _ hk, kn_none rfl, ?_⟩
    refine wpK_one 4 _ (by kernel_rfl) rfl (wanted_none rfl) ?_
    go_simp
    refine (HRF.out _ (HKW.out.trans hk (fun x hx => .inl hx))).mono ?_
    rintro e y41 ⟨b41, t41, rfl, hst, hkc⟩
    have hst41 := hst
    have hst39 := hst39.kept hkc
    have hk := hk.trans hkc (fun x hx => .inl hx)
    clear hkc
    refine ⟨HCC.out _ hk, kn_none rfl, ?_⟩
    refine wpK_one 5 _ (by kernel_rfl) rfl (wanted_none rfl) ?_
    go_simp
    refine (HSP.out _ _ _ _ _ hst39 hst41).mono ?_
    rintro e y42 ⟨rfl, hkc⟩
    have hk := hk.trans hkc (fun x hx => .inl hx)
    clear hkc
    refine ⟨HCC.out _ hk, kn_is rfl, ?_⟩
    refine wpK_one 9 _ (by kernel_rfl) rfl (wanted_some rfl (yielded_of (o := _) rfl rfl rfl)) ?_
    go_simp
    refine (HSB.out _ _ (HV4.out.kept hk) _ (HV5.out.kept hk)).mono ?_
    rintro e y46 ⟨rfl, hkc⟩
    have hk := hk.trans hkc (fun x hx => .inl hx)
    clear hkc
    refine ⟨HCC.out _ hk, kn_is rfl, ?_⟩
    refine wpK_one 18 _ (by kernel_rfl) rfl (wanted_some rfl (yielded_of (o := _) rfl rfl rfl)) ?_
    go_simp
    refine (HDB.out _ _ _ (HS5.out.kept hk)).mono ?_
    rintro e y55 ⟨v55, rfl, ho55, hkc⟩
    have hk := hk.trans hkc (fun x hx => .inl hx)
    clear hkc
    refine ⟨HCC.out _ hk, kn_none rfl, ?_⟩
    refine wpK_one 20 _ (by kernel_rfl) rfl (wanted_some rfl (yielded_of (o := _) rfl rfl rfl)) ?_
    go_simp
    refine (HNB.out _ false (HKW.out.trans hk (fun x hx => .inl hx))).mono ?_
    rintro e y57 ⟨v57, rfl, ho57, hkc⟩
    have ho55 := ownK_kept ho55 hkc (fun _ _ => List.not_mem_nil)
    have hk := hk.trans hkc (fun x hx => .inl hx)
    clear hkc
    refine ⟨HCC.out _ hk, kn_none rfl, ?_⟩
    refine wpK_one 21 _ (by kernel_rfl) rfl (wanted_some rfl (yielded_of (o := _) rfl rfl rfl)) ?_
    go_simp
    refine (HSI.out _ false _ _ (SlAt.of_own ho55) (SlAt.of_own ho57)).mono ?_
    rintro e y58 ⟨rfl, hkc⟩
    have hk := hk.trans hkc (fun x hx => .inl hx)
    clear hkc
    refine ⟨HCC.out _ hk, kn_is rfl, ?_⟩
    refine wpK_one 25 _ (by kernel_rfl) rfl (wanted_some rfl (yielded_of (o := _) rfl rfl rfl)) ?_
    go_simp
    refine (HTD.out _ _ _ (HS5.out.kept hk)).mono ?_
    rintro e y62 ⟨v62, rfl, ho62, hkc⟩
    have hk := hk.trans hkc (fun x hx => .inl hx)
    clear hkc
    refine ⟨HCC.out _ hk, kn_none rfl, ?_⟩
    refine wpK_one 27 _ (by kernel_rfl) rfl (wanted_some rfl (yielded_of (o := _) rfl rfl rfl)) ?_
    go_simp
    refine (HNB.out _ true (HKW.out.trans hk (fun x hx => .inl hx))).mono ?_
    rintro e y64 ⟨v64, rfl, ho64, hkc⟩
    have ho62 := ownK_kept ho62 hkc (fun _ _ => List.not_mem_nil)
    have hk := hk.trans hkc (fun x hx => .inl hx)
    clear hkc
    refine ⟨HCC.out _ hk, kn_none rfl, ?_⟩
    refine wpK_one 28 _ (by kernel_rfl) rfl (wanted_some rfl (yielded_of (o := _) rfl rfl rfl)) ?_
    go_simp
    refine (HSI.out _ true _ _ (SlAt.of_own ho62) (SlAt.of_own ho64)).mono ?_
    rintro e y65 ⟨rfl, hkc⟩
    have hk := hk.trans hkc (fun x hx => .inl hx)
    clear hkc
    refine ⟨HCC.out _ hk, kn_is rfl, ?_⟩
    refine wpK_one 33 _ (by kernel_rfl) rfl (wanted_some rfl (yielded_of (o := _) rfl rfl rfl)) ?_
    go_simp
    refine (HTT.out _ (HKW.out.trans hk (fun x hx => .inl hx))).mono ?_
    rintro e y70 ⟨b70, t70, rfl, hst70, hkc⟩
    have hk := hk.trans hkc (fun x hx => .inl hx)
    clear hkc
    refine ⟨HCC.out _ hk, kn_none rfl, ?_⟩
    refine wpK_one 34 _ (by kernel_rfl) rfl (wanted_some rfl (yielded_of (o := _) rfl rfl rfl)) ?_
    go_simp
    refine (HSS.out _ _ _ _ _ (HS5.out.kept hk) hst70).mono ?_
    rintro e y71 ⟨rfl, hkc⟩
    have hk := hk.trans hkc (fun x hx => .inl hx)
    clear hkc
    refine ⟨HCC.out _ hk, kn_is rfl, ?_⟩
    refine wpK_one 37 _ (by kernel_rfl) rfl (wanted_some rfl (yielded_of (o := _) rfl rfl rfl)) ?_
    go_simp
    refine (HSR.out _ (HKW.out.trans hk (fun x hx => .inl hx))).mono ?_
    rintro e y74 ⟨rfl, hkc⟩
    have hk := hk.trans hkc (fun x hx => .inl hx)
    clear hkc
    refine ⟨HCC.out _ hk, kn_is rfl, ?_⟩
    refine wpK_one 42 _ (by kernel_rfl) rfl (wanted_some rfl (yielded_of (o := _) rfl rfl rfl)) ?_
    go_simp
    refine (HOS.out _ _ _ (HS5.out.kept hk)).mono ?_
    rintro e y79 ⟨b79, t79, rfl, hst79, hkc⟩
    have hk := hk.trans hkc (fun x hx => .inl hx)
    clear hkc
    refine ⟨HCC.out _ hk, kn_none rfl, ?_⟩
    refine wpK_one 44 _ (by kernel_rfl) rfl (wanted_some rfl (yielded_of (o := _) rfl rfl rfl)) ?_
    go_simp
    refine (HSO.out _ _ _ hst79 (HKW.out.trans hk (fun x hx => .inl hx))).mono ?_
    rintro e y81 ⟨rfl, hkc⟩
    have hk := hk.trans hkc (fun x hx => .inl hx)
    clear hkc
    refine ⟨HCC.out _ hk, kn_is rfl, ?_⟩
    refine wpK_end ?_
  -- [end rows]
    go_wp2
    go_returns
    exact ⟨rfl, HKW.out.trans hk (fun x hx => .inl hx)⟩
--@@ end
end Go.Proofs.YtpcpeoejcnndhaaGreat.redoAnswers
