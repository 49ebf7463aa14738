/- A store: drafted. -/
import Derived.Test.YtpfgpbafechncaaGreatStoreH
set_option linter.all false
namespace Go.Proofs.YtpfgpbafechncaaGreat
open Go.RowKit Go.Shelf Go.Lib Go.Sort Go.Proofs
theorem dPut_again (l : List (K4 × V)) (k : K4) (v : V) : dPut (dPut l k v).2 k v = ((dPut l k v).1, (dPut l k v).2) := by
  unfold dPut
  split
  · rename_i h; simp [h]
  · rename_i h
    split
    · rename_i h2; simp [h, h2]
    · rename_i h2
      have hg : aget k (aput k v l) = some v := by rw [tget_put, if_pos rfl]
      simp only [hg]
      simp [h, tput_put]
theorem last_take (l : List Pr) (k : Nat) (h : k < l.length) : (l.take (k + 1)).getLast?.map (·.key) = some l[k].key := by
  have h3 : ∀ m : List Pr, (m ++ [l[k]]).getLast? = some l[k] := fun m => List.getLast?_concat
  rw [List.take_succ_eq_append_getElem h, h3]
  rfl
theorem keyf_at {w : World} {l : List Pr} {b off : Nat} (h : ∀ j u, (l.flatMap Pr.f)[j]? = some u → w.cell? ⟨b, off + j, none⟩ = some u) {i : Nat} (hi : i < l.length) :
    ∀ (j : Nat) (u : Value), l[i].key.f[j]? = some u → w.cell? ((⟨b, off + i * 6, none⟩ : Addr).add j) = some u := fun j u hj => by
  have hj4 : j < 4 := (List.getElem?_eq_some_iff.1 hj).1
  have hadd : (⟨b, off + i * 6, none⟩ : Addr).add j = ⟨b, off + (i * 6 + j), none⟩ := by unfold Addr.add; split <;> simp_all <;> omega
  rw [hadd]
  refine h _ u ?_
  rw [flatMap_get Pr.f (c := 6) (fun _ => rfl) l i j l[i] (by simp [hi]) (by omega)]
  have e : l[i].f = l[i].key.f ++ l[i].val.f := rfl
  rw [e, List.getElem?_append_left hj4]
  exact hj
theorem keyf_new {w : World} {x : K4} {b : Nat} (h0 : w.cell? ⟨b, 0, none⟩ = some (.int .u8 (x.a.toNat : Int))) (h1 : w.cell? ⟨b, 1, none⟩ = some (.int .u8 (x.b.toNat : Int))) (h2 : w.cell? ⟨b, 2, none⟩ = some (.int .u8 (x.c.toNat : Int))) (h3 : w.cell? ⟨b, 3, none⟩ = some (.int .u8 (x.d.toNat : Int))) :
    ∀ (j : Nat) (u : Value), x.f[j]? = some u → w.cell? ((⟨b, 0, none⟩ : Addr).add j) = some u := fun j u hj => by
  have hj4 : j < 4 := (List.getElem?_eq_some_iff.1 hj).1
  have hadd : (⟨b, 0, none⟩ : Addr).add j = ⟨b, j, none⟩ := by unfold Addr.add; split <;> simp_all
  rw [hadd]
  match j, hj4 with
  | 0, _ => simp [K4.f] at hj; rw [← hj]; exact h0
  | 1, _ => simp [K4.f] at hj; rw [← hj]; exact h1
  | 2, _ => simp [K4.f] at hj; rw [← hj]; exact h2
  | 3, _ => simp [K4.f] at hj; rw [← hj]; exact h3
theorem ordK_ge (y x : K4) : decide (0 ≤ ordK y x) = decide (x.num ≤ y.num) := by
  rw [ordK_num]
  by_cases h1 : y.num < x.num
  · rw [if_pos h1]
    rw [decide_eq_false (by decide), decide_eq_false (by omega)]
  · rw [if_neg h1]
    rw [decide_eq_true (show x.num ≤ y.num by omega)]
    split <;> decide
--@@ store.drafted
def PutC (w0 : World) (a m : Nat) (d d2 : List (K4 × V)) (w : World) : Prop := Kept [m] w0 w ∧ (DraftIs w a m d ∨ DraftIs w a m d2)
def PutG (a m : Nat) (d2 : List (K4 × V)) (w w' : World) : Prop := Kept [m] w w' ∧ (DraftIs w a m d2 → DraftIs w' a m d2)
theorem PutG.refl {a m : Nat} {d2 : List (K4 × V)} (w : World) : PutG a m d2 w w := ⟨Kept.refl _ _, fun h => h⟩
theorem PutC.same {w0 w w' : World} {a m : Nat} {d d2 : List (K4 × V)} (h : PutC w0 a m d d2 w) (hk : Kept [] w w') : PutC w0 a m d d2 w' ∧ PutG a m d2 w w' :=
  ⟨⟨h.1.trans hk (fun x hx => by cases hx), h.2.imp (fun h => h.kept hk (by simp) (by simp)) (fun h => h.kept hk (by simp) (by simp))⟩, hk.mono (by simp), fun h => h.kept hk (by simp) (by simp)⟩
theorem put_step {w0 w : World} {a m : Nat} {d : List (K4 × V)} (k : K4) (v : V) (h : PutC w0 a m d (dPut d k v).2 w) :
    Calls Tryz.prog 75 #[.pointer (some ⟨a, 0, none⟩), k.v, v.v] w fun e w' => e = .returned (.int .i64 (dPut d k v).1) ∧ DraftIs w' a m (dPut d k v).2 ∧ PutC w0 a m d (dPut d k v).2 w' ∧ PutG a m (dPut d k v).2 w w' := by
  rcases h.2 with h2 | h2
  · refine (dput_any a m d k v w h2).mono ?_
    rintro e w' ⟨rfl, hd, hk⟩
    exact ⟨rfl, hd, ⟨h.1.trans hk (fun x hx => .inl hx), .inr hd⟩, hk, fun _ => hd⟩
  · refine (dput_any a m _ k v w h2).mono ?_
    rintro e w' ⟨rfl, hd, hk⟩
    rw [dPut_again] at hd ⊢
    exact ⟨rfl, hd, ⟨h.1.trans hk (fun x hx => .inl hx), .inr hd⟩, hk, fun _ => hd⟩
def NewDraft (w0 : World) (l : List Pr) (e : Ending) (w' : World) : Prop := match Sp.drafted l with
  | some d => ∃ a m, e = .returned (.tuple #[.pointer (some ⟨a, 0, none⟩), .bool true]) ∧ DraftIs w' a m d ∧ w0.heap.size ≤ a ∧ w0.heap.size ≤ m ∧ a ≠ m
  | none => ∃ p, e = .returned (.tuple #[.pointer p, .bool false])
set_option maxRecDepth 100000 in
set_option maxHeartbeats 8000000 in
theorem sdrafted_any (v : Value) (l : List Pr) (w : World) (hv : PrAt w v l) (hl : l.length ≤ 10000) :
    Calls Tryz.prog 52 #[v] w fun e w' => NewDraft w l e w' ∧ Kept [] w w' := by
  obtain ⟨va, vc, rfl, _, _, hcs⟩ := hv.at'.ex
  have HC := hid hcs
  have HV := hid hv
  obtain ⟨E, hE⟩ : ∃ E, E = NewDraft w l := ⟨_, rfl⟩
  rw [← hE]
  have HE := hid hE
  clear hv hcs hE
  go_enter Tryz.func52, Tryz.ntmps52
  go_wp2_with (go_at_call 46; refine (dnew_any _).mono ?_; rintro e w1 ⟨rfl, hd1, hk1⟩; have HD1 := hid hd1; have HK1 := hid hk1; clear hd1 hk1)
  go_loopg [5, 6, 10] l.length (fun kx s5 s6 s10 wr => ∃ (k : Nat) (d : List (K4 × V)), s10 = .int .i64 k ∧ k ≤ l.length ∧ l.length - k ≤ kx ∧ Aside (Sp.draftedN 0 [] none l = Sp.draftedN k d ((l.take k).getLast?.map (·.key)) (l.drop k)) ∧ Aside (DraftIs wr (w.heap.size + 1) w.heap.size d) ∧ Aside (Kept [] w wr))
  case atStart => exact ⟨0, [], by first | rfl | go_num, by omega, by omega, by show _ = _; simp, HD1.out, HK1.out⟩
  case round =>
    clear HD1 HK1
    obtain ⟨k, d, rfl, hk, hkx, HN, HD, HK⟩ := hrel
    by_cases hlt : k < l.length
    · have hltz : (k : Int) < (l.length : Int) := by omega
      obtain ⟨b, off, rfl, hb, hcs⟩ := HC.out (by omega)
      have hcW : ∀ j u, (l.flatMap Pr.f)[j]? = some u → wr.cell? ⟨b, off + j, none⟩ = some u := fun j u hj => HK.out.cell (hcs j u hj) (by simp)
      have HCW := hid hcW
      obtain ⟨e0, e1, e2, e3, e4, e5⟩ := pair_cells hcW hlt
      have hN : Sp.draftedN 0 [] none l = if (dPut d l[k].key l[k].val).1 ≠ 0 ∨ (∃ k', (l.take k).getLast?.map (·.key) = some k' ∧ l[k].key.num ≤ k'.num) then none else Sp.draftedN (k + 1) (dPut d l[k].key l[k].val).2 ((l.take (k + 1)).getLast?.map (·.key)) (l.drop (k + 1)) := by
        have h1 := HN.out
        rw [h1, List.drop_eq_getElem_cons hlt]
        have h2 : (l.take (k + 1)).getLast?.map (·.key) = some l[k].key := by
          exact last_take l k hlt
        rw [h2]
        rfl
      have hne : l ≠ [] := fun e => by rw [e] at hlt; simp at hlt
      have HX := hid (show ∃ x, x = l[k] from ⟨_, rfl⟩)
      have HNN := hid hN
      clear hcW hcs hN HN
      have hxk : l[k]? = some l[k] := by simp [hlt]
      generalize l[k] = x at *
      have HXK := hid hxk
      obtain ⟨⟨x1, x2, x3, x4⟩, ⟨x5, x6⟩⟩ := x
      dsimp only at e0 e1 e2 e3 e4 e5
      obtain ⟨pq, hpq⟩ : ∃ pq, pq = dPut d ⟨x1, x2, x3, x4⟩ ⟨x5, x6⟩ := ⟨_, rfl⟩
      have HPQ := hid hpq
      obtain ⟨pc, d2⟩ := pq
      have hpc : pc = (dPut d ⟨x1, x2, x3, x4⟩ ⟨x5, x6⟩).1 := by rw [← hpq]
      have hd2 : d2 = (dPut d ⟨x1, x2, x3, x4⟩ ⟨x5, x6⟩).2 := by rw [← hpq]
      have HPS := hid (fun W (h : PutC (wr.alloc (.cells #[.int .u8 (x1.toNat : Int), .int .u8 (x2.toNat : Int), .int .u8 (x3.toNat : Int), .int .u8 (x4.toNat : Int), .bool x5, .int .i64 x6] 59)) (w.heap.size + 1) w.heap.size d d2 W) => by
        rw [hd2] at h
        have := put_step ⟨x1, x2, x3, x4⟩ ⟨x5, x6⟩ h
        rw [← hpq] at this
        simp only [K4.v, V.v] at this
        exact this)
      have hmw : w.heap.size < wr.heap.size := HD.out.lt.2
      have HPB := hid (fun W (hK : Kept [w.heap.size] (wr.alloc (.cells #[.int .u8 (x1.toNat : Int), .int .u8 (x2.toNat : Int), .int .u8 (x3.toNat : Int), .int .u8 (x4.toNat : Int), .bool x5, .int .i64 x6] 59)) W) =>
        have hlb : ([w.heap.size] : List Nat).contains wr.heap.size = false := by simp; omega
        have nc := new_cell wr [.int .u8 (x1.toNat : Int), .int .u8 (x2.toNat : Int), .int .u8 (x3.toNat : Int), .int .u8 (x4.toNat : Int), .bool x5, .int .i64 x6] 59
        show W.cell? ⟨wr.heap.size, 0, none⟩ = some (.int .u8 (x1.toNat : Int)) ∧ W.cell? ⟨wr.heap.size, 1, none⟩ = some (.int .u8 (x2.toNat : Int)) ∧ W.cell? ⟨wr.heap.size, 2, none⟩ = some (.int .u8 (x3.toNat : Int)) ∧ W.cell? ⟨wr.heap.size, 3, none⟩ = some (.int .u8 (x4.toNat : Int)) ∧ W.cell? ⟨wr.heap.size, 4, none⟩ = some (.bool x5) ∧ W.cell? ⟨wr.heap.size, 5, none⟩ = some (.int .i64 x6) from
        ⟨hK.cell (nc 0 _ rfl) (by simpa using hlb), hK.cell (nc 1 _ rfl) (by simpa using hlb), hK.cell (nc 2 _ rfl) (by simpa using hlb), hK.cell (nc 3 _ rfl) (by simpa using hlb), hK.cell (nc 4 _ rfl) (by simpa using hlb), hK.cell (nc 5 _ rfl) (by simpa using hlb)⟩)
      have hdq : DraftIs (wr.alloc (.cells #[.int .u8 (x1.toNat : Int), .int .u8 (x2.toNat : Int), .int .u8 (x3.toNat : Int), .int .u8 (x4.toNat : Int), .bool x5, .int .i64 x6] 59)) (w.heap.size + 1) w.heap.size d := HD.out.kept ((Kept.refl [] wr).alloc _) (by simp) (by simp)
      have HCC := hid (show PutC (wr.alloc (.cells #[.int .u8 (x1.toNat : Int), .int .u8 (x2.toNat : Int), .int .u8 (x3.toNat : Int), .int .u8 (x4.toNat : Int), .bool x5, .int .i64 x6] 59)) (w.heap.size + 1) w.heap.size d d2 (wr.alloc (.cells #[.int .u8 (x1.toNat : Int), .int .u8 (x2.toNat : Int), .int .u8 (x3.toNat : Int), .int .u8 (x4.toNat : Int), .bool x5, .int .i64 x6] 59)).drew from ⟨(Kept.refl _ _).drew, .inl (hdq.kept ((Kept.refl [] _).drew) (by simp) (by simp))⟩)
      have HKQ := hid (HK.out.alloc (.cells #[.int .u8 (x1.toNat : Int), .int .u8 (x2.toNat : Int), .int .u8 (x3.toNat : Int), .int .u8 (x4.toNat : Int), .bool x5, .int .i64 x6] 59))
      have HKA := hid ((Kept.refl [] wr).alloc (.cells #[.int .u8 (x1.toNat : Int), .int .u8 (x2.toNat : Int), .int .u8 (x3.toNat : Int), .int .u8 (x4.toNat : Int), .bool x5, .int .i64 x6] 59))
      clear hdq hpq hpc hd2
      go_wp2_with fail
      generalize wr.alloc (.cells #[.int .u8 (x1.toNat : Int), .int .u8 (x2.toNat : Int), .int .u8 (x3.toNat : Int), .int .u8 (x4.toNat : Int), .bool x5, .int .i64 x6] 59) = wq at *
      clear e0 e1 e2 e3 e4 e5 hxk HX
      by_cases hc0 : pc ≠ 0
      · have hbc : (pc != 0) = true := by simpa using hc0
        -- [rows drafted5bad]
        refine wp_region_rows (yieldDenG [.eq (.pointer (some ⟨(w.heap.size + 1), 0, none⟩)), .eq (.pointer (some ⟨wr.heap.size, 0, none⟩)), .eq (.agg #[.int .u8 (x1.toNat : Int), .int .u8 (x2.toNat : Int), .int .u8 (x3.toNat : Int), .int .u8 (x4.toNat : Int)]), .eq (.pointer (some ⟨wr.heap.size, 4, none⟩)), .eq (.agg #[.bool x5, .int .i64 x6]), .is (fun v w' => v = .int .i64 pc ∧ DraftIs w' (w.heap.size + 1) w.heap.size d2) (fun v w w' hg h => ⟨h.1, hg.2 h.2⟩), .eq (.bool true), .eq (.bool true), .eq (undef), .eq (undef), .eq (undef), .eq (undef), .eq (undef), .eq (undef), .eq (undef), .eq (undef), .eq (undef), .eq (undef), .eq (undef), .eq (undef), .eq (undef), .eq (undef), .eq (.bool true)]) (fun w' => PutC wq (w.heap.size + 1) w.heap.size d d2 w') (PutG (w.heap.size + 1) w.heap.size d2) (by kernel_rfl) (fun j v w w' h h' => yieldDenG_kept _ j v w w' h h') (fun w => PutG.refl w) (by kernel_rfl) (by kernel_rfl) HCC.out ?_ ?_
        · skip
          refine AllFrom.cons (k := 0) ?_ ?_
          · intro a w' hC hO hd
            rw [if_pos (wanted_none rfl)]
            have p4 : a.tmps[4]? = some (.pointer (some ⟨(w.heap.size + 1), 0, none⟩)) := hO.at (by kernel_rfl) rfl
            clear hd hO
            refine pure_step (.pointer (some ⟨(w.heap.size + 1), 0, none⟩)) rfl hC (PutG.refl _) ?_
            go_simp
          refine AllFrom.cons (k := 1) ?_ ?_
          · intro a w' hC hO hd
            rw [if_pos (wanted_none rfl)]
            have p6 : a.tmps[6]? = some (.pointer (some ⟨wr.heap.size, 0, none⟩)) := hO.at (by kernel_rfl) rfl
            clear hd hO
            refine pure_step (.pointer (some ⟨wr.heap.size, 0, none⟩)) rfl hC (PutG.refl _) ?_
            go_simp
          refine AllFrom.cons (k := 2) ?_ ?_
          · intro a w' hC hO hd
            obtain ⟨x16, e16, r16⟩ := hd ⟨1, .data⟩ (by simp) rfl _ _ rfl rfl
            obtain rfl : x16 = .pointer (some ⟨wr.heap.size, 0, none⟩) := r16
            rw [if_pos (wanted_none rfl)]
            obtain ⟨y0, y1, y2, y3, y4, y5⟩ := HPB.out w' hC.1
            clear hd hO
            refine pure_step (.agg #[.int .u8 (x1.toNat : Int), .int .u8 (x2.toNat : Int), .int .u8 (x3.toNat : Int), .int .u8 (x4.toNat : Int)]) rfl hC (PutG.refl _) ?_
            go_simp
          refine AllFrom.cons (k := 3) ?_ ?_
          · intro a w' hC hO hd
            rw [if_pos (wanted_none rfl)]
            have p6 : a.tmps[6]? = some (.pointer (some ⟨wr.heap.size, 0, none⟩)) := hO.at (by kernel_rfl) rfl
            clear hd hO
            refine pure_step (.pointer (some ⟨wr.heap.size, 4, none⟩)) rfl hC (PutG.refl _) ?_
            go_simp
          refine AllFrom.cons (k := 4) ?_ ?_
          · intro a w' hC hO hd
            obtain ⟨x18, e18, r18⟩ := hd ⟨3, .data⟩ (by simp) rfl _ _ rfl rfl
            obtain rfl : x18 = .pointer (some ⟨wr.heap.size, 4, none⟩) := r18
            rw [if_pos (wanted_none rfl)]
            obtain ⟨y0, y1, y2, y3, y4, y5⟩ := HPB.out w' hC.1
            clear hd hO
            refine pure_step (.agg #[.bool x5, .int .i64 x6]) rfl hC (PutG.refl _) ?_
            go_simp
          refine AllFrom.cons (k := 5) ?_ ?_
          · intro a w' hC hO hd
            obtain ⟨x15, e15, r15⟩ := hd ⟨0, .data⟩ (by simp) rfl _ _ rfl rfl
            obtain rfl : x15 = .pointer (some ⟨(w.heap.size + 1), 0, none⟩) := r15
            obtain ⟨x17, e17, r17⟩ := hd ⟨2, .data⟩ (by simp) rfl _ _ rfl rfl
            obtain rfl : x17 = .agg #[.int .u8 (x1.toNat : Int), .int .u8 (x2.toNat : Int), .int .u8 (x3.toNat : Int), .int .u8 (x4.toNat : Int)] := r17
            obtain ⟨x19, e19, r19⟩ := hd ⟨4, .data⟩ (by simp) rfl _ _ rfl rfl
            obtain rfl : x19 = .agg #[.bool x5, .int .i64 x6] := r19
            rw [if_pos (wanted_none rfl)]
            clear hd hO
            have hps := HPS.out w' hC
            go_simp
            refine hps.mono ?_
            rintro e y ⟨rfl, hd2, hc2, hg2⟩
            exact ⟨_, rfl, ⟨rfl, hd2⟩, hc2, hg2⟩
          refine AllFrom.cons (k := 6) ?_ ?_
          · intro a w' hC hO hd
            obtain ⟨x20, e20, r20⟩ := hd ⟨5, .data⟩ (by simp) rfl _ _ rfl rfl
            obtain ⟨rfl, hd20⟩ := r20
            rw [if_pos (wanted_none rfl)]
            clear hd hO
            refine pure_step (.bool true) rfl hC (PutG.refl _) ?_
            go_simp
          refine AllFrom.cons (k := 7) ?_ ?_
          · intro a w' hC hO hd
            obtain ⟨x21, e21, r21⟩ := hd ⟨6, .data⟩ (by simp) rfl _ _ rfl rfl
            obtain rfl : x21 = .bool true := r21
            rw [if_pos (wanted_none rfl)]
            clear hd hO
            refine pure_step (.bool true) rfl hC (PutG.refl _) ?_
            go_simp
          refine AllFrom.cons (k := 8) ?_ ?_
          · intro a w' hC hO hd
            obtain ⟨x22, e22, r22⟩ := hd ⟨7, .guard⟩ (by simp) rfl _ _ rfl rfl
            obtain rfl : x22 = .bool true := r22
            rw [if_neg (by rw [show Region.wanted _ _ = false from wanted_not (j := 7) (b := false) (c := true) rfl (yielded_of (o := _) rfl rfl e22) (by decide)]; decide)]
            exact rfl
          refine AllFrom.cons (k := 9) ?_ ?_
          · intro a w' hC hO hd
            obtain ⟨x23, e23, r23⟩ := hd ⟨8, .data⟩ (by simp) rfl _ _ rfl rfl
            obtain rfl : x23 = undef := r23
            obtain ⟨x22, e22, r22⟩ := hd ⟨7, .guard⟩ (by simp) rfl _ _ rfl rfl
            obtain rfl : x22 = .bool true := r22
            rw [if_neg (by rw [show Region.wanted _ _ = false from wanted_not (j := 7) (b := false) (c := true) rfl (yielded_of (o := _) rfl rfl e22) (by decide)]; decide)]
            exact rfl
          refine AllFrom.cons (k := 10) ?_ ?_
          · intro a w' hC hO hd
            obtain ⟨x24, e24, r24⟩ := hd ⟨9, .data⟩ (by simp) rfl _ _ rfl rfl
            obtain rfl : x24 = undef := r24
            obtain ⟨x22, e22, r22⟩ := hd ⟨7, .guard⟩ (by simp) rfl _ _ rfl rfl
            obtain rfl : x22 = .bool true := r22
            rw [if_neg (by rw [show Region.wanted _ _ = false from wanted_not (j := 7) (b := false) (c := true) rfl (yielded_of (o := _) rfl rfl e22) (by decide)]; decide)]
            exact rfl
          refine AllFrom.cons (k := 11) ?_ ?_
          · intro a w' hC hO hd
            obtain ⟨x25, e25, r25⟩ := hd ⟨10, .guard⟩ (by simp) rfl _ _ rfl rfl
            obtain rfl : x25 = undef := r25
            rw [if_neg (by rw [show Region.wanted _ _ = false from wanted_lost (j := 10) (b := true) rfl (yielded_undef (o := _) rfl rfl e25)]; decide)]
            exact rfl
          refine AllFrom.cons (k := 12) ?_ ?_
          · intro a w' hC hO hd
            obtain ⟨x25, e25, r25⟩ := hd ⟨10, .guard⟩ (by simp) rfl _ _ rfl rfl
            obtain rfl : x25 = undef := r25
            rw [if_neg (by rw [show Region.wanted _ _ = false from wanted_lost (j := 10) (b := true) rfl (yielded_undef (o := _) rfl rfl e25)]; decide)]
            exact rfl
          refine AllFrom.cons (k := 13) ?_ ?_
          · intro a w' hC hO hd
            obtain ⟨x27, e27, r27⟩ := hd ⟨12, .data⟩ (by simp) rfl _ _ rfl rfl
            obtain rfl : x27 = undef := r27
            obtain ⟨x25, e25, r25⟩ := hd ⟨10, .guard⟩ (by simp) rfl _ _ rfl rfl
            obtain rfl : x25 = undef := r25
            rw [if_neg (by rw [show Region.wanted _ _ = false from wanted_lost (j := 10) (b := true) rfl (yielded_undef (o := _) rfl rfl e25)]; decide)]
            exact rfl
          refine AllFrom.cons (k := 14) ?_ ?_
          · intro a w' hC hO hd
            obtain ⟨x26, e26, r26⟩ := hd ⟨11, .data⟩ (by simp) rfl _ _ rfl rfl
            obtain rfl : x26 = undef := r26
            obtain ⟨x28, e28, r28⟩ := hd ⟨13, .data⟩ (by simp) rfl _ _ rfl rfl
            obtain rfl : x28 = undef := r28
            obtain ⟨x25, e25, r25⟩ := hd ⟨10, .guard⟩ (by simp) rfl _ _ rfl rfl
            obtain rfl : x25 = undef := r25
            rw [if_neg (by rw [show Region.wanted _ _ = false from wanted_lost (j := 10) (b := true) rfl (yielded_undef (o := _) rfl rfl e25)]; decide)]
            exact rfl
          refine AllFrom.cons (k := 15) ?_ ?_
          · intro a w' hC hO hd
            obtain ⟨x29, e29, r29⟩ := hd ⟨14, .data⟩ (by simp) rfl _ _ rfl rfl
            obtain rfl : x29 = undef := r29
            obtain ⟨x25, e25, r25⟩ := hd ⟨10, .guard⟩ (by simp) rfl _ _ rfl rfl
            obtain rfl : x25 = undef := r25
            rw [if_neg (by rw [show Region.wanted _ _ = false from wanted_lost (j := 10) (b := true) rfl (yielded_undef (o := _) rfl rfl e25)]; decide)]
            exact rfl
          refine AllFrom.cons (k := 16) ?_ ?_
          · intro a w' hC hO hd
            obtain ⟨x30, e30, r30⟩ := hd ⟨15, .data⟩ (by simp) rfl _ _ rfl rfl
            obtain rfl : x30 = undef := r30
            obtain ⟨x25, e25, r25⟩ := hd ⟨10, .guard⟩ (by simp) rfl _ _ rfl rfl
            obtain rfl : x25 = undef := r25
            rw [if_neg (by rw [show Region.wanted _ _ = false from wanted_lost (j := 10) (b := true) rfl (yielded_undef (o := _) rfl rfl e25)]; decide)]
            exact rfl
          refine AllFrom.cons (k := 17) ?_ ?_
          · intro a w' hC hO hd
            obtain ⟨x25, e25, r25⟩ := hd ⟨10, .guard⟩ (by simp) rfl _ _ rfl rfl
            obtain rfl : x25 = undef := r25
            rw [if_neg (by rw [show Region.wanted _ _ = false from wanted_lost (j := 10) (b := true) rfl (yielded_undef (o := _) rfl rfl e25)]; decide)]
            exact rfl
          refine AllFrom.cons (k := 18) ?_ ?_
          · intro a w' hC hO hd
            obtain ⟨x32, e32, r32⟩ := hd ⟨17, .data⟩ (by simp) rfl _ _ rfl rfl
            obtain rfl : x32 = undef := r32
            obtain ⟨x25, e25, r25⟩ := hd ⟨10, .guard⟩ (by simp) rfl _ _ rfl rfl
            obtain rfl : x25 = undef := r25
            rw [if_neg (by rw [show Region.wanted _ _ = false from wanted_lost (j := 10) (b := true) rfl (yielded_undef (o := _) rfl rfl e25)]; decide)]
            exact rfl
          refine AllFrom.cons (k := 19) ?_ ?_
          · intro a w' hC hO hd
            obtain ⟨x31, e31, r31⟩ := hd ⟨16, .data⟩ (by simp) rfl _ _ rfl rfl
            obtain rfl : x31 = undef := r31
            obtain ⟨x33, e33, r33⟩ := hd ⟨18, .data⟩ (by simp) rfl _ _ rfl rfl
            obtain rfl : x33 = undef := r33
            obtain ⟨x25, e25, r25⟩ := hd ⟨10, .guard⟩ (by simp) rfl _ _ rfl rfl
            obtain rfl : x25 = undef := r25
            rw [if_neg (by rw [show Region.wanted _ _ = false from wanted_lost (j := 10) (b := true) rfl (yielded_undef (o := _) rfl rfl e25)]; decide)]
            exact rfl
          refine AllFrom.cons (k := 20) ?_ ?_
          · intro a w' hC hO hd
            obtain ⟨x34, e34, r34⟩ := hd ⟨19, .data⟩ (by simp) rfl _ _ rfl rfl
            obtain rfl : x34 = undef := r34
            obtain ⟨x25, e25, r25⟩ := hd ⟨10, .guard⟩ (by simp) rfl _ _ rfl rfl
            obtain rfl : x25 = undef := r25
            rw [if_neg (by rw [show Region.wanted _ _ = false from wanted_lost (j := 10) (b := true) rfl (yielded_undef (o := _) rfl rfl e25)]; decide)]
            exact rfl
          refine AllFrom.cons (k := 21) ?_ ?_
          · intro a w' hC hO hd
            obtain ⟨x25, e25, r25⟩ := hd ⟨10, .data⟩ (by simp) rfl _ _ rfl rfl
            obtain rfl : x25 = undef := r25
            obtain ⟨x35, e35, r35⟩ := hd ⟨20, .data⟩ (by simp) rfl _ _ rfl rfl
            obtain rfl : x35 = undef := r35
            obtain ⟨x22, e22, r22⟩ := hd ⟨7, .guard⟩ (by simp) rfl _ _ rfl rfl
            obtain rfl : x22 = .bool true := r22
            rw [if_neg (by rw [show Region.wanted _ _ = false from wanted_not (j := 7) (b := false) (c := true) rfl (yielded_of (o := _) rfl rfl e22) (by decide)]; decide)]
            exact rfl
          refine AllFrom.cons (k := 22) ?_ ?_
          · intro a w' hC hO hd
            obtain ⟨x22, e22, r22⟩ := hd ⟨7, .data⟩ (by simp) rfl _ _ rfl rfl
            obtain rfl : x22 = .bool true := r22
            obtain ⟨x36, e36, r36⟩ := hd ⟨21, .data⟩ (by simp) rfl _ _ rfl rfl
            obtain rfl : x36 = undef := r36
            rw [if_pos (wanted_none rfl)]
            clear hd hO
            refine pure_step (.bool true) rfl hC (PutG.refl _) ?_
            go_simp
          exact trivial
        · intro a' w4 hC hO hrows
          obtain ⟨xc, ec, rc⟩ := hrows 5 _ _ rfl rfl
          obtain ⟨xp, ep, rp⟩ := hrows 22 _ _ rfl rfl
          obtain rfl : xp = .bool true := rp
          obtain ⟨us, hus, ha⟩ := hO.lit rfl [false, false, false, false, false, false, false, false, false, false, false, false, false, false, false, true, true, true, true, true, true, true, true, true, true, true, true, true, true, true, true, true, true, true, true, true, true, true, false, false, false, false, false] (by kernel_rfl)
          have uc := hus 20 _ rfl ec
          have up := hus 37 _ rfl ep
          clear hrows hO hus ec ep
          subst ha
          simp only [merge, Nat.reduceAdd, uc, up, List.drop_succ_cons, List.drop_zero]
          clear uc up
          obtain ⟨rfl, hd4⟩ := show xc = .int .i64 pc ∧ DraftIs w4 (w.heap.size + 1) w.heap.size d2 from rc
        -- [end rows]
          have hdr : Sp.drafted l = none := by
            unfold Sp.drafted
            rw [if_neg hne, HNN.out, if_pos (.inl (by rw [← HPQ.out]; exact hc0))]
          have HKE := hid (HKQ.out.trans hC.1 (fun y hy => .inr (by rw [List.mem_singleton] at hy; omega)))
          have HDR := hid hdr
          clear hC hd4 hdr HNN HPQ HCC HPS
          go_wp2
          go_returns
          refine ⟨?_, HKE.out⟩
          rw [HE.out]
          unfold NewDraft
          rw [HDR.out]
          exact ⟨none, rfl⟩
      obtain rfl : pc = 0 := by simpa using hc0
      have hbc : ((0 : Int) != 0) = false := rfl
      by_cases hk0 : k = 0
      · subst hk0
        have hN2 : Sp.draftedN 0 [] none l = Sp.draftedN (0 + 1) d2 ((l.take (0 + 1)).getLast?.map (·.key)) (l.drop (0 + 1)) := by
          rw [HNN.out, if_neg (by rw [← HPQ.out]; simp), ← HPQ.out]
        have HN2 := hid hN2
        clear hN2 HNN HPQ hc0
        -- [rows drafted5first]
        refine wp_region_rows (yieldDenG [.eq (.pointer (some ⟨(w.heap.size + 1), 0, none⟩)), .eq (.pointer (some ⟨wr.heap.size, 0, none⟩)), .eq (.agg #[.int .u8 (x1.toNat : Int), .int .u8 (x2.toNat : Int), .int .u8 (x3.toNat : Int), .int .u8 (x4.toNat : Int)]), .eq (.pointer (some ⟨wr.heap.size, 4, none⟩)), .eq (.agg #[.bool x5, .int .i64 x6]), .is (fun v w' => v = .int .i64 0 ∧ DraftIs w' (w.heap.size + 1) w.heap.size d2) (fun v w w' hg h => ⟨h.1, hg.2 h.2⟩), .eq (.bool false), .eq (.bool false), .eq (.int .i64 0), .eq (.bool false), .eq (.bool false), .eq (undef), .eq (undef), .eq (undef), .eq (undef), .eq (undef), .eq (undef), .eq (undef), .eq (undef), .eq (undef), .eq (undef), .eq (.bool false), .eq (.bool false)]) (fun w' => PutC wq (w.heap.size + 1) w.heap.size d d2 w') (PutG (w.heap.size + 1) w.heap.size d2) (by kernel_rfl) (fun j v w w' h h' => yieldDenG_kept _ j v w w' h h') (fun w => PutG.refl w) (by kernel_rfl) (by kernel_rfl) HCC.out ?_ ?_
        · skip
          refine AllFrom.cons (k := 0) ?_ ?_
          · intro a w' hC hO hd
            rw [if_pos (wanted_none rfl)]
            have p4 : a.tmps[4]? = some (.pointer (some ⟨(w.heap.size + 1), 0, none⟩)) := hO.at (by kernel_rfl) rfl
            clear hd hO
            refine pure_step (.pointer (some ⟨(w.heap.size + 1), 0, none⟩)) rfl hC (PutG.refl _) ?_
            go_simp
          refine AllFrom.cons (k := 1) ?_ ?_
          · intro a w' hC hO hd
            rw [if_pos (wanted_none rfl)]
            have p6 : a.tmps[6]? = some (.pointer (some ⟨wr.heap.size, 0, none⟩)) := hO.at (by kernel_rfl) rfl
            clear hd hO
            refine pure_step (.pointer (some ⟨wr.heap.size, 0, none⟩)) rfl hC (PutG.refl _) ?_
            go_simp
          refine AllFrom.cons (k := 2) ?_ ?_
          · intro a w' hC hO hd
            obtain ⟨x16, e16, r16⟩ := hd ⟨1, .data⟩ (by simp) rfl _ _ rfl rfl
            obtain rfl : x16 = .pointer (some ⟨wr.heap.size, 0, none⟩) := r16
            rw [if_pos (wanted_none rfl)]
            obtain ⟨y0, y1, y2, y3, y4, y5⟩ := HPB.out w' hC.1
            clear hd hO
            refine pure_step (.agg #[.int .u8 (x1.toNat : Int), .int .u8 (x2.toNat : Int), .int .u8 (x3.toNat : Int), .int .u8 (x4.toNat : Int)]) rfl hC (PutG.refl _) ?_
            go_simp
          refine AllFrom.cons (k := 3) ?_ ?_
          · intro a w' hC hO hd
            rw [if_pos (wanted_none rfl)]
            have p6 : a.tmps[6]? = some (.pointer (some ⟨wr.heap.size, 0, none⟩)) := hO.at (by kernel_rfl) rfl
            clear hd hO
            refine pure_step (.pointer (some ⟨wr.heap.size, 4, none⟩)) rfl hC (PutG.refl _) ?_
            go_simp
          refine AllFrom.cons (k := 4) ?_ ?_
          · intro a w' hC hO hd
            obtain ⟨x18, e18, r18⟩ := hd ⟨3, .data⟩ (by simp) rfl _ _ rfl rfl
            obtain rfl : x18 = .pointer (some ⟨wr.heap.size, 4, none⟩) := r18
            rw [if_pos (wanted_none rfl)]
            obtain ⟨y0, y1, y2, y3, y4, y5⟩ := HPB.out w' hC.1
            clear hd hO
            refine pure_step (.agg #[.bool x5, .int .i64 x6]) rfl hC (PutG.refl _) ?_
            go_simp
          refine AllFrom.cons (k := 5) ?_ ?_
          · intro a w' hC hO hd
            obtain ⟨x15, e15, r15⟩ := hd ⟨0, .data⟩ (by simp) rfl _ _ rfl rfl
            obtain rfl : x15 = .pointer (some ⟨(w.heap.size + 1), 0, none⟩) := r15
            obtain ⟨x17, e17, r17⟩ := hd ⟨2, .data⟩ (by simp) rfl _ _ rfl rfl
            obtain rfl : x17 = .agg #[.int .u8 (x1.toNat : Int), .int .u8 (x2.toNat : Int), .int .u8 (x3.toNat : Int), .int .u8 (x4.toNat : Int)] := r17
            obtain ⟨x19, e19, r19⟩ := hd ⟨4, .data⟩ (by simp) rfl _ _ rfl rfl
            obtain rfl : x19 = .agg #[.bool x5, .int .i64 x6] := r19
            rw [if_pos (wanted_none rfl)]
            clear hd hO
            have hps := HPS.out w' hC
            go_simp
            refine hps.mono ?_
            rintro e y ⟨rfl, hd2, hc2, hg2⟩
            exact ⟨_, rfl, ⟨rfl, hd2⟩, hc2, hg2⟩
          refine AllFrom.cons (k := 6) ?_ ?_
          · intro a w' hC hO hd
            obtain ⟨x20, e20, r20⟩ := hd ⟨5, .data⟩ (by simp) rfl _ _ rfl rfl
            obtain ⟨rfl, hd20⟩ := r20
            rw [if_pos (wanted_none rfl)]
            clear hd hO
            refine pure_step (.bool false) rfl hC (PutG.refl _) ?_
            go_simp
          refine AllFrom.cons (k := 7) ?_ ?_
          · intro a w' hC hO hd
            obtain ⟨x21, e21, r21⟩ := hd ⟨6, .data⟩ (by simp) rfl _ _ rfl rfl
            obtain rfl : x21 = .bool false := r21
            rw [if_pos (wanted_none rfl)]
            clear hd hO
            refine pure_step (.bool false) rfl hC (PutG.refl _) ?_
            go_simp
          refine AllFrom.cons (k := 8) ?_ ?_
          · intro a w' hC hO hd
            obtain ⟨x22, e22, r22⟩ := hd ⟨7, .guard⟩ (by simp) rfl _ _ rfl rfl
            obtain rfl : x22 = .bool false := r22
            rw [if_pos (wanted_some (j := 7) (b := false) rfl (yielded_of (o := _) rfl rfl e22))]
            have p5 : a.tmps[5]? = some (.int .i64 0) := hO.at (by kernel_rfl) rfl
            clear hd hO
            refine pure_step (.int .i64 0) rfl hC (PutG.refl _) ?_
            go_simp
          refine AllFrom.cons (k := 9) ?_ ?_
          · intro a w' hC hO hd
            obtain ⟨x23, e23, r23⟩ := hd ⟨8, .data⟩ (by simp) rfl _ _ rfl rfl
            obtain rfl : x23 = .int .i64 0 := r23
            obtain ⟨x22, e22, r22⟩ := hd ⟨7, .guard⟩ (by simp) rfl _ _ rfl rfl
            obtain rfl : x22 = .bool false := r22
            rw [if_pos (wanted_some (j := 7) (b := false) rfl (yielded_of (o := _) rfl rfl e22))]
            clear hd hO
            refine pure_step (.bool false) rfl hC (PutG.refl _) ?_
            go_simp
          refine AllFrom.cons (k := 10) ?_ ?_
          · intro a w' hC hO hd
            obtain ⟨x24, e24, r24⟩ := hd ⟨9, .data⟩ (by simp) rfl _ _ rfl rfl
            obtain rfl : x24 = .bool false := r24
            obtain ⟨x22, e22, r22⟩ := hd ⟨7, .guard⟩ (by simp) rfl _ _ rfl rfl
            obtain rfl : x22 = .bool false := r22
            rw [if_pos (wanted_some (j := 7) (b := false) rfl (yielded_of (o := _) rfl rfl e22))]
            clear hd hO
            refine pure_step (.bool false) rfl hC (PutG.refl _) ?_
            go_simp
          refine AllFrom.cons (k := 11) ?_ ?_
          · intro a w' hC hO hd
            obtain ⟨x25, e25, r25⟩ := hd ⟨10, .guard⟩ (by simp) rfl _ _ rfl rfl
            obtain rfl : x25 = .bool false := r25
            rw [if_neg (by rw [show Region.wanted _ _ = false from wanted_not (j := 10) (b := true) (c := false) rfl (yielded_of (o := _) rfl rfl e25) (by decide)]; decide)]
            exact rfl
          refine AllFrom.cons (k := 12) ?_ ?_
          · intro a w' hC hO hd
            obtain ⟨x25, e25, r25⟩ := hd ⟨10, .guard⟩ (by simp) rfl _ _ rfl rfl
            obtain rfl : x25 = .bool false := r25
            rw [if_neg (by rw [show Region.wanted _ _ = false from wanted_not (j := 10) (b := true) (c := false) rfl (yielded_of (o := _) rfl rfl e25) (by decide)]; decide)]
            exact rfl
          refine AllFrom.cons (k := 13) ?_ ?_
          · intro a w' hC hO hd
            obtain ⟨x27, e27, r27⟩ := hd ⟨12, .data⟩ (by simp) rfl _ _ rfl rfl
            obtain rfl : x27 = undef := r27
            obtain ⟨x25, e25, r25⟩ := hd ⟨10, .guard⟩ (by simp) rfl _ _ rfl rfl
            obtain rfl : x25 = .bool false := r25
            rw [if_neg (by rw [show Region.wanted _ _ = false from wanted_not (j := 10) (b := true) (c := false) rfl (yielded_of (o := _) rfl rfl e25) (by decide)]; decide)]
            exact rfl
          refine AllFrom.cons (k := 14) ?_ ?_
          · intro a w' hC hO hd
            obtain ⟨x26, e26, r26⟩ := hd ⟨11, .data⟩ (by simp) rfl _ _ rfl rfl
            obtain rfl : x26 = undef := r26
            obtain ⟨x28, e28, r28⟩ := hd ⟨13, .data⟩ (by simp) rfl _ _ rfl rfl
            obtain rfl : x28 = undef := r28
            obtain ⟨x25, e25, r25⟩ := hd ⟨10, .guard⟩ (by simp) rfl _ _ rfl rfl
            obtain rfl : x25 = .bool false := r25
            rw [if_neg (by rw [show Region.wanted _ _ = false from wanted_not (j := 10) (b := true) (c := false) rfl (yielded_of (o := _) rfl rfl e25) (by decide)]; decide)]
            exact rfl
          refine AllFrom.cons (k := 15) ?_ ?_
          · intro a w' hC hO hd
            obtain ⟨x29, e29, r29⟩ := hd ⟨14, .data⟩ (by simp) rfl _ _ rfl rfl
            obtain rfl : x29 = undef := r29
            obtain ⟨x25, e25, r25⟩ := hd ⟨10, .guard⟩ (by simp) rfl _ _ rfl rfl
            obtain rfl : x25 = .bool false := r25
            rw [if_neg (by rw [show Region.wanted _ _ = false from wanted_not (j := 10) (b := true) (c := false) rfl (yielded_of (o := _) rfl rfl e25) (by decide)]; decide)]
            exact rfl
          refine AllFrom.cons (k := 16) ?_ ?_
          · intro a w' hC hO hd
            obtain ⟨x30, e30, r30⟩ := hd ⟨15, .data⟩ (by simp) rfl _ _ rfl rfl
            obtain rfl : x30 = undef := r30
            obtain ⟨x25, e25, r25⟩ := hd ⟨10, .guard⟩ (by simp) rfl _ _ rfl rfl
            obtain rfl : x25 = .bool false := r25
            rw [if_neg (by rw [show Region.wanted _ _ = false from wanted_not (j := 10) (b := true) (c := false) rfl (yielded_of (o := _) rfl rfl e25) (by decide)]; decide)]
            exact rfl
          refine AllFrom.cons (k := 17) ?_ ?_
          · intro a w' hC hO hd
            obtain ⟨x25, e25, r25⟩ := hd ⟨10, .guard⟩ (by simp) rfl _ _ rfl rfl
            obtain rfl : x25 = .bool false := r25
            rw [if_neg (by rw [show Region.wanted _ _ = false from wanted_not (j := 10) (b := true) (c := false) rfl (yielded_of (o := _) rfl rfl e25) (by decide)]; decide)]
            exact rfl
          refine AllFrom.cons (k := 18) ?_ ?_
          · intro a w' hC hO hd
            obtain ⟨x32, e32, r32⟩ := hd ⟨17, .data⟩ (by simp) rfl _ _ rfl rfl
            obtain rfl : x32 = undef := r32
            obtain ⟨x25, e25, r25⟩ := hd ⟨10, .guard⟩ (by simp) rfl _ _ rfl rfl
            obtain rfl : x25 = .bool false := r25
            rw [if_neg (by rw [show Region.wanted _ _ = false from wanted_not (j := 10) (b := true) (c := false) rfl (yielded_of (o := _) rfl rfl e25) (by decide)]; decide)]
            exact rfl
          refine AllFrom.cons (k := 19) ?_ ?_
          · intro a w' hC hO hd
            obtain ⟨x31, e31, r31⟩ := hd ⟨16, .data⟩ (by simp) rfl _ _ rfl rfl
            obtain rfl : x31 = undef := r31
            obtain ⟨x33, e33, r33⟩ := hd ⟨18, .data⟩ (by simp) rfl _ _ rfl rfl
            obtain rfl : x33 = undef := r33
            obtain ⟨x25, e25, r25⟩ := hd ⟨10, .guard⟩ (by simp) rfl _ _ rfl rfl
            obtain rfl : x25 = .bool false := r25
            rw [if_neg (by rw [show Region.wanted _ _ = false from wanted_not (j := 10) (b := true) (c := false) rfl (yielded_of (o := _) rfl rfl e25) (by decide)]; decide)]
            exact rfl
          refine AllFrom.cons (k := 20) ?_ ?_
          · intro a w' hC hO hd
            obtain ⟨x34, e34, r34⟩ := hd ⟨19, .data⟩ (by simp) rfl _ _ rfl rfl
            obtain rfl : x34 = undef := r34
            obtain ⟨x25, e25, r25⟩ := hd ⟨10, .guard⟩ (by simp) rfl _ _ rfl rfl
            obtain rfl : x25 = .bool false := r25
            rw [if_neg (by rw [show Region.wanted _ _ = false from wanted_not (j := 10) (b := true) (c := false) rfl (yielded_of (o := _) rfl rfl e25) (by decide)]; decide)]
            exact rfl
          refine AllFrom.cons (k := 21) ?_ ?_
          · intro a w' hC hO hd
            obtain ⟨x25, e25, r25⟩ := hd ⟨10, .data⟩ (by simp) rfl _ _ rfl rfl
            obtain rfl : x25 = .bool false := r25
            obtain ⟨x35, e35, r35⟩ := hd ⟨20, .data⟩ (by simp) rfl _ _ rfl rfl
            obtain rfl : x35 = undef := r35
            obtain ⟨x22, e22, r22⟩ := hd ⟨7, .guard⟩ (by simp) rfl _ _ rfl rfl
            obtain rfl : x22 = .bool false := r22
            rw [if_pos (wanted_some (j := 7) (b := false) rfl (yielded_of (o := _) rfl rfl e22))]
            clear hd hO
            refine pure_step (.bool false) rfl hC (PutG.refl _) ?_
            go_simp
          refine AllFrom.cons (k := 22) ?_ ?_
          · intro a w' hC hO hd
            obtain ⟨x22, e22, r22⟩ := hd ⟨7, .data⟩ (by simp) rfl _ _ rfl rfl
            obtain rfl : x22 = .bool false := r22
            obtain ⟨x36, e36, r36⟩ := hd ⟨21, .data⟩ (by simp) rfl _ _ rfl rfl
            obtain rfl : x36 = .bool false := r36
            rw [if_pos (wanted_none rfl)]
            clear hd hO
            refine pure_step (.bool false) rfl hC (PutG.refl _) ?_
            go_simp
          exact trivial
        · intro a' w4 hC hO hrows
          obtain ⟨xc, ec, rc⟩ := hrows 5 _ _ rfl rfl
          obtain ⟨xp, ep, rp⟩ := hrows 22 _ _ rfl rfl
          obtain rfl : xp = .bool false := rp
          obtain ⟨us, hus, ha⟩ := hO.lit rfl [false, false, false, false, false, false, false, false, false, false, false, false, false, false, false, true, true, true, true, true, true, true, true, true, true, true, true, true, true, true, true, true, true, true, true, true, true, true, false, false, false, false, false] (by kernel_rfl)
          have uc := hus 20 _ rfl ec
          have up := hus 37 _ rfl ep
          clear hrows hO hus ec ep
          subst ha
          simp only [merge, Nat.reduceAdd, uc, up, List.drop_succ_cons, List.drop_zero]
          clear uc up
          obtain ⟨rfl, hd4⟩ := show xc = .int .i64 0 ∧ DraftIs w4 (w.heap.size + 1) w.heap.size d2 from rc
        -- [end rows]
          have HKE := hid (HKQ.out.trans hC.1 (fun y hy => .inr (by rw [List.mem_singleton] at hy; omega)))
          have HD4 := hid hd4
          clear hC hd4 HCC HPS
          go_wp2
          go_roundg (l.length - (0 + 1))
          case measure => omega
          case rel => exact ⟨0 + 1, d2, by first | rfl | go_num, by omega, Nat.le_refl _, HN2.out, HD4.out, HKE.out⟩
      obtain ⟨j, hj⟩ : ∃ j, k = j + 1 := ⟨k - 1, by omega⟩
      have hjl : j < l.length := by omega
      obtain ⟨cm, hcm⟩ : ∃ cm, cm = ordK l[j].key ⟨x1, x2, x3, x4⟩ := ⟨_, rfl⟩
      obtain ⟨ge, hge⟩ : ∃ ge, ge = decide (0 ≤ cm) := ⟨_, rfl⟩
      have hgn : ge = decide (K4.num ⟨x1, x2, x3, x4⟩ ≤ l[j].key.num) := by rw [hge, hcm, ordK_ge]
      have hgc : decide (0 ≤ cm) = ge := hge.symm
      have hlast : (l.take k).getLast?.map (·.key) = some l[j].key := by rw [hj]; exact last_take l j hjl
      have HLAST := hid hlast
      have HGN := hid hgn
      have hkp : (0 : Int) < (k : Int) := by omega
      have hkn : 0 < k := by omega
      have hkj : IntKind.i64.wrap ((k : Int) - 1) = (j : Int) := by
        rw [IntKind.wrap_i64]; omega
      have hjw : IntKind.i64.wrap (j : Int) = (j : Int) := by rw [IntKind.wrap_i64]; omega
      have hjz : (j : Int) < (l.length : Int) := by omega
      have HCP := hid (fun W (hK : Kept [w.heap.size] wq W) => by
        have := bcompare_any ⟨b, off + j * 6, none⟩ ⟨wr.heap.size, 0, none⟩ l[j].key ⟨x1, x2, x3, x4⟩ W 4 4 (keyf_at (fun jj u h => (HKA.out.cell (HCW.out jj u h) (by simp) |> fun h => hK.cell h (by rw [List.mem_singleton]; omega))) hjl) (by
          obtain ⟨y0, y1, y2, y3, _, _⟩ := HPB.out W hK
          exact keyf_new y0 y1 y2 y3)
        rw [← hcm] at this
        exact this)
      have HJ := hid hj
      clear hgn hlast hcm hge hk0 hc0 hj
      -- [rows drafted5next]
      refine wp_region_rows (yieldDenG [.eq (.pointer (some ⟨(w.heap.size + 1), 0, none⟩)), .eq (.pointer (some ⟨wr.heap.size, 0, none⟩)), .eq (.agg #[.int .u8 (x1.toNat : Int), .int .u8 (x2.toNat : Int), .int .u8 (x3.toNat : Int), .int .u8 (x4.toNat : Int)]), .eq (.pointer (some ⟨wr.heap.size, 4, none⟩)), .eq (.agg #[.bool x5, .int .i64 x6]), .is (fun v w' => v = .int .i64 0 ∧ DraftIs w' (w.heap.size + 1) w.heap.size d2) (fun v w w' hg h => ⟨h.1, hg.2 h.2⟩), .eq (.bool false), .eq (.bool false), .eq (.int .i64 (k : Int)), .eq (.bool true), .eq (.bool true), .eq (.slice (some ⟨b, off, none⟩) l.length vc), .eq (.int .i64 (k : Int)), .eq (.int .i64 (j : Int)), .eq (.pointer (some ⟨b, off + j * 6, none⟩)), .eq (.pointer (some ⟨b, off + j * 6, none⟩)), .eq (.slice (some ⟨b, off + j * 6, none⟩) 4 4), .eq (.pointer (some ⟨wr.heap.size, 0, none⟩)), .eq (.slice (some ⟨wr.heap.size, 0, none⟩) 4 4), .eq (.int .i64 cm), .eq (.bool ge), .eq (.bool ge), .eq (.bool ge)]) (fun w' => PutC wq (w.heap.size + 1) w.heap.size d d2 w') (PutG (w.heap.size + 1) w.heap.size d2) (by kernel_rfl) (fun j v w w' h h' => yieldDenG_kept _ j v w w' h h') (fun w => PutG.refl w) (by kernel_rfl) (by kernel_rfl) HCC.out ?_ ?_
      · skip
        refine AllFrom.cons (k := 0) ?_ ?_
        · intro a w' hC hO hd
          rw [if_pos (wanted_none rfl)]
          have p4 : a.tmps[4]? = some (.pointer (some ⟨(w.heap.size + 1), 0, none⟩)) := hO.at (by kernel_rfl) rfl
          clear hd hO
          refine pure_step (.pointer (some ⟨(w.heap.size + 1), 0, none⟩)) rfl hC (PutG.refl _) ?_
          go_simp
        refine AllFrom.cons (k := 1) ?_ ?_
        · intro a w' hC hO hd
          rw [if_pos (wanted_none rfl)]
          have p6 : a.tmps[6]? = some (.pointer (some ⟨wr.heap.size, 0, none⟩)) := hO.at (by kernel_rfl) rfl
          clear hd hO
          refine pure_step (.pointer (some ⟨wr.heap.size, 0, none⟩)) rfl hC (PutG.refl _) ?_
          go_simp
        refine AllFrom.cons (k := 2) ?_ ?_
        · intro a w' hC hO hd
          obtain ⟨x16, e16, r16⟩ := hd ⟨1, .data⟩ (by simp) rfl _ _ rfl rfl
          obtain rfl : x16 = .pointer (some ⟨wr.heap.size, 0, none⟩) := r16
          rw [if_pos (wanted_none rfl)]
          obtain ⟨y0, y1, y2, y3, y4, y5⟩ := HPB.out w' hC.1
          clear hd hO
          refine pure_step (.agg #[.int .u8 (x1.toNat : Int), .int .u8 (x2.toNat : Int), .int .u8 (x3.toNat : Int), .int .u8 (x4.toNat : Int)]) rfl hC (PutG.refl _) ?_
          go_simp
        refine AllFrom.cons (k := 3) ?_ ?_
        · intro a w' hC hO hd
          rw [if_pos (wanted_none rfl)]
          have p6 : a.tmps[6]? = some (.pointer (some ⟨wr.heap.size, 0, none⟩)) := hO.at (by kernel_rfl) rfl
          clear hd hO
          refine pure_step (.pointer (some ⟨wr.heap.size, 4, none⟩)) rfl hC (PutG.refl _) ?_
          go_simp
        refine AllFrom.cons (k := 4) ?_ ?_
        · intro a w' hC hO hd
          obtain ⟨x18, e18, r18⟩ := hd ⟨3, .data⟩ (by simp) rfl _ _ rfl rfl
          obtain rfl : x18 = .pointer (some ⟨wr.heap.size, 4, none⟩) := r18
          rw [if_pos (wanted_none rfl)]
          obtain ⟨y0, y1, y2, y3, y4, y5⟩ := HPB.out w' hC.1
          clear hd hO
          refine pure_step (.agg #[.bool x5, .int .i64 x6]) rfl hC (PutG.refl _) ?_
          go_simp
        refine AllFrom.cons (k := 5) ?_ ?_
        · intro a w' hC hO hd
          obtain ⟨x15, e15, r15⟩ := hd ⟨0, .data⟩ (by simp) rfl _ _ rfl rfl
          obtain rfl : x15 = .pointer (some ⟨(w.heap.size + 1), 0, none⟩) := r15
          obtain ⟨x17, e17, r17⟩ := hd ⟨2, .data⟩ (by simp) rfl _ _ rfl rfl
          obtain rfl : x17 = .agg #[.int .u8 (x1.toNat : Int), .int .u8 (x2.toNat : Int), .int .u8 (x3.toNat : Int), .int .u8 (x4.toNat : Int)] := r17
          obtain ⟨x19, e19, r19⟩ := hd ⟨4, .data⟩ (by simp) rfl _ _ rfl rfl
          obtain rfl : x19 = .agg #[.bool x5, .int .i64 x6] := r19
          rw [if_pos (wanted_none rfl)]
          clear hd hO
          have hps := HPS.out w' hC
          go_simp
          refine hps.mono ?_
          rintro e y ⟨rfl, hd2, hc2, hg2⟩
          exact ⟨_, rfl, ⟨rfl, hd2⟩, hc2, hg2⟩
        refine AllFrom.cons (k := 6) ?_ ?_
        · intro a w' hC hO hd
          obtain ⟨x20, e20, r20⟩ := hd ⟨5, .data⟩ (by simp) rfl _ _ rfl rfl
          obtain ⟨rfl, hd20⟩ := r20
          rw [if_pos (wanted_none rfl)]
          clear hd hO
          refine pure_step (.bool false) rfl hC (PutG.refl _) ?_
          go_simp
        refine AllFrom.cons (k := 7) ?_ ?_
        · intro a w' hC hO hd
          obtain ⟨x21, e21, r21⟩ := hd ⟨6, .data⟩ (by simp) rfl _ _ rfl rfl
          obtain rfl : x21 = .bool false := r21
          rw [if_pos (wanted_none rfl)]
          clear hd hO
          refine pure_step (.bool false) rfl hC (PutG.refl _) ?_
          go_simp
        refine AllFrom.cons (k := 8) ?_ ?_
        · intro a w' hC hO hd
          obtain ⟨x22, e22, r22⟩ := hd ⟨7, .guard⟩ (by simp) rfl _ _ rfl rfl
          obtain rfl : x22 = .bool false := r22
          rw [if_pos (wanted_some (j := 7) (b := false) rfl (yielded_of (o := _) rfl rfl e22))]
          have p5 : a.tmps[5]? = some (.int .i64 (k : Int)) := hO.at (by kernel_rfl) rfl
          clear hd hO
          refine pure_step (.int .i64 (k : Int)) rfl hC (PutG.refl _) ?_
          go_simp
        refine AllFrom.cons (k := 9) ?_ ?_
        · intro a w' hC hO hd
          obtain ⟨x23, e23, r23⟩ := hd ⟨8, .data⟩ (by simp) rfl _ _ rfl rfl
          obtain rfl : x23 = .int .i64 (k : Int) := r23
          obtain ⟨x22, e22, r22⟩ := hd ⟨7, .guard⟩ (by simp) rfl _ _ rfl rfl
          obtain rfl : x22 = .bool false := r22
          rw [if_pos (wanted_some (j := 7) (b := false) rfl (yielded_of (o := _) rfl rfl e22))]
          clear hd hO
          refine pure_step (.bool true) rfl hC (PutG.refl _) ?_
          go_simp
        refine AllFrom.cons (k := 10) ?_ ?_
        · intro a w' hC hO hd
          obtain ⟨x24, e24, r24⟩ := hd ⟨9, .data⟩ (by simp) rfl _ _ rfl rfl
          obtain rfl : x24 = .bool true := r24
          obtain ⟨x22, e22, r22⟩ := hd ⟨7, .guard⟩ (by simp) rfl _ _ rfl rfl
          obtain rfl : x22 = .bool false := r22
          rw [if_pos (wanted_some (j := 7) (b := false) rfl (yielded_of (o := _) rfl rfl e22))]
          clear hd hO
          refine pure_step (.bool true) rfl hC (PutG.refl _) ?_
          go_simp
        refine AllFrom.cons (k := 11) ?_ ?_
        · intro a w' hC hO hd
          obtain ⟨x25, e25, r25⟩ := hd ⟨10, .guard⟩ (by simp) rfl _ _ rfl rfl
          obtain rfl : x25 = .bool true := r25
          rw [if_pos (wanted_some (j := 10) (b := true) rfl (yielded_of (o := _) rfl rfl e25))]
          have p0 : a.tmps[0]? = some (.slice (some ⟨b, off, none⟩) l.length vc) := hO.at (by kernel_rfl) rfl
          clear hd hO
          refine pure_step (.slice (some ⟨b, off, none⟩) l.length vc) rfl hC (PutG.refl _) ?_
          go_simp
        refine AllFrom.cons (k := 12) ?_ ?_
        · intro a w' hC hO hd
          obtain ⟨x25, e25, r25⟩ := hd ⟨10, .guard⟩ (by simp) rfl _ _ rfl rfl
          obtain rfl : x25 = .bool true := r25
          rw [if_pos (wanted_some (j := 10) (b := true) rfl (yielded_of (o := _) rfl rfl e25))]
          have p5 : a.tmps[5]? = some (.int .i64 (k : Int)) := hO.at (by kernel_rfl) rfl
          clear hd hO
          refine pure_step (.int .i64 (k : Int)) rfl hC (PutG.refl _) ?_
          go_simp
        refine AllFrom.cons (k := 13) ?_ ?_
        · intro a w' hC hO hd
          obtain ⟨x27, e27, r27⟩ := hd ⟨12, .data⟩ (by simp) rfl _ _ rfl rfl
          obtain rfl : x27 = .int .i64 (k : Int) := r27
          obtain ⟨x25, e25, r25⟩ := hd ⟨10, .guard⟩ (by simp) rfl _ _ rfl rfl
          obtain rfl : x25 = .bool true := r25
          rw [if_pos (wanted_some (j := 10) (b := true) rfl (yielded_of (o := _) rfl rfl e25))]
          clear hd hO
          refine pure_step (.int .i64 (j : Int)) rfl hC (PutG.refl _) ?_
          go_simp
        refine AllFrom.cons (k := 14) ?_ ?_
        · intro a w' hC hO hd
          obtain ⟨x26, e26, r26⟩ := hd ⟨11, .data⟩ (by simp) rfl _ _ rfl rfl
          obtain rfl : x26 = .slice (some ⟨b, off, none⟩) l.length vc := r26
          obtain ⟨x28, e28, r28⟩ := hd ⟨13, .data⟩ (by simp) rfl _ _ rfl rfl
          obtain rfl : x28 = .int .i64 (j : Int) := r28
          obtain ⟨x25, e25, r25⟩ := hd ⟨10, .guard⟩ (by simp) rfl _ _ rfl rfl
          obtain rfl : x25 = .bool true := r25
          rw [if_pos (wanted_some (j := 10) (b := true) rfl (yielded_of (o := _) rfl rfl e25))]
          clear hd hO
          refine pure_step (.pointer (some ⟨b, off + j * 6, none⟩)) rfl hC (PutG.refl _) ?_
          go_simp
        refine AllFrom.cons (k := 15) ?_ ?_
        · intro a w' hC hO hd
          obtain ⟨x29, e29, r29⟩ := hd ⟨14, .data⟩ (by simp) rfl _ _ rfl rfl
          obtain rfl : x29 = .pointer (some ⟨b, off + j * 6, none⟩) := r29
          obtain ⟨x25, e25, r25⟩ := hd ⟨10, .guard⟩ (by simp) rfl _ _ rfl rfl
          obtain rfl : x25 = .bool true := r25
          rw [if_pos (wanted_some (j := 10) (b := true) rfl (yielded_of (o := _) rfl rfl e25))]
          clear hd hO
          refine pure_step (.pointer (some ⟨b, off + j * 6, none⟩)) rfl hC (PutG.refl _) ?_
          go_simp
        refine AllFrom.cons (k := 16) ?_ ?_
        · intro a w' hC hO hd
          obtain ⟨x30, e30, r30⟩ := hd ⟨15, .data⟩ (by simp) rfl _ _ rfl rfl
          obtain rfl : x30 = .pointer (some ⟨b, off + j * 6, none⟩) := r30
          obtain ⟨x25, e25, r25⟩ := hd ⟨10, .guard⟩ (by simp) rfl _ _ rfl rfl
          obtain rfl : x25 = .bool true := r25
          rw [if_pos (wanted_some (j := 10) (b := true) rfl (yielded_of (o := _) rfl rfl e25))]
          clear hd hO
          refine pure_step (.slice (some ⟨b, off + j * 6, none⟩) 4 4) rfl hC (PutG.refl _) ?_
          go_simp
        refine AllFrom.cons (k := 17) ?_ ?_
        · intro a w' hC hO hd
          obtain ⟨x25, e25, r25⟩ := hd ⟨10, .guard⟩ (by simp) rfl _ _ rfl rfl
          obtain rfl : x25 = .bool true := r25
          rw [if_pos (wanted_some (j := 10) (b := true) rfl (yielded_of (o := _) rfl rfl e25))]
          have p6 : a.tmps[6]? = some (.pointer (some ⟨wr.heap.size, 0, none⟩)) := hO.at (by kernel_rfl) rfl
          clear hd hO
          refine pure_step (.pointer (some ⟨wr.heap.size, 0, none⟩)) rfl hC (PutG.refl _) ?_
          go_simp
        refine AllFrom.cons (k := 18) ?_ ?_
        · intro a w' hC hO hd
          obtain ⟨x32, e32, r32⟩ := hd ⟨17, .data⟩ (by simp) rfl _ _ rfl rfl
          obtain rfl : x32 = .pointer (some ⟨wr.heap.size, 0, none⟩) := r32
          obtain ⟨x25, e25, r25⟩ := hd ⟨10, .guard⟩ (by simp) rfl _ _ rfl rfl
          obtain rfl : x25 = .bool true := r25
          rw [if_pos (wanted_some (j := 10) (b := true) rfl (yielded_of (o := _) rfl rfl e25))]
          clear hd hO
          refine pure_step (.slice (some ⟨wr.heap.size, 0, none⟩) 4 4) rfl hC (PutG.refl _) ?_
          go_simp
        refine AllFrom.cons (k := 19) ?_ ?_
        · intro a w' hC hO hd
          obtain ⟨x31, e31, r31⟩ := hd ⟨16, .data⟩ (by simp) rfl _ _ rfl rfl
          obtain rfl : x31 = .slice (some ⟨b, off + j * 6, none⟩) 4 4 := r31
          obtain ⟨x33, e33, r33⟩ := hd ⟨18, .data⟩ (by simp) rfl _ _ rfl rfl
          obtain rfl : x33 = .slice (some ⟨wr.heap.size, 0, none⟩) 4 4 := r33
          obtain ⟨x25, e25, r25⟩ := hd ⟨10, .guard⟩ (by simp) rfl _ _ rfl rfl
          obtain rfl : x25 = .bool true := r25
          rw [if_pos (wanted_some (j := 10) (b := true) rfl (yielded_of (o := _) rfl rfl e25))]
          clear hd hO
          have hcp := HCP.out w' hC.1
          go_simp
          refine hcp.mono ?_
          rintro e y ⟨rfl, rfl⟩
          exact ⟨_, rfl, rfl, hC, PutG.refl _⟩
        refine AllFrom.cons (k := 20) ?_ ?_
        · intro a w' hC hO hd
          obtain ⟨x34, e34, r34⟩ := hd ⟨19, .data⟩ (by simp) rfl _ _ rfl rfl
          obtain rfl : x34 = .int .i64 cm := r34
          obtain ⟨x25, e25, r25⟩ := hd ⟨10, .guard⟩ (by simp) rfl _ _ rfl rfl
          obtain rfl : x25 = .bool true := r25
          rw [if_pos (wanted_some (j := 10) (b := true) rfl (yielded_of (o := _) rfl rfl e25))]
          clear hd hO
          refine pure_step (.bool ge) rfl hC (PutG.refl _) ?_
          go_simp
        refine AllFrom.cons (k := 21) ?_ ?_
        · intro a w' hC hO hd
          obtain ⟨x25, e25, r25⟩ := hd ⟨10, .data⟩ (by simp) rfl _ _ rfl rfl
          obtain rfl : x25 = .bool true := r25
          obtain ⟨x35, e35, r35⟩ := hd ⟨20, .data⟩ (by simp) rfl _ _ rfl rfl
          obtain rfl : x35 = .bool ge := r35
          obtain ⟨x22, e22, r22⟩ := hd ⟨7, .guard⟩ (by simp) rfl _ _ rfl rfl
          obtain rfl : x22 = .bool false := r22
          rw [if_pos (wanted_some (j := 7) (b := false) rfl (yielded_of (o := _) rfl rfl e22))]
          clear hd hO
          refine pure_step (.bool ge) rfl hC (PutG.refl _) ?_
          go_simp
        refine AllFrom.cons (k := 22) ?_ ?_
        · intro a w' hC hO hd
          obtain ⟨x22, e22, r22⟩ := hd ⟨7, .data⟩ (by simp) rfl _ _ rfl rfl
          obtain rfl : x22 = .bool false := r22
          obtain ⟨x36, e36, r36⟩ := hd ⟨21, .data⟩ (by simp) rfl _ _ rfl rfl
          obtain rfl : x36 = .bool ge := r36
          rw [if_pos (wanted_none rfl)]
          clear hd hO
          refine pure_step (.bool ge) rfl hC (PutG.refl _) ?_
          go_simp
        exact trivial
      · intro a' w4 hC hO hrows
        obtain ⟨xc, ec, rc⟩ := hrows 5 _ _ rfl rfl
        obtain ⟨xp, ep, rp⟩ := hrows 22 _ _ rfl rfl
        obtain rfl : xp = .bool ge := rp
        obtain ⟨us, hus, ha⟩ := hO.lit rfl [false, false, false, false, false, false, false, false, false, false, false, false, false, false, false, true, true, true, true, true, true, true, true, true, true, true, true, true, true, true, true, true, true, true, true, true, true, true, false, false, false, false, false] (by kernel_rfl)
        have uc := hus 20 _ rfl ec
        have up := hus 37 _ rfl ep
        clear hrows hO hus ec ep
        subst ha
        simp only [merge, Nat.reduceAdd, uc, up, List.drop_succ_cons, List.drop_zero]
        clear uc up
        obtain ⟨rfl, hd4⟩ := show xc = .int .i64 0 ∧ DraftIs w4 (w.heap.size + 1) w.heap.size d2 from rc
      -- [end rows]
        have HKE := hid (HKQ.out.trans hC.1 (fun y hy => .inr (by rw [List.mem_singleton] at hy; omega)))
        have HD4 := hid hd4
        clear hC hd4 HCC HPS HCP
        cases ge with
        | true =>
          have hdr : Sp.drafted l = none := by
            unfold Sp.drafted
            rw [if_neg hne, HNN.out, if_pos (.inr ⟨_, HLAST.out, by simpa using HGN.out⟩)]
          have HDR := hid hdr
          clear hdr HNN HPQ
          go_wp2
          go_returns
          refine ⟨?_, HKE.out⟩
          rw [HE.out]
          unfold NewDraft
          rw [HDR.out]
          exact ⟨none, rfl⟩
        | false =>
          have hN2 : Sp.draftedN 0 [] none l = Sp.draftedN (k + 1) d2 ((l.take (k + 1)).getLast?.map (·.key)) (l.drop (k + 1)) := by
            rw [HNN.out, if_neg, ← HPQ.out]
            rintro (h | ⟨k', h1, h2⟩)
            · rw [← HPQ.out] at h; exact h rfl
            · rw [HLAST.out] at h1
              obtain rfl := Option.some.inj h1
              have := HGN.out
              rw [decide_eq_true h2] at this
              cases this
          have HN2 := hid hN2
          clear hN2 HNN HPQ
          go_wp2
          go_roundg (l.length - (k + 1))
          case measure => omega
          case rel => exact ⟨k + 1, d2, by first | rfl | go_num, by omega, Nat.le_refl _, HN2.out, HD4.out, HKE.out⟩
    · obtain rfl : k = l.length := by omega
      have hltz : ¬ (l.length : Int) < (l.length : Int) := by omega
      have hN := HN.out
      rw [List.drop_length] at hN
      have hN2 : Sp.draftedN 0 [] none l = some d := hN
      have HN2 := hid hN2
      clear hN hN2 HN
      by_cases h0 : l.length = 0
      · have h0z : (l.length : Int) = 0 := by omega
        have hg : ¬ (0 : Int) < (l.length : Int) := by omega
        go_wp2
        go_returns
        refine ⟨?_, HK⟩
        rw [HE.out]
        unfold NewDraft
        have hl0 : l = [] := List.eq_nil_of_length_eq_zero h0
        have hdr : Sp.drafted l = none := by unfold Sp.drafted; rw [if_pos hl0]
        rw [hdr]
        exact ⟨_, by simp [h0z]; rfl⟩
      · have hg : (0 : Int) < (l.length : Int) := by omega
        go_wp2
        go_returns
        refine ⟨?_, HK⟩
        rw [HE.out]
        unfold NewDraft
        have hdr : Sp.drafted l = some d := by unfold Sp.drafted; rw [if_neg (fun e => h0 (by rw [e]; rfl))]; exact HN2.out
        rw [hdr]
        have hgl : 0 < l.length := by omega
        exact ⟨_, _, by simp [hgl], HD, by omega, by omega, by omega⟩
--@@ end
end Go.Proofs.YtpfgpbafechncaaGreat
