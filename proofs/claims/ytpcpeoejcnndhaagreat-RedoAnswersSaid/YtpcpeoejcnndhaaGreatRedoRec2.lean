/- Is a record right? -/
import Derived.Test.YtpcpeoejcnndhaaGreatRedoRec
import Derived.Test.YtpcpeoejcnndhaaGreatM1
import Derived.Deep.RegionLaw
import Derived.Deep.DeepCutAuto
import Derived.Deep.CutBlock
set_option linter.all false
namespace Go.Proofs.YtpcpeoejcnndhaaGreat
open Go.RowKit Go.Shelf Go.Lib Go.Sort Go.Proofs
--@@ rec.Right
set_option maxHeartbeats 4000000 in
set_option maxRecDepth 100000 in
theorem recright_any (r : Rc) (w : World) :
    Calls Tryz.prog 27 #[r.v] w fun e w' => e = .returned (.bool r.right) ∧ Kept [] w w' := by
  have HPT := hid (recpart_any r)
  have HNE := hid (fun w => neR w r.part r)
  have HO := hid (recvalue_any r.old)
  have HN := hid (recvalue_any r.new)
  unfold Rc.right
  by_cases hk : r.kind < 1
  · rw [if_pos (.inl hk)]
    obtain ⟨kind, tx, mask, ⟨k1, k2, k3, k4⟩, ⟨o1, o2⟩, ⟨n1, n2⟩⟩ := r
    dsimp only at hk
    simp only [Rc.v]
    clear HPT HNE HO HN
    go_enter Tryz.func27, Tryz.ntmps27
    go_wp2_with fail
    go_quiet (fail)
    go_wp2
    go_returns
    exact ⟨rfl, ((Kept.refl [] w).alloc _).drewN _⟩
  · by_cases hk2 : 8 < r.kind
    · rw [if_pos (.inr (.inl hk2))]
      obtain ⟨kind, tx, mask, ⟨k1, k2, k3, k4⟩, ⟨o1, o2⟩, ⟨n1, n2⟩⟩ := r
      dsimp only at hk hk2
      simp only [Rc.v]
      clear HPT HNE HO HN
      go_enter Tryz.func27, Tryz.ntmps27
      go_wp2_with fail
      go_quiet (fail)
      go_wp2
      go_returns
      exact ⟨rfl, ((Kept.refl [] w).alloc _).drewN _⟩
    · by_cases hp : r.part = r
      · rw [if_neg (by rw [not_or, not_or]; exact ⟨hk, hk2, fun h => h hp⟩)]
        rw [show (!decide (r.part = r)) = false by simp [hp]] at HNE
        clear hp
        generalize r.part = rp at HPT HNE
        obtain ⟨kind, tx, mask, ⟨k1, k2, k3, k4⟩, ⟨o1, o2⟩, ⟨n1, n2⟩⟩ := r
        obtain ⟨pkind, ptx, pmask, ⟨p1, p2, p3, p4⟩, ⟨po1, po2⟩, ⟨pn1, pn2⟩⟩ := rp
        dsimp only at hk hk2
        have hd1 : decide (kind < 1) = false := by simpa using hk
        have hd8 : decide (8 < kind) = false := by simpa using hk2
        clear hk hk2
        have HC := hid (fun W (hK : Kept [] (w.alloc (.cells (Rc.f ⟨kind, tx, mask, ⟨k1, k2, k3, k4⟩, ⟨o1, o2⟩, ⟨n1, n2⟩⟩).toArray 55)) W) => show W.cell? ⟨w.heap.size, 0, none⟩ = some (.int .i64 kind) ∧ W.cell? ⟨w.heap.size, 1, none⟩ = some (.int .i64 tx) ∧ W.cell? ⟨w.heap.size, 2, none⟩ = some (.int .u16 (mask : Int)) ∧ W.cell? ⟨w.heap.size, 3, none⟩ = some (.int .u8 (k1.toNat : Int)) ∧ W.cell? ⟨w.heap.size, 4, none⟩ = some (.int .u8 (k2.toNat : Int)) ∧ W.cell? ⟨w.heap.size, 5, none⟩ = some (.int .u8 (k3.toNat : Int)) ∧ W.cell? ⟨w.heap.size, 6, none⟩ = some (.int .u8 (k4.toNat : Int)) ∧ W.cell? ⟨w.heap.size, 7, none⟩ = some (.bool o1) ∧ W.cell? ⟨w.heap.size, 8, none⟩ = some (.int .i64 o2) ∧ W.cell? ⟨w.heap.size, 9, none⟩ = some (.bool n1) ∧ W.cell? ⟨w.heap.size, 10, none⟩ = some (.int .i64 n2) from ⟨hK.cell (new_cell w (Rc.f ⟨kind, tx, mask, ⟨k1, k2, k3, k4⟩, ⟨o1, o2⟩, ⟨n1, n2⟩⟩) 55 0 _ rfl) (by simp), hK.cell (new_cell w (Rc.f ⟨kind, tx, mask, ⟨k1, k2, k3, k4⟩, ⟨o1, o2⟩, ⟨n1, n2⟩⟩) 55 1 _ rfl) (by simp), hK.cell (new_cell w (Rc.f ⟨kind, tx, mask, ⟨k1, k2, k3, k4⟩, ⟨o1, o2⟩, ⟨n1, n2⟩⟩) 55 2 _ rfl) (by simp), hK.cell (new_cell w (Rc.f ⟨kind, tx, mask, ⟨k1, k2, k3, k4⟩, ⟨o1, o2⟩, ⟨n1, n2⟩⟩) 55 3 _ rfl) (by simp), hK.cell (new_cell w (Rc.f ⟨kind, tx, mask, ⟨k1, k2, k3, k4⟩, ⟨o1, o2⟩, ⟨n1, n2⟩⟩) 55 4 _ rfl) (by simp), hK.cell (new_cell w (Rc.f ⟨kind, tx, mask, ⟨k1, k2, k3, k4⟩, ⟨o1, o2⟩, ⟨n1, n2⟩⟩) 55 5 _ rfl) (by simp), hK.cell (new_cell w (Rc.f ⟨kind, tx, mask, ⟨k1, k2, k3, k4⟩, ⟨o1, o2⟩, ⟨n1, n2⟩⟩) 55 6 _ rfl) (by simp), hK.cell (new_cell w (Rc.f ⟨kind, tx, mask, ⟨k1, k2, k3, k4⟩, ⟨o1, o2⟩, ⟨n1, n2⟩⟩) 55 7 _ rfl) (by simp), hK.cell (new_cell w (Rc.f ⟨kind, tx, mask, ⟨k1, k2, k3, k4⟩, ⟨o1, o2⟩, ⟨n1, n2⟩⟩) 55 8 _ rfl) (by simp), hK.cell (new_cell w (Rc.f ⟨kind, tx, mask, ⟨k1, k2, k3, k4⟩, ⟨o1, o2⟩, ⟨n1, n2⟩⟩) 55 9 _ rfl) (by simp), hK.cell (new_cell w (Rc.f ⟨kind, tx, mask, ⟨k1, k2, k3, k4⟩, ⟨o1, o2⟩, ⟨n1, n2⟩⟩) 55 10 _ rfl) (by simp)⟩)
        have hne := HNE.out
        simp only [Rc.v, Rc.f] at HPT hne HC ⊢
        clear HNE
        obtain ⟨nb, hnb⟩ : ∃ nb, nb = numbered tx := ⟨_, rfl⟩
        rw [← hnb]
        have HNB := hid hnb
        clear hnb
        go_enter Tryz.func27, Tryz.ntmps27
        go_upto_region 1 with (fail)
        go_cut [17] (fun s17 wx => s17 = .bool false ∧ Aside (Kept [] (w.alloc (.cells #[.int .i64 kind, .int .i64 tx, .int .u16 (mask : Int), .int .u8 (k1.toNat : Int), .int .u8 (k2.toNat : Int), .int .u8 (k3.toNat : Int), .int .u8 (k4.toNat : Int), .bool o1, .int .i64 o2, .bool n1, .int .i64 n2] 55)) wx))
        case first =>
          clear HO HN
          go_region_law (first
          | (go_simp; go_at_call 48; refine (HPT.out _).mono ?_; rintro e w1 ⟨rfl, hk1⟩; have hk1' := Kept.trans (show Kept [] _ _ from ((Kept.refl [] _).drew)) hk1 (fun x hx => .inl hx); obtain ⟨q0, q1, q2, q3, q4, q5, q6, q7, q8, q9, q10⟩ := HC.out _ hk1'))
          all_goals (go_wp2; go_meet)
          all_goals exact ⟨rfl, hk1'⟩
        case rest =>
        obtain ⟨rfl, HK1⟩ := hcut
        rename World => w1
        have HK0 := hid (Kept.trans ((Kept.refl [] w).alloc _) HK1.out (fun x hx => .inl hx))
        have HC1 := hid (fun W (hK : Kept [] w1 W) => HC.out W (HK1.out.trans hK (fun x hx => .inl hx)))
        obtain ⟨q0, q1, q2, q3, q4, q5, q6, q7, q8, q9, q10⟩ := HC1.out _ (Kept.refl [] w1)
        clear hne HPT HC HK1
        go_upto_region 3 with (fail)
        go_cut [3] (fun s3 wx => s3 = .bool nb ∧ wx = w1)
        case first =>
          clear HO HN
          have hnum : (1 ≤ tx ∧ tx ≤ 1048576) ∨ ¬ 1 ≤ tx ∨ (1 ≤ tx ∧ ¬ tx ≤ 1048576) := by omega
          rcases hnum with ⟨hn1, hn2⟩ | hn1 | ⟨hn1, hn2⟩
          · go_wp2
            go_meet
            exact ⟨by rw [HNB.out]; simp [numbered, hn1, hn2], rfl⟩
          · go_wp2
            go_meet
            exact ⟨by rw [HNB.out]; simp [numbered]; omega, rfl⟩
          · go_wp2
            go_meet
            exact ⟨by rw [HNB.out]; simp [numbered]; omega, rfl⟩
        case rest =>
        obtain ⟨rfl, rfl⟩ := hcut
        by_cases g1 : kind = 1
        · subst g1
          cases nb with
          | false =>
            clear HO HN
            go_wp2
            go_returns
            exact ⟨ret_bool (by simp), HK0.out⟩
          | true =>
            have hro := hid (show (⟨o1, o2⟩ : V).right = (⟨o1, o2⟩ : V).right from rfl)
            cases hO : (⟨o1, o2⟩ : V).right with
            | false =>
              rw [hO] at HO
              have HOO := hid hO
              clear HN hO
              simp only [V.v] at HO
              go_wp2_with (first
                | (go_at_call 49; refine (HO.out _).mono ?_; clear HO; rintro e w2 ⟨rfl, hk2⟩))
              go_returns
              exact ⟨ret_bool (by rw [HOO.out]; simp), HK0.out.trans hk2 (fun x hx => .inl hx)⟩
            | true =>
              rw [hO] at HO
              have HOO := hid hO
              clear hO
              simp only [V.v] at HO HN
              go_wp2_with (first
                | (go_at_call 49; refine (HO.out _).mono ?_; clear HO; rintro e w2 ⟨rfl, hk2⟩; obtain ⟨_, _, _, _, _, _, _, _, _, z9, z10⟩ := HC1.out w2 hk2; have HK2 := hid hk2; clear hk2)
                | (go_at_call 49; refine (HN.out _).mono ?_; clear HN; rintro e w3 ⟨rfl, hk3⟩))
              go_returns
              exact ⟨ret_bool (by rw [HOO.out]; simp), (HK0.out.trans HK2.out (fun x hx => .inl hx)).trans hk3 (fun x hx => .inl hx)⟩
        · have b1 : (kind == 1) = false := by simpa using g1
          have G1 := hid g1
          clear g1 HO HN HC1
          by_cases g2 : kind = 2
          · subst g2
            clear b1
            cases nb with
            | false =>
              go_wp2
              go_returns
              exact ⟨ret_bool (by simp), HK0.out⟩
            | true =>
              by_cases hm : mask = 0
              · subst hm
                go_wp2
                go_returns
                exact ⟨ret_bool (by simp), HK0.out⟩
              · have bm : ((mask : Int) != 0) = true := by simpa using hm
                have HM := hid hm
                clear hm
                go_wp2
                go_returns
                exact ⟨ret_bool (by simp; exact HM.out), HK0.out⟩
          · have b2 : (kind == 2) = false := by simpa using g2
            have G2 := hid g2
            clear g2
            by_cases g7 : kind = 7
            · subst g7
              clear b1 b2
              go_wp2
              go_returns
              exact ⟨ret_bool (by simp), HK0.out⟩
            · have b7 : (kind == 7) = false := by simpa using g7
              have G7 := hid g7
              clear g7
              by_cases g8 : kind = 8
              · subst g8
                clear b1 b2 b7
                go_wp2
                go_returns
                exact ⟨ret_bool (by simp; try omega), HK0.out⟩
              · have b8 : (kind == 8) = false := by simpa using g8
                have G8 := hid g8
                clear g8
                go_wp2
                go_returns
                exact ⟨rfl, HK0.out⟩
      · rw [if_pos (.inr (.inr hp))]
        rw [show (!decide (r.part = r)) = true by simp [hp]] at HNE
        clear hp HO HN
        generalize r.part = rp at HPT HNE
        obtain ⟨kind, tx, mask, ⟨k1, k2, k3, k4⟩, ⟨o1, o2⟩, ⟨n1, n2⟩⟩ := r
        obtain ⟨pkind, ptx, pmask, ⟨p1, p2, p3, p4⟩, ⟨po1, po2⟩, ⟨pn1, pn2⟩⟩ := rp
        dsimp only at hk hk2
        have hd1 : decide (kind < 1) = false := by simpa using hk
        have hd8 : decide (8 < kind) = false := by simpa using hk2
        clear hk hk2
        have HC := hid (fun W (hK : Kept [] (w.alloc (.cells (Rc.f ⟨kind, tx, mask, ⟨k1, k2, k3, k4⟩, ⟨o1, o2⟩, ⟨n1, n2⟩⟩).toArray 55)) W) => show W.cell? ⟨w.heap.size, 0, none⟩ = some (.int .i64 kind) ∧ W.cell? ⟨w.heap.size, 1, none⟩ = some (.int .i64 tx) ∧ W.cell? ⟨w.heap.size, 2, none⟩ = some (.int .u16 (mask : Int)) ∧ W.cell? ⟨w.heap.size, 3, none⟩ = some (.int .u8 (k1.toNat : Int)) ∧ W.cell? ⟨w.heap.size, 4, none⟩ = some (.int .u8 (k2.toNat : Int)) ∧ W.cell? ⟨w.heap.size, 5, none⟩ = some (.int .u8 (k3.toNat : Int)) ∧ W.cell? ⟨w.heap.size, 6, none⟩ = some (.int .u8 (k4.toNat : Int)) ∧ W.cell? ⟨w.heap.size, 7, none⟩ = some (.bool o1) ∧ W.cell? ⟨w.heap.size, 8, none⟩ = some (.int .i64 o2) ∧ W.cell? ⟨w.heap.size, 9, none⟩ = some (.bool n1) ∧ W.cell? ⟨w.heap.size, 10, none⟩ = some (.int .i64 n2) from ⟨hK.cell (new_cell w (Rc.f ⟨kind, tx, mask, ⟨k1, k2, k3, k4⟩, ⟨o1, o2⟩, ⟨n1, n2⟩⟩) 55 0 _ rfl) (by simp), hK.cell (new_cell w (Rc.f ⟨kind, tx, mask, ⟨k1, k2, k3, k4⟩, ⟨o1, o2⟩, ⟨n1, n2⟩⟩) 55 1 _ rfl) (by simp), hK.cell (new_cell w (Rc.f ⟨kind, tx, mask, ⟨k1, k2, k3, k4⟩, ⟨o1, o2⟩, ⟨n1, n2⟩⟩) 55 2 _ rfl) (by simp), hK.cell (new_cell w (Rc.f ⟨kind, tx, mask, ⟨k1, k2, k3, k4⟩, ⟨o1, o2⟩, ⟨n1, n2⟩⟩) 55 3 _ rfl) (by simp), hK.cell (new_cell w (Rc.f ⟨kind, tx, mask, ⟨k1, k2, k3, k4⟩, ⟨o1, o2⟩, ⟨n1, n2⟩⟩) 55 4 _ rfl) (by simp), hK.cell (new_cell w (Rc.f ⟨kind, tx, mask, ⟨k1, k2, k3, k4⟩, ⟨o1, o2⟩, ⟨n1, n2⟩⟩) 55 5 _ rfl) (by simp), hK.cell (new_cell w (Rc.f ⟨kind, tx, mask, ⟨k1, k2, k3, k4⟩, ⟨o1, o2⟩, ⟨n1, n2⟩⟩) 55 6 _ rfl) (by simp), hK.cell (new_cell w (Rc.f ⟨kind, tx, mask, ⟨k1, k2, k3, k4⟩, ⟨o1, o2⟩, ⟨n1, n2⟩⟩) 55 7 _ rfl) (by simp), hK.cell (new_cell w (Rc.f ⟨kind, tx, mask, ⟨k1, k2, k3, k4⟩, ⟨o1, o2⟩, ⟨n1, n2⟩⟩) 55 8 _ rfl) (by simp), hK.cell (new_cell w (Rc.f ⟨kind, tx, mask, ⟨k1, k2, k3, k4⟩, ⟨o1, o2⟩, ⟨n1, n2⟩⟩) 55 9 _ rfl) (by simp), hK.cell (new_cell w (Rc.f ⟨kind, tx, mask, ⟨k1, k2, k3, k4⟩, ⟨o1, o2⟩, ⟨n1, n2⟩⟩) 55 10 _ rfl) (by simp)⟩)
        have hne := HNE.out
        simp only [Rc.v, Rc.f] at HPT hne HC ⊢
        clear HNE
        go_enter Tryz.func27, Tryz.ntmps27
        go_wp2_with fail
        go_region_law (first
          | (go_simp; go_at_call 48; refine (HPT.out _).mono ?_; rintro e w1 ⟨rfl, hk1⟩; have hk1' := Kept.trans (show Kept [] _ _ from ((Kept.refl [] _).drew)) hk1 (fun x hx => .inl hx); obtain ⟨q0, q1, q2, q3, q4, q5, q6, q7, q8, q9, q10⟩ := HC.out _ hk1'))
        all_goals
          have HK1 := Kept.trans ((Kept.refl [] w).alloc _) hk1' (fun x hx => .inl hx)
          go_wp2
          go_returns
          exact ⟨rfl, HK1⟩
--@@ end
end Go.Proofs.YtpcpeoejcnndhaaGreat
