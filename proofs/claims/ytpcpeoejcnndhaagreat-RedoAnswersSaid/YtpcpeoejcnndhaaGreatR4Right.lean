/- The reference's word on a record, at every record. -/
import Derived.Test.YtpcpeoejcnndhaaGreatM2
import Derived.Test.YtpcpeoejcnndhaaGreatM1
set_option linter.all false
namespace Go.Proofs.YtpcpeoejcnndhaaGreat
open Go.RowKit Go.Proofs
theorem right_1 (tx : Int) (mask : Nat) (k : K4) (o n : V) : (⟨1, tx, mask, k, o, n⟩ : Rc).right = (numbered tx && (decide (mask = 0) && (o.right && n.right))) := by
  unfold Rc.right Rc.part
  by_cases hm : mask = 0
  · subst hm; simp [Bool.and_assoc]
  · simp [hm, Ne.symm hm]
theorem right_2 (tx : Int) (mask : Nat) (k : K4) (o n : V) : (⟨2, tx, mask, k, o, n⟩ : Rc).right = (decide ((⟨2, tx, mask, k, o, n⟩ : Rc) = ⟨2, tx, mask, ⟨0, 0, 0, 0⟩, V.zero, V.zero⟩) && (numbered tx && decide (mask ≠ 0))) := by
  unfold Rc.right Rc.part
  by_cases hm : (⟨2, tx, mask, k, o, n⟩ : Rc) = ⟨2, tx, mask, ⟨0, 0, 0, 0⟩, V.zero, V.zero⟩
  · rw [if_neg (by simp [hm])]; simp [hm]
  · rw [if_pos (by simp [Ne.symm hm])]; simp [hm]
theorem right_7 (tx : Int) (mask : Nat) (k : K4) (o n : V) : (⟨7, tx, mask, k, o, n⟩ : Rc).right = (decide ((⟨7, tx, mask, k, o, n⟩ : Rc) = ⟨7, 0, 0, k, V.zero, n⟩) && n.there) := by
  unfold Rc.right Rc.part
  by_cases hm : (⟨7, tx, mask, k, o, n⟩ : Rc) = ⟨7, 0, 0, k, V.zero, n⟩
  · rw [if_neg (by simp [hm])]; simp [hm]
  · rw [if_pos (by simp [Ne.symm hm])]; simp [hm]
theorem right_8 (tx : Int) (mask : Nat) (k : K4) (o n : V) : (⟨8, tx, mask, k, o, n⟩ : Rc).right = (decide ((⟨8, tx, mask, k, o, n⟩ : Rc) = ⟨8, 0, mask, ⟨0, 0, 0, 0⟩, V.zero, V.zero⟩) && decide (mask ≤ 64)) := by
  unfold Rc.right Rc.part
  by_cases hm : (⟨8, tx, mask, k, o, n⟩ : Rc) = ⟨8, 0, mask, ⟨0, 0, 0, 0⟩, V.zero, V.zero⟩
  · rw [if_neg (by simp [hm])]; simp [hm]
  · rw [if_pos (by simp [Ne.symm hm])]; simp [hm]
theorem right_p (c tx : Int) (mask : Nat) (k : K4) (o n : V) (hc : c = 3 ∨ c = 4 ∨ c = 5 ∨ c = 6) : (⟨c, tx, mask, k, o, n⟩ : Rc).right = (decide ((⟨c, tx, mask, k, o, n⟩ : Rc) = ⟨c, tx, 0, ⟨0, 0, 0, 0⟩, V.zero, V.zero⟩) && numbered tx) := by
  have h1 : ¬ c = 1 := by omega
  have h2 : ¬ c = 2 := by omega
  have h7 : ¬ c = 7 := by omega
  have h8 : ¬ c = 8 := by omega
  unfold Rc.right Rc.part
  by_cases hm : (⟨c, tx, mask, k, o, n⟩ : Rc) = ⟨c, tx, 0, ⟨0, 0, 0, 0⟩, V.zero, V.zero⟩
  · rw [if_neg (by simp [hm, h1, h2, h7, h8]; omega)]; simp [hm, h1, h2, h7, h8]
  · rw [if_pos (by simp [Ne.symm hm, h1, h2, h7, h8])]; simp [hm]
theorem right_x (r : Rc) (hc : r.kind < 1 ∨ 8 < r.kind) : r.right = false := by
  unfold Rc.right
  rw [if_pos (by rcases hc with h | h; exact .inl h; exact .inr (.inl h))]
--@@ concordatref04.value
theorem r4val_any (v : V) (w : World) :
    Calls Tryz.prog 59 #[v.v] w fun e w' => e = .returned (.bool v.right) ∧ Kept [] w w' := by
  obtain ⟨b, n⟩ := v
  simp only [V.v]
  cases b
  · by_cases hn : n = 0
    · subst hn
      go_enter Tryz.func59, Tryz.ntmps59
      go_wp2
      go_ret
      exact ⟨rfl, (Kept.refl [] w).alloc _⟩
    · have hn' : (n == 0) = false := by simp [hn]
      go_enter Tryz.func59, Tryz.ntmps59
      go_wp2
      go_ret
      exact ⟨ret_bool (by simp [V.right, hn]), (Kept.refl [] w).alloc _⟩
  · go_enter Tryz.func59, Tryz.ntmps59
    go_wp2
    go_ret
    exact ⟨rfl, (Kept.refl [] w).alloc _⟩
--@@ concordatref04.Right
theorem r4box {w : World} {r : Rc} {o : Obj} : ∀ W, Kept [w.heap.size + 1] ((w.alloc (.cells r.f.toArray 55)).alloc o) W → ∀ j u, r.f[j]? = some u → W.cell? ⟨w.heap.size, j, none⟩ = some u := fun W hK j u hu =>
  hK.cell (((Kept.refl [] (w.alloc (.cells r.f.toArray 55))).alloc o).cell (new_cell w r.f 55 j u hu) (by simp)) (by simp)
set_option maxHeartbeats 8000000 in
set_option maxRecDepth 100000 in
theorem r4right_all (r : Rc) (w : World) : Calls Tryz.prog 32 #[r.v] w fun e w' => e = .returned (.bool r.right) ∧ Kept [] w w' := by
  have HO := hid (r4val_any r.old)
  have HN := hid (r4val_any r.new)
  have HE := hid (fun w q => eqR w r q)
  obtain ⟨kind, tx, mask, ⟨k1, k2, k3, k4⟩, ⟨o1, o2⟩, ⟨n1, n2⟩⟩ := r
  have hnum : (1 ≤ tx ∧ tx ≤ 1048576) ∨ ¬ 1 ≤ tx ∨ (1 ≤ tx ∧ ¬ tx ≤ 1048576) := by omega
  by_cases h1 : kind = 1
  · subst h1
    rw [right_1]
    clear HE
    simp only [Rc.v]
    simp only [V.v] at HO HN
    rcases hnum with ⟨t1, t2⟩ | t1 | ⟨t1, t2⟩
    · have hnb : numbered tx = true := by simp [numbered, t1, t2]
      rw [hnb]
      by_cases hm : mask = 0
      · subst hm
        generalize (⟨o1, o2⟩ : V).right = ro at HO ⊢
        generalize (⟨n1, n2⟩ : V).right = rn at HN ⊢
        have HB := hid (fun W => r4box (w := w) (r := ⟨1, tx, 0, ⟨k1, k2, k3, k4⟩, ⟨o1, o2⟩, ⟨n1, n2⟩⟩) (o := .cells #[.int .i64 1, .int .i64 0, .int .u16 0, .int .u8 0, .int .u8 0, .int .u8 0, .int .u8 0, .bool false, .int .i64 0, .bool false, .int .i64 0] 55) W)
        cases ro with
        | false =>
          clear HN
          go_enter Tryz.func32, Tryz.ntmps32
          go_wp2_with (go_at_call 59; refine (HO.out _).mono ?_; clear HO; rintro e w2 ⟨rfl, hk2⟩)
          go_returns
          exact ⟨rfl, (((Kept.refl [] w).alloc _).alloc _).trans hk2 (fun x hx => by cases hx)⟩
        | true =>
          go_enter Tryz.func32, Tryz.ntmps32
          go_wp2_with (first
            | (go_at_call 59; refine (HO.out _).mono ?_; clear HO; rintro e w2 ⟨rfl, hk2⟩; have z9 := HB.out w2 (hk2.mono (fun x hx => by cases hx)) 9 _ rfl; have z10 := HB.out w2 (hk2.mono (fun x hx => by cases hx)) 10 _ rfl; have HK2 := hid hk2; clear hk2)
            | (go_at_call 59; refine (HN.out _).mono ?_; clear HN; rintro e w3 ⟨rfl, hk3⟩; have HK3 := hid hk3; clear hk3))
          go_returns
          exact ⟨rfl, ((((Kept.refl [] w).alloc _).alloc _).trans HK2.out (fun x hx => by cases hx)).trans HK3.out (fun x hx => by cases hx)⟩
      · have hm' : ((mask : Int) == 0) = false := by simpa using hm
        rw [decide_eq_false hm]
        clear HO HN hm
        go_enter Tryz.func32, Tryz.ntmps32
        go_wp2
        go_returns
        exact ⟨rfl, (((Kept.refl [] w).alloc _).alloc _)⟩
    · have hnb : numbered tx = false := by simp [numbered, t1]
      rw [hnb]
      clear HO HN
      go_enter Tryz.func32, Tryz.ntmps32
      go_wp2
      go_returns
      exact ⟨rfl, (((Kept.refl [] w).alloc _).alloc _)⟩
    · have hnb : numbered tx = false := by simp [numbered, t2]
      rw [hnb]
      clear HO HN
      go_enter Tryz.func32, Tryz.ntmps32
      go_wp2
      go_returns
      exact ⟨rfl, (((Kept.refl [] w).alloc _).alloc _)⟩
  · by_cases h2 : kind = 2
    · subst h2
      rw [right_2]
      clear h1
      obtain ⟨d, hd⟩ : ∃ d, d = decide ((⟨2, tx, mask, ⟨k1, k2, k3, k4⟩, ⟨o1, o2⟩, ⟨n1, n2⟩⟩ : Rc) = ⟨2, tx, mask, ⟨0, 0, 0, 0⟩, V.zero, V.zero⟩) := ⟨_, rfl⟩
      rw [← hd]
      have he : ∀ w, (binOp .eql 55 (.agg #[.int .i64 2, .int .i64 tx, .int .u16 (mask : Int), .int .u8 (k1.toNat : Int), .int .u8 (k2.toNat : Int), .int .u8 (k3.toNat : Int), .int .u8 (k4.toNat : Int), .bool o1, .int .i64 o2, .bool n1, .int .i64 n2]) (.agg #[.int .i64 2, .int .i64 tx, .int .u16 (mask : Int), .int .u8 0, .int .u8 0, .int .u8 0, .int .u8 0, .bool false, .int .i64 0, .bool false, .int .i64 0])).run Tryz.prog w = .ok (.bool d) w := fun w => by rw [hd]; exact HE.out w ⟨2, tx, mask, ⟨0, 0, 0, 0⟩, V.zero, V.zero⟩
      clear HE HO HN hd
      simp only [Rc.v]
      cases d with
      | false =>
        clear hnum
        go_enter Tryz.func32, Tryz.ntmps32
        go_wp2
        go_returns
        exact ⟨rfl, (by repeat (first | exact Kept.refl _ _ | refine Kept.drew ?_ | (refine Kept.setCell ?_ (by right; simp) _) | refine Kept.alloc ?_ _))⟩
      | true =>
        rcases hnum with ⟨t1, t2⟩ | t1 | ⟨t1, t2⟩
        · have hnb : numbered tx = true := by simp [numbered, t1, t2]
          rw [hnb]
          by_cases hm : mask = 0
          · have hm0 : ((mask : Int) != 0) = false := by simp [hm]
            rw [decide_eq_false (fun h => h hm)]
            clear hm
            go_enter Tryz.func32, Tryz.ntmps32
            go_wp2
            go_returns
            exact ⟨rfl, (by repeat (first | exact Kept.refl _ _ | refine Kept.drew ?_ | (refine Kept.setCell ?_ (by right; simp) _) | refine Kept.alloc ?_ _))⟩
          · have hm' : ((mask : Int) != 0) = true := by simpa using hm
            rw [decide_eq_true hm]
            clear hm
            go_enter Tryz.func32, Tryz.ntmps32
            go_wp2
            go_returns
            exact ⟨rfl, (by repeat (first | exact Kept.refl _ _ | refine Kept.drew ?_ | (refine Kept.setCell ?_ (by right; simp) _) | refine Kept.alloc ?_ _))⟩
        · have hnb : numbered tx = false := by simp [numbered, t1]
          rw [hnb]
          go_enter Tryz.func32, Tryz.ntmps32
          go_wp2
          go_returns
          exact ⟨rfl, (by repeat (first | exact Kept.refl _ _ | refine Kept.drew ?_ | (refine Kept.setCell ?_ (by right; simp) _) | refine Kept.alloc ?_ _))⟩
        · have hnb : numbered tx = false := by simp [numbered, t2]
          rw [hnb]
          go_enter Tryz.func32, Tryz.ntmps32
          go_wp2
          go_returns
          exact ⟨rfl, (by repeat (first | exact Kept.refl _ _ | refine Kept.drew ?_ | (refine Kept.setCell ?_ (by right; simp) _) | refine Kept.alloc ?_ _))⟩
    · by_cases h7 : kind = 7
      · subst h7
        rw [right_7]
        clear h1 h2 hnum
        obtain ⟨d, hd⟩ : ∃ d, d = decide ((⟨7, tx, mask, ⟨k1, k2, k3, k4⟩, ⟨o1, o2⟩, ⟨n1, n2⟩⟩ : Rc) = ⟨7, 0, 0, ⟨k1, k2, k3, k4⟩, V.zero, ⟨n1, n2⟩⟩) := ⟨_, rfl⟩
        rw [← hd]
        have he : ∀ w, (binOp .eql 55 (.agg #[.int .i64 7, .int .i64 tx, .int .u16 (mask : Int), .int .u8 (k1.toNat : Int), .int .u8 (k2.toNat : Int), .int .u8 (k3.toNat : Int), .int .u8 (k4.toNat : Int), .bool o1, .int .i64 o2, .bool n1, .int .i64 n2]) (.agg #[.int .i64 7, .int .i64 0, .int .u16 0, .int .u8 (k1.toNat : Int), .int .u8 (k2.toNat : Int), .int .u8 (k3.toNat : Int), .int .u8 (k4.toNat : Int), .bool false, .int .i64 0, .bool n1, .int .i64 n2])).run Tryz.prog w = .ok (.bool d) w := fun w => by rw [hd]; exact HE.out w ⟨7, 0, 0, ⟨k1, k2, k3, k4⟩, V.zero, ⟨n1, n2⟩⟩
        clear HE HO HN hd
        simp only [Rc.v]
        cases d with
        | false =>
          go_enter Tryz.func32, Tryz.ntmps32
          go_wp2
          go_returns
          exact ⟨rfl, (by repeat (first | exact Kept.refl _ _ | refine Kept.drew ?_ | (refine Kept.setCell ?_ (by right; simp) _) | refine Kept.alloc ?_ _))⟩
        | true =>
          go_enter Tryz.func32, Tryz.ntmps32
          go_wp2
          go_returns
          exact ⟨rfl, (by repeat (first | exact Kept.refl _ _ | refine Kept.drew ?_ | (refine Kept.setCell ?_ (by right; simp) _) | refine Kept.alloc ?_ _))⟩
      · by_cases h8 : kind = 8
        · subst h8
          rw [right_8]
          clear h1 h2 h7 hnum
          obtain ⟨d, hd⟩ : ∃ d, d = decide ((⟨8, tx, mask, ⟨k1, k2, k3, k4⟩, ⟨o1, o2⟩, ⟨n1, n2⟩⟩ : Rc) = ⟨8, 0, mask, ⟨0, 0, 0, 0⟩, V.zero, V.zero⟩) := ⟨_, rfl⟩
          rw [← hd]
          have he : ∀ w, (binOp .eql 55 (.agg #[.int .i64 8, .int .i64 tx, .int .u16 (mask : Int), .int .u8 (k1.toNat : Int), .int .u8 (k2.toNat : Int), .int .u8 (k3.toNat : Int), .int .u8 (k4.toNat : Int), .bool o1, .int .i64 o2, .bool n1, .int .i64 n2]) (.agg #[.int .i64 8, .int .i64 0, .int .u16 (mask : Int), .int .u8 0, .int .u8 0, .int .u8 0, .int .u8 0, .bool false, .int .i64 0, .bool false, .int .i64 0])).run Tryz.prog w = .ok (.bool d) w := fun w => by rw [hd]; exact HE.out w ⟨8, 0, mask, ⟨0, 0, 0, 0⟩, V.zero, V.zero⟩
          clear HE HO HN hd
          simp only [Rc.v]
          cases d with
          | false =>
            go_enter Tryz.func32, Tryz.ntmps32
            go_wp2
            go_returns
            exact ⟨rfl, (by repeat (first | exact Kept.refl _ _ | refine Kept.drew ?_ | (refine Kept.setCell ?_ (by right; simp) _) | refine Kept.alloc ?_ _))⟩
          | true =>
            go_enter Tryz.func32, Tryz.ntmps32
            go_wp2
            go_returns
            exact ⟨ret_bool (by simp; try omega), (by repeat (first | exact Kept.refl _ _ | refine Kept.drew ?_ | (refine Kept.setCell ?_ (by right; simp) _) | refine Kept.alloc ?_ _))⟩
        · have b1 : (kind == 1) = false := by simpa using h1
          have b2 : (kind == 2) = false := by simpa using h2
          have b7 : (kind == 7) = false := by simpa using h7
          have b8 : (kind == 8) = false := by simpa using h8
          by_cases hc : kind = 3 ∨ kind = 4 ∨ kind = 5 ∨ kind = 6
          · rw [right_p _ _ _ _ _ _ hc]
            obtain ⟨d, hd⟩ : ∃ d, d = decide ((⟨kind, tx, mask, ⟨k1, k2, k3, k4⟩, ⟨o1, o2⟩, ⟨n1, n2⟩⟩ : Rc) = ⟨kind, tx, 0, ⟨0, 0, 0, 0⟩, V.zero, V.zero⟩) := ⟨_, rfl⟩
            rw [← hd]
            have he : ∀ w, (binOp .eql 55 (.agg #[.int .i64 kind, .int .i64 tx, .int .u16 (mask : Int), .int .u8 (k1.toNat : Int), .int .u8 (k2.toNat : Int), .int .u8 (k3.toNat : Int), .int .u8 (k4.toNat : Int), .bool o1, .int .i64 o2, .bool n1, .int .i64 n2]) (.agg #[.int .i64 kind, .int .i64 tx, .int .u16 0, .int .u8 0, .int .u8 0, .int .u8 0, .int .u8 0, .bool false, .int .i64 0, .bool false, .int .i64 0])).run Tryz.prog w = .ok (.bool d) w := fun w => by rw [hd]; exact HE.out w ⟨kind, tx, 0, ⟨0, 0, 0, 0⟩, V.zero, V.zero⟩
            clear HE HO HN hd
            clear h1 h2 h7 h8 b7 b8
            rcases hc with rfl | rfl | rfl | rfl
            · clear b1 b2
              simp only [Rc.v]
              cases d with
              | false =>
                clear hnum
                go_enter Tryz.func32, Tryz.ntmps32
                go_wp2
                go_returns
                exact ⟨rfl, (by repeat (first | exact Kept.refl _ _ | refine Kept.drew ?_ | (refine Kept.setCell ?_ (by right; simp) _) | refine Kept.alloc ?_ _))⟩
              | true =>
                rcases hnum with ⟨t1, t2⟩ | t1 | ⟨t1, t2⟩
                · have hnb : numbered tx = true := by simp [numbered, t1, t2]
                  rw [hnb]
                  go_enter Tryz.func32, Tryz.ntmps32
                  go_wp2
                  go_returns
                  exact ⟨rfl, (by repeat (first | exact Kept.refl _ _ | refine Kept.drew ?_ | (refine Kept.setCell ?_ (by right; simp) _) | refine Kept.alloc ?_ _))⟩
                · have hnb : numbered tx = false := by simp [numbered, t1]
                  rw [hnb]
                  go_enter Tryz.func32, Tryz.ntmps32
                  go_wp2
                  go_returns
                  exact ⟨rfl, (by repeat (first | exact Kept.refl _ _ | refine Kept.drew ?_ | (refine Kept.setCell ?_ (by right; simp) _) | refine Kept.alloc ?_ _))⟩
                · have hnb : numbered tx = false := by simp [numbered, t2]
                  rw [hnb]
                  go_enter Tryz.func32, Tryz.ntmps32
                  go_wp2
                  go_returns
                  exact ⟨rfl, (by repeat (first | exact Kept.refl _ _ | refine Kept.drew ?_ | (refine Kept.setCell ?_ (by right; simp) _) | refine Kept.alloc ?_ _))⟩
            · clear b1 b2
              simp only [Rc.v]
              cases d with
              | false =>
                clear hnum
                go_enter Tryz.func32, Tryz.ntmps32
                go_wp2
                go_returns
                exact ⟨rfl, (by repeat (first | exact Kept.refl _ _ | refine Kept.drew ?_ | (refine Kept.setCell ?_ (by right; simp) _) | refine Kept.alloc ?_ _))⟩
              | true =>
                rcases hnum with ⟨t1, t2⟩ | t1 | ⟨t1, t2⟩
                · have hnb : numbered tx = true := by simp [numbered, t1, t2]
                  rw [hnb]
                  go_enter Tryz.func32, Tryz.ntmps32
                  go_wp2
                  go_returns
                  exact ⟨rfl, (by repeat (first | exact Kept.refl _ _ | refine Kept.drew ?_ | (refine Kept.setCell ?_ (by right; simp) _) | refine Kept.alloc ?_ _))⟩
                · have hnb : numbered tx = false := by simp [numbered, t1]
                  rw [hnb]
                  go_enter Tryz.func32, Tryz.ntmps32
                  go_wp2
                  go_returns
                  exact ⟨rfl, (by repeat (first | exact Kept.refl _ _ | refine Kept.drew ?_ | (refine Kept.setCell ?_ (by right; simp) _) | refine Kept.alloc ?_ _))⟩
                · have hnb : numbered tx = false := by simp [numbered, t2]
                  rw [hnb]
                  go_enter Tryz.func32, Tryz.ntmps32
                  go_wp2
                  go_returns
                  exact ⟨rfl, (by repeat (first | exact Kept.refl _ _ | refine Kept.drew ?_ | (refine Kept.setCell ?_ (by right; simp) _) | refine Kept.alloc ?_ _))⟩
            · clear b1 b2
              simp only [Rc.v]
              cases d with
              | false =>
                clear hnum
                go_enter Tryz.func32, Tryz.ntmps32
                go_wp2
                go_returns
                exact ⟨rfl, (by repeat (first | exact Kept.refl _ _ | refine Kept.drew ?_ | (refine Kept.setCell ?_ (by right; simp) _) | refine Kept.alloc ?_ _))⟩
              | true =>
                rcases hnum with ⟨t1, t2⟩ | t1 | ⟨t1, t2⟩
                · have hnb : numbered tx = true := by simp [numbered, t1, t2]
                  rw [hnb]
                  go_enter Tryz.func32, Tryz.ntmps32
                  go_wp2
                  go_returns
                  exact ⟨rfl, (by repeat (first | exact Kept.refl _ _ | refine Kept.drew ?_ | (refine Kept.setCell ?_ (by right; simp) _) | refine Kept.alloc ?_ _))⟩
                · have hnb : numbered tx = false := by simp [numbered, t1]
                  rw [hnb]
                  go_enter Tryz.func32, Tryz.ntmps32
                  go_wp2
                  go_returns
                  exact ⟨rfl, (by repeat (first | exact Kept.refl _ _ | refine Kept.drew ?_ | (refine Kept.setCell ?_ (by right; simp) _) | refine Kept.alloc ?_ _))⟩
                · have hnb : numbered tx = false := by simp [numbered, t2]
                  rw [hnb]
                  go_enter Tryz.func32, Tryz.ntmps32
                  go_wp2
                  go_returns
                  exact ⟨rfl, (by repeat (first | exact Kept.refl _ _ | refine Kept.drew ?_ | (refine Kept.setCell ?_ (by right; simp) _) | refine Kept.alloc ?_ _))⟩
            · clear b1 b2
              simp only [Rc.v]
              cases d with
              | false =>
                clear hnum
                go_enter Tryz.func32, Tryz.ntmps32
                go_wp2
                go_returns
                exact ⟨rfl, (by repeat (first | exact Kept.refl _ _ | refine Kept.drew ?_ | (refine Kept.setCell ?_ (by right; simp) _) | refine Kept.alloc ?_ _))⟩
              | true =>
                rcases hnum with ⟨t1, t2⟩ | t1 | ⟨t1, t2⟩
                · have hnb : numbered tx = true := by simp [numbered, t1, t2]
                  rw [hnb]
                  go_enter Tryz.func32, Tryz.ntmps32
                  go_wp2
                  go_returns
                  exact ⟨rfl, (by repeat (first | exact Kept.refl _ _ | refine Kept.drew ?_ | (refine Kept.setCell ?_ (by right; simp) _) | refine Kept.alloc ?_ _))⟩
                · have hnb : numbered tx = false := by simp [numbered, t1]
                  rw [hnb]
                  go_enter Tryz.func32, Tryz.ntmps32
                  go_wp2
                  go_returns
                  exact ⟨rfl, (by repeat (first | exact Kept.refl _ _ | refine Kept.drew ?_ | (refine Kept.setCell ?_ (by right; simp) _) | refine Kept.alloc ?_ _))⟩
                · have hnb : numbered tx = false := by simp [numbered, t2]
                  rw [hnb]
                  go_enter Tryz.func32, Tryz.ntmps32
                  go_wp2
                  go_returns
                  exact ⟨rfl, (by repeat (first | exact Kept.refl _ _ | refine Kept.drew ?_ | (refine Kept.setCell ?_ (by right; simp) _) | refine Kept.alloc ?_ _))⟩
          · have hx : kind < 1 ∨ 8 < kind := by omega
            rw [right_x _ hx]
            have b3 : (kind == 3) = false := by simp; omega
            have b4 : (kind == 4) = false := by simp; omega
            have b5 : (kind == 5) = false := by simp; omega
            have b6 : (kind == 6) = false := by simp; omega
            clear HE HO HN h1 h2 h7 h8 hc hx hnum
            simp only [Rc.v]
            go_enter Tryz.func32, Tryz.ntmps32
            go_wp2
            go_returns
            exact ⟨rfl, (by repeat (first | exact Kept.refl _ _ | refine Kept.drew ?_ | (refine Kept.setCell ?_ (by right; simp) _) | refine Kept.alloc ?_ _))⟩
--@@ end
end Go.Proofs.YtpcpeoejcnndhaaGreat
