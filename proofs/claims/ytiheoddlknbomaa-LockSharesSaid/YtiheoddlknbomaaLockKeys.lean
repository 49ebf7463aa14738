/- The table's keys, in order. -/
import Derived.Test.YtiheoddlknbomaaLockSort
import Derived.Test.YtiheoddlknbomaaRange
set_option linter.all false
namespace Go.Proofs.Ytiheoddlknbomaa
open Go.RowKit Go.Shelf Go.Lib Go.Sort Go.Proofs
set_option linter.unusedVariables false
set_option linter.unusedSimpArgs false

theorem perm_of_mapL {α β : Type} (f : α → β) : ∀ {a b : List β}, a.Perm b → ∀ t : List α, b = t.map f → ∃ t' : List α, t'.Perm t ∧ a = t'.map f := fun h => by
  induction h with
  | nil => intro t ht; exact ⟨[], by cases t with | nil => exact List.Perm.refl _ | cons x t => simp at ht, rfl⟩
  | cons x _ ih =>
    intro t ht
    cases t with
    | nil => simp at ht
    | cons y t =>
      simp only [List.map_cons, List.cons.injEq] at ht
      obtain ⟨t', h1, h2⟩ := ih t ht.2
      exact ⟨y :: t', h1.cons y, by rw [ht.1, h2]; rfl⟩
  | swap x y l =>
    intro t ht
    cases t with
    | nil => simp at ht
    | cons u t =>
      cases t with
      | nil => simp at ht
      | cons z t =>
        simp only [List.map_cons, List.cons.injEq] at ht
        exact ⟨z :: u :: t, List.Perm.swap _ _ _, by rw [ht.1, ht.2.1, ht.2.2]; rfl⟩
  | trans _ _ ih1 ih2 =>
    intro t ht
    obtain ⟨t2, h1, h2⟩ := ih2 t ht
    obtain ⟨t1, h3, h4⟩ := ih1 t2 h2
    exact ⟨t1, h3.trans h1, h4⟩
theorem ownsRow_grownL {w w' : World} {base n size : Nat} {e : TypeId} {v : Value} {xs : List Value} (h : w.ownsRow base e size v n xs) (hg : w.grownBy w' v.ownBlock) : ∃ S, Kept S w w' ∧ ∀ x, x ∈ S → base ≤ x :=
  ⟨v.ownBlock.toList, Kept.of_grown hg _ (fun k hk => by simp [hk]), fun x hx => (h.lt x (by simpa using hx)).1⟩
theorem own_below {S : List Nat} {w w' : World} {base n size : Nat} {e : TypeId} {v : Value} {xs : List Value} (h : w.ownsRow base e size v n xs) (hk : Kept S w w') (hS : ∀ x, x ∈ S → x < base) : w'.ownsRow base e size v n xs :=
  own_kept h hk fun x hx hm => by have := (h.lt x hx).1; have := hS x hm; omega
def rowsL (rs : List (K4 × RR)) : List (K4 × Value) := rs.map fun p => (p.1, Value.pointer (some ⟨p.2.P, 0, none⟩))
theorem rows_perm {todo : List (K4 × RR)} {x : K4} {u : Value} {T : List (K4 × Value)} (h : (rowsL todo).Perm ((x, u) :: T)) : ∃ rr t', u = Value.pointer (some ⟨rr.P, 0, none⟩) ∧ T = rowsL t' ∧ todo.Perm ((x, rr) :: t') := by
  obtain ⟨t', h1, h2⟩ := perm_of_mapL (fun p : K4 × RR => (p.1, Value.pointer (some ⟨p.2.P, 0, none⟩))) h.symm todo rfl
  cases t' with
  | nil => cases h2
  | cons y t' =>
    simp only [List.map_cons, List.cons.injEq, Prod.mk.injEq] at h2
    obtain ⟨⟨rfl, rfl⟩, rfl⟩ := h2
    exact ⟨y.2, t', rfl, rfl, h1.symm⟩
def keyed (p : Ro → Bool) (l : List (K4 × RR)) : List K4 := (l.filter fun x => p x.2.r).map (·.1)
theorem keyed_snoc (p : Ro → Bool) (l : List (K4 × RR)) (k : K4) (rr : RR) : keyed p (l ++ [(k, rr)]) = keyed p l ++ (if p rr.r = true then [k] else []) := by
  unfold keyed
  rw [List.filter_append, List.map_append]
  congr 1
  by_cases h : p rr.r = true <;> simp [h]
theorem keyed_perm (p : Ro → Bool) {l m : List (K4 × RR)} (h : l.Perm m) : (keyed p l).Perm (keyed p m) := (h.filter _).map _
theorem keyed_len (p : Ro → Bool) (l : List (K4 × RR)) : (keyed p l).length ≤ l.length := by
  unfold keyed
  rw [List.length_map]
  exact List.length_filter_le _ _
theorem keyed_tab (p : Ro → Bool) (lim : Int) (rs : List (K4 × RR)) (ws : List (Int × K4)) : (tabT lim rs ws).keysS p = sortK (keyed p rs) := by
  unfold Ta.keysS tabT keyed
  dsimp only
  rw [List.filter_map, List.map_map]
  rfl
theorem sortK_permeq {l m : List K4} (h : l.Perm m) : sortK l = sortK m := sortK_eq ((sortK_perm l).trans h) (sortK_srt l)
--@@ (*lock.Table).keys
set_option maxHeartbeats 8000000 in
set_option maxRecDepth 100000 in
theorem keysW_any (A R M : Nat) (lim : Int) (rs : List (K4 × RR)) (ws : List (Int × K4)) (gf : Nat) (cb : Array Value) (p : Ro → Bool) (w : World) (H : TabIs w A R M lim rs ws) (hl : rs.length ≤ 100000)
    (eg : ∀ args w, (callFunc gf args).run Try.prog w = .ok (.enter gf args) w)
    (hp : ∀ W, Kept [] w W → ∀ x ∈ rs, Calls Try.prog gf (#[.pointer (some ⟨x.2.P, 0, none⟩)] ++ cb) W fun e w' => e = .returned (.bool (p x.2.r)) ∧ Kept [] W w') :
    Calls Try.prog 25 #[.pointer (some ⟨A, 0, none⟩), .func (.func gf) #[] cb] w fun e w' => ∃ v, e = .returned v ∧ w'.ownsRow w.heap.size 32 4 v ((tabT lim rs ws).keysS p).length (((tabT lim rs ws).keysS p).flatMap K4.f) ∧ Kept [] w w' := by
  obtain ⟨a0, a1, a2⟩ := H.cells
  have HM := hid H.rows
  have HP := hid hp
  have HF := hid (show (Try.prog.info? 32).map (fun i => (i.zero, i.size, i.bytes)) = some (some (.agg #[.int .u8 0, .int .u8 0, .int .u8 0, .int .u8 0]), 4, 4) by kernel_rfl)
  have hRw := H.rows.lt
  rw [keyed_tab]
  clear H hp
  go_enter Try.func25, Try.ntmps25
  go_wp2_with (first | (at_range; refine wpList_range_is rfl _ 51 rfl _ _ Try.underlying51 rfl HM.out ?_; intro w0 hR hk hsz0))
  go_frame
  have HR := hid (show RangeIs w0 R w.heap.size K4.v (rowsL rs) from hR)
  have HK := hid hk
  clear hR hk
  go_loopg [5] rs.length (fun kx s5 wr => ∃ (todo acc : List (K4 × RR)), Aside (wr.ownsRow w0.heap.size 32 4 s5 (keyed p acc).length ((keyed p acc).flatMap K4.f)) ∧ Aside ((acc ++ todo).Perm rs) ∧ Aside (RangeIs wr R w.heap.size K4.v (rowsL todo)) ∧ Aside (Kept [] w wr) ∧ todo.length ≤ kx ∧ w0.heap.size ≤ wr.heap.size)
  case atStart => exact ⟨rs, [], ⟨rfl, .inl ⟨rfl, rfl⟩⟩, List.Perm.refl _, HR.out, HK.out, Nat.le_refl _, Nat.le_refl _⟩
  case round =>
    clear HR HK
    obtain ⟨todo, acc, HO, HPM, HR, HK, hkx, hsz⟩ := hrel
    rename World => wo
    go_wp2_with (first
      | (at_next; refine wpList_next_is rfl _ rfl rfl HR.out ?_ ?_; (intro hd0); rotate_left; (intro x u T w1 hp hR1 hk1 hs1 hen; obtain ⟨rr, t', rfl, rfl, hp'⟩ := rows_perm hp; have HP' := hid hp'; have HR1 := hid hR1; have HK1 := hid hk1; clear hp hp' hR1 hk1; obtain ⟨k1, k2, k3, k4⟩ := x; simp only [K4.v] at hen ⊢))
      | (go_at_fn gf; refine Here.mk ?_)
      | (at_builtin; refine Here.mk ?_)
      | (go_at_call 28; refine Here.mk ?_))
    · refine Here.of ?_
      clear hen
      have HKW := hid ((HK.out.trans HK1.out (fun x hx => .inr (by simp at hx; omega))).alloc (.cells #[.int .u8 (k1.toNat : Int), .int .u8 (k2.toNat : Int), .int .u8 (k3.toNat : Int), .int .u8 (k4.toNat : Int)] 32))
      have hmem : ((⟨k1, k2, k3, k4⟩ : K4), rr) ∈ rs := HPM.out.subset (List.mem_append_right _ (HP'.out.symm.subset List.mem_cons_self))
      refine (HP.out _ HKW.out _ hmem).mono ?_
      clear hmem
      rintro e w2 ⟨rfl, hk2⟩
      dsimp only
      have HK2 := hid hk2
      have HR2 := hid ((HR1.out.kept ((Kept.refl [] w1).alloc _) (by simp) (by simp)).kept hk2 (by simp) (by simp))
      have HKW2 := hid (HKW.out.trans hk2 (fun x hx => by cases hx))
      have HO2 := hid (own_below (own_below (own_below HO.out HK1.out (fun x hx => by simp at hx; omega)) ((Kept.refl [] w1).alloc (.cells #[.int .u8 (k1.toNat : Int), .int .u8 (k2.toNat : Int), .int .u8 (k3.toNat : Int), .int .u8 (k4.toNat : Int)] 32)) (by simp)) hk2 (by simp))
      have hq := fun j u h => hk2.cell (new_cell w1 [.int .u8 (k1.toNat : Int), .int .u8 (k2.toNat : Int), .int .u8 (k3.toNat : Int), .int .u8 (k4.toNat : Int)] 32 j u h) (by simp)
      rw [hs1] at hq
      have q0 := hq 0 _ rfl
      have q1 := hq 1 _ rfl
      have q2 := hq 2 _ rfl
      have q3 := hq 3 _ rfl
      have hs2 := hk2.size
      simp at hs2
      clear hk2 hq
      have hacc : acc.length + todo.length = rs.length := by have := HPM.out.length_eq; simpa using this
      have htl : todo.length = t'.length + 1 := by have := HP'.out.length_eq; simpa using this
      have HPN := hid (show ((acc ++ [((⟨k1, k2, k3, k4⟩ : K4), rr)]) ++ t').Perm rs by rw [List.append_assoc]; exact (HP'.out.symm.append_left acc).trans HPM.out)
      have HSN := hid (keyed_snoc p acc ⟨k1, k2, k3, k4⟩ rr)
      have hkl := keyed_len p acc
      cases hpr : p rr.r with
      | false =>
        have HPR := hid hpr
        clear hpr
        go_wp2_with fail
        go_roundg t'.length
        case measure => omega
        case rel => exact ⟨t', acc ++ [((⟨k1, k2, k3, k4⟩ : K4), rr)], by show World.ownsRow _ _ _ _ _ _ _; rw [HSN.out, HPR.out]; simpa using HO2.out, HPN.out, HR2.out, HKW2.out, Nat.le_refl _, by omega⟩
      | true =>
        have HPR := hid hpr
        clear hpr
        go_wp2_with (at_builtin; refine Here.mk ?_)
        refine Here.of ?_
        have hcn := fun j u h => cells_new w2 (K4.f ⟨k1, k2, k3, k4⟩) 32 j u h
        have hm1 : w0.heap.size ≤ w2.heap.size := by omega
        refine wpList_append_is rfl _ _ 28 rfl 32 _ 4 4 Try.underlying28 HF.out rfl (by decide) (by decide) w0.heap.size _ (keyed p acc).length _ rfl (HO2.out.alloc (.cells (K4.f ⟨k1, k2, k3, k4⟩).toArray 32)) ⟨w2.heap.size, 0, none⟩ 1 1 (K4.f ⟨k1, k2, k3, k4⟩) rfl rfl hcn (by simp [K4.f, Value.oneCell']) (by omega) (by simp; omega) ?_
        intro v' w3 hown3 hgrow hnil
        obtain ⟨S, hS1, hS2⟩ := ownsRow_grownL (HO2.out.alloc _) hgrow
        have HA := hid ((Kept.refl [] w2).alloc (.cells (K4.f ⟨k1, k2, k3, k4⟩).toArray 32))
        have HR3 := hid ((HR2.out.kept HA.out (by simp) (by simp)).kept hS1 (fun hx => by have := hS2 _ hx; omega) (fun hx => by have := hS2 _ hx; omega))
        have HK3 := hid ((HKW2.out.trans HA.out (fun x hx => by cases hx)).trans hS1 (fun x hx => .inr (by have := hS2 x hx; omega)))
        have hsz3 : w2.heap.size ≤ w3.heap.size := Nat.le_trans HA.out.size hS1.size
        have HO3 := hid hown3
        clear hown3 hgrow hnil hS1
        go_wp2_with fail
        go_roundg t'.length
        case measure => omega
        case rel =>
          refine ⟨t', acc ++ [((⟨k1, k2, k3, k4⟩ : K4), rr)], ?_, HPN.out, HR3.out, HK3.out, Nat.le_refl _, by omega⟩
          show World.ownsRow _ _ _ _ _ _ _
          rw [HSN.out, HPR.out, if_pos rfl, List.flatMap_append, List.length_append]
          simpa using HO3.out
    · refine Here.of ?_
      have ht : todo = [] := by
        cases todo with
        | nil => rfl
        | cons p t => simp [rowsL] at hd0
      subst ht
      have hperm : (keyed p acc).Perm (keyed p rs) := keyed_perm p (by have := HPM.out; simpa using this)
      have hkl := keyed_len p acc
      have hacc : acc.length = rs.length := by have := HPM.out.length_eq; simpa using this
      refine (lsort_any _ w0.heap.size (keyed p acc).length (keyed p acc) wo HO.out rfl (by omega)).mono ?_
      rintro e w3 ⟨rfl, hown, hk3⟩
      rw [sortK_permeq hperm] at hown
      have hlen : (keyed p acc).length = (sortK (keyed p rs)).length := by rw [(sortK_perm _).length_eq, hperm.length_eq]
      rw [hlen] at hown
      have HO3 := hid hown
      have HK3 := hid (HK.out.trans hk3 (fun x hx => .inr (by have := HO.out.lt x (by simpa using hx); omega)))
      clear hown hk3 hlen hperm
      go_wp2_with fail
      go_returns
      exact ⟨_, rfl, ownsRow_base HO3.out (by omega), HK3.out⟩
--@@ end
end Go.Proofs.Ytiheoddlknbomaa
