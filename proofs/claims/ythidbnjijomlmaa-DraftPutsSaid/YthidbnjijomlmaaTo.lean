/- The statements' own helpers: pairs of the one kind made pairs of the other; pairs that are the same; keys in order; right values. -/
import Derived.Test.YthidbnjijomlmaaOver
set_option linter.all false
namespace Go.Proofs.Ythidbnjijomlmaa
open Go.RowKit Go.Shelf Go.Lib Go.Sort Go.Proofs
set_option linter.unusedVariables false
set_option linter.unusedSimpArgs false

section
variable {P : Program} {w : World} {o : Oper} {a : Act} {K : Act → World → Prop} {Q : Exit → Act → World → Prop}
theorem wp_append_is (s x : Operand) (t : TypeId)
    (ho : o.op = .call { callee := .builtin .append, args := #[s, x], argTypes := #[t, t] })
    (e : TypeId) (z : Value) (size bytes : Nat) (ht : P.underlying t = some (.slice e)) (hi : (P.info? e).map (fun i => (i.zero, i.size, i.bytes)) = some (some z, size, bytes))
    (hzs : z.cells.size = size) (hsz : 0 < size) (hby : 0 < bytes) (base : Nat)
    (v : Value) (n : Nat) (xs : List Value) (hs : a.eval s = v) (hown : w.ownsRow base e size v n xs)
    (ad : Addr) (m c : Nat) (news : List Value) (hx : a.eval x = .slice (some ad) m c) (hl : news.length = m * size) (hnews : ∀ j u, news[j]? = some u → w.cell? (ad.add j) = some u) (h1 : ∀ u ∈ news, u.oneCell' = true)
    (hbytes : (n + m) * bytes ≤ 140737488355328) (hbase : base ≤ w.heap.size)
    (h : ∀ v' w', w'.ownsRow base e size v' (n + m) (xs ++ news) → w.grownBy w' v.ownBlock → (v' = .slice none 0 0 ↔ v = .slice none 0 0 ∧ m = 0) → K (a.put o.dst v') w') : o.wp P a w K Q := by
  obtain ⟨i, hi, hz0, hz1, hz2⟩ := info_parts hi
  have h63 : n + m ≤ maxLen := by
    have := Nat.le_mul_of_pos_right (n + m) hby
    unfold maxLen; omega
  exact wp_append_own w s x t ho base e i z size bytes ht hi hz0 hz1 hz2 hzs hsz v n xs hs hown ad m c news hx hl hnews h1 h63 hbytes hbase h
end
--@@ concordatlaw09.To
set_option maxHeartbeats 4000000 in
set_option maxRecDepth 100000 in
theorem to_any (v : Value) (l : List Pr) (w : World) (h : SlAt w v 6 l.length (l.flatMap Pr.f)) (hl : l.length ≤ 20000) :
    Calls Try.prog 13 #[v] w fun e w' => ∃ v', e = .returned v' ∧ w'.ownsRow w.heap.size 54 6 v' l.length (l.flatMap Pr.f) ∧ Kept [] w w' := by
  obtain ⟨a, cap, rfl, _, _, hcs⟩ := h.ex
  have HC := hid hcs
  have HF := hid (show (Try.prog.info? 54).map (fun i => (i.zero, i.size, i.bytes)) = some (some (.agg #[.int .u8 0, .int .u8 0, .int .u8 0, .int .u8 0, .bool false, .int .i64 0]), 6, 24) by kernel_rfl)
  clear h hcs
  go_enter Try.func13, Try.ntmps13
  go_wp2
  have HO0 := hid (ownsRow_made0 w 54 6 w.heap.size (Nat.le_refl _))
  have HK0 := hid ((Kept.refl [] w).alloc (.cells #[] 54))
  go_loopg [3, 4] l.length (fun kx s3 s4 wr => ∃ k : Nat, s4 = .int .i64 k ∧ k ≤ l.length ∧ l.length - k ≤ kx ∧ Aside (wr.ownsRow w.heap.size 54 6 s3 k ((l.take k).flatMap Pr.f)) ∧ Aside (Kept [] w wr))
  case atStart => exact ⟨0, by first | rfl | go_num, by omega, by omega, HO0.out, HK0.out⟩
  case round =>
    clear HO0 HK0
    obtain ⟨k, rfl, hk, hkx, HO, HK⟩ := hrel
    have hsz := HK.out.size
    by_cases hlt : k < l.length
    · have hltz : (k : Int) < (l.length : Int) := by omega
      obtain ⟨b, off, rfl, hb, hcs⟩ := HC.out (by omega)
      obtain ⟨e0, e1, e2, e3, e4, e5⟩ := pair_cells hcs hlt
      have HT := hid (show l.take (k + 1) = l.take k ++ [l[k]] by rw [List.take_succ_eq_append_getElem hlt])
      clear hcs
      generalize l[k] = x at *
      obtain ⟨⟨x1, x2, x3, x4⟩, ⟨x5, x6⟩⟩ := x
      dsimp only at e0 e1 e2 e3 e4 e5
      have HS := hid (show ∀ w', Kept [] w w' → w'.cell? ⟨b, off + k * 6, none⟩ = some (.int .u8 (x1.toNat : Int)) ∧ w'.cell? ⟨b, off + k * 6 + 1, none⟩ = some (.int .u8 (x2.toNat : Int)) ∧ w'.cell? ⟨b, off + k * 6 + 2, none⟩ = some (.int .u8 (x3.toNat : Int)) ∧ w'.cell? ⟨b, off + k * 6 + 3, none⟩ = some (.int .u8 (x4.toNat : Int)) ∧ w'.cell? ⟨b, off + k * 6 + 4, none⟩ = some (.bool x5) ∧ w'.cell? ⟨b, off + k * 6 + 5, none⟩ = some (.int .i64 x6) from fun w' hk' => ⟨hk'.cell e0 (by simp), hk'.cell e1 (by simp), hk'.cell e2 (by simp), hk'.cell e3 (by simp), hk'.cell e4 (by simp), hk'.cell e5 (by simp)⟩)
      have HKd := hid HK.out.drew
      clear e0 e1 e2 e3 e4 e5
      go_wp2_with fail
      go_region_held3 (fun w' => w'.cell? ⟨b, off + k * 6, none⟩ = some (.int .u8 (x1.toNat : Int)) ∧ w'.cell? ⟨b, off + k * 6 + 1, none⟩ = some (.int .u8 (x2.toNat : Int)) ∧ w'.cell? ⟨b, off + k * 6 + 2, none⟩ = some (.int .u8 (x3.toNat : Int)) ∧ w'.cell? ⟨b, off + k * 6 + 3, none⟩ = some (.int .u8 (x4.toNat : Int)) ∧ w'.cell? ⟨b, off + k * 6 + 4, none⟩ = some (.bool x5) ∧ w'.cell? ⟨b, off + k * 6 + 5, none⟩ = some (.int .i64 x6))
        ((refine HS.out _ ?_; first | exact hk1 | exact HKd.out | exact HKd.out.alloc _))
        ((rw [if_pos (by rfl)]; refine wp_append_is _ _ 38 rfl 54 _ 6 24 Try.underlying38 HF.out rfl (by decide) (by decide) w.heap.size _ k _ rfl (ownsRow_kept (HO.out) (((Kept.refl [] wr).drew).alloc _) (by simp)) _ 1 1 (Pr.f ⟨⟨x1, x2, x3, x4⟩, ⟨x5, x6⟩⟩) rfl rfl (fun j u h => cells_new _ (Pr.f ⟨⟨x1, x2, x3, x4⟩, ⟨x5, x6⟩⟩) _ j u h) (by simp [Pr.f, Value.oneCell']) (by omega) (by simp; omega) ?_; intro v' w1 hown1 hgrow hnil; have hk1 := (HKd.out.alloc (.cells (Pr.f ⟨⟨x1, x2, x3, x4⟩, ⟨x5, x6⟩⟩).toArray 54)).grown_own (ownsRow_kept (HO.out) (((Kept.refl [] wr).drew).alloc _) (by simp)) hgrow (Nat.le_refl _)))
      have HK1 := hid hk1
      have H1 := hid hown1
      clear hown1 hgrow hnil hk1
      go_wp2
      go_roundg (l.length - (k + 1))
      case measure => omega
      case rel => exact ⟨k + 1, by first | rfl | go_num, by omega, Nat.le_refl _, by show World.ownsRow _ _ _ _ _ _ _; rw [HT.out, List.flatMap_append]; simpa using H1.out, HK1.out⟩
    · obtain rfl : k = l.length := by omega
      have hltz : ¬ (l.length : Int) < (l.length : Int) := by omega
      go_wp2
      go_returns
      exact ⟨_, rfl, by have := HO.out; rw [List.take_length] at this; exact this, HK.out⟩
--@@ concordatlaw09.From
set_option maxHeartbeats 4000000 in
set_option maxRecDepth 100000 in
theorem from_any (v : Value) (l : List Pr) (w : World) (h : SlAt w v 6 l.length (l.flatMap Pr.f)) (hl : l.length ≤ 20000) :
    Calls Try.prog 17 #[v] w fun e w' => ∃ v', e = .returned v' ∧ w'.ownsRow w.heap.size 34 6 v' l.length (l.flatMap Pr.f) ∧ Kept [] w w' := by
  obtain ⟨a, cap, rfl, _, _, hcs⟩ := h.ex
  have HC := hid hcs
  have HF := hid (show (Try.prog.info? 34).map (fun i => (i.zero, i.size, i.bytes)) = some (some (.agg #[.int .u8 0, .int .u8 0, .int .u8 0, .int .u8 0, .bool false, .int .i64 0]), 6, 24) by kernel_rfl)
  clear h hcs
  go_enter Try.func17, Try.ntmps17
  go_wp2
  have HO0 := hid (ownsRow_made0 w 34 6 w.heap.size (Nat.le_refl _))
  have HK0 := hid ((Kept.refl [] w).alloc (.cells #[] 34))
  go_loopg [3, 4] l.length (fun kx s3 s4 wr => ∃ k : Nat, s4 = .int .i64 k ∧ k ≤ l.length ∧ l.length - k ≤ kx ∧ Aside (wr.ownsRow w.heap.size 34 6 s3 k ((l.take k).flatMap Pr.f)) ∧ Aside (Kept [] w wr))
  case atStart => exact ⟨0, by first | rfl | go_num, by omega, by omega, HO0.out, HK0.out⟩
  case round =>
    clear HO0 HK0
    obtain ⟨k, rfl, hk, hkx, HO, HK⟩ := hrel
    have hsz := HK.out.size
    by_cases hlt : k < l.length
    · have hltz : (k : Int) < (l.length : Int) := by omega
      obtain ⟨b, off, rfl, hb, hcs⟩ := HC.out (by omega)
      obtain ⟨e0, e1, e2, e3, e4, e5⟩ := pair_cells hcs hlt
      have HT := hid (show l.take (k + 1) = l.take k ++ [l[k]] by rw [List.take_succ_eq_append_getElem hlt])
      clear hcs
      generalize l[k] = x at *
      obtain ⟨⟨x1, x2, x3, x4⟩, ⟨x5, x6⟩⟩ := x
      dsimp only at e0 e1 e2 e3 e4 e5
      have HS := hid (show ∀ w', Kept [] w w' → w'.cell? ⟨b, off + k * 6, none⟩ = some (.int .u8 (x1.toNat : Int)) ∧ w'.cell? ⟨b, off + k * 6 + 1, none⟩ = some (.int .u8 (x2.toNat : Int)) ∧ w'.cell? ⟨b, off + k * 6 + 2, none⟩ = some (.int .u8 (x3.toNat : Int)) ∧ w'.cell? ⟨b, off + k * 6 + 3, none⟩ = some (.int .u8 (x4.toNat : Int)) ∧ w'.cell? ⟨b, off + k * 6 + 4, none⟩ = some (.bool x5) ∧ w'.cell? ⟨b, off + k * 6 + 5, none⟩ = some (.int .i64 x6) from fun w' hk' => ⟨hk'.cell e0 (by simp), hk'.cell e1 (by simp), hk'.cell e2 (by simp), hk'.cell e3 (by simp), hk'.cell e4 (by simp), hk'.cell e5 (by simp)⟩)
      have HKd := hid HK.out.drew
      clear e0 e1 e2 e3 e4 e5
      go_wp2_with fail
      go_region_held3 (fun w' => w'.cell? ⟨b, off + k * 6, none⟩ = some (.int .u8 (x1.toNat : Int)) ∧ w'.cell? ⟨b, off + k * 6 + 1, none⟩ = some (.int .u8 (x2.toNat : Int)) ∧ w'.cell? ⟨b, off + k * 6 + 2, none⟩ = some (.int .u8 (x3.toNat : Int)) ∧ w'.cell? ⟨b, off + k * 6 + 3, none⟩ = some (.int .u8 (x4.toNat : Int)) ∧ w'.cell? ⟨b, off + k * 6 + 4, none⟩ = some (.bool x5) ∧ w'.cell? ⟨b, off + k * 6 + 5, none⟩ = some (.int .i64 x6))
        ((refine HS.out _ ?_; first | exact hk1 | exact HKd.out | exact HKd.out.alloc _))
        ((rw [if_pos (by rfl)]; refine wp_append_is _ _ 22 rfl 34 _ 6 24 Try.underlying22 HF.out rfl (by decide) (by decide) w.heap.size _ k _ rfl (ownsRow_kept (HO.out) (((Kept.refl [] wr).drew).alloc _) (by simp)) _ 1 1 (Pr.f ⟨⟨x1, x2, x3, x4⟩, ⟨x5, x6⟩⟩) rfl rfl (fun j u h => cells_new _ (Pr.f ⟨⟨x1, x2, x3, x4⟩, ⟨x5, x6⟩⟩) _ j u h) (by simp [Pr.f, Value.oneCell']) (by omega) (by simp; omega) ?_; intro v' w1 hown1 hgrow hnil; have hk1 := (HKd.out.alloc (.cells (Pr.f ⟨⟨x1, x2, x3, x4⟩, ⟨x5, x6⟩⟩).toArray 34)).grown_own (ownsRow_kept (HO.out) (((Kept.refl [] wr).drew).alloc _) (by simp)) hgrow (Nat.le_refl _)))
      have HK1 := hid hk1
      have H1 := hid hown1
      clear hown1 hgrow hnil hk1
      go_wp2
      go_roundg (l.length - (k + 1))
      case measure => omega
      case rel => exact ⟨k + 1, by first | rfl | go_num, by omega, Nat.le_refl _, by show World.ownsRow _ _ _ _ _ _ _; rw [HT.out, List.flatMap_append]; simpa using H1.out, HK1.out⟩
    · obtain rfl : k = l.length := by omega
      have hltz : ¬ (l.length : Int) < (l.length : Int) := by omega
      go_wp2
      go_returns
      exact ⟨_, rfl, by have := HO.out; rw [List.take_length] at this; exact this, HK.out⟩
--@@ end
end Go.Proofs.Ythidbnjijomlmaa
