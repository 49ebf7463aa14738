/- Rows of a call's own: one element anew; an append behind a part of a row. -/
import Derived.Test.YtiheoddlknbomaaMem
import Derived.Test.YtiheoddlknbomaaSl
import Derived.Deep.MidRow
import Derived.Deep.AppendSrc
import Derived.Laws.AppendOwnNone
set_option linter.all false
namespace Go.Proofs.Ytiheoddlknbomaa
open Go.RowKit Go.Proofs
set_option linter.unusedVariables false
set_option linter.unusedSimpArgs false

theorem heap_setCells_at {e : TypeId} {fr : Nat × Nat} (g : Nat) : ∀ (vs : List Value) (o : Nat) (w : World) (cur : Array Value), w.heap[g]? = some (.cells cur e fr) → o + vs.length ≤ cur.size →
    ∃ cur', (w.setCells g o vs).heap[g]? = some (.cells cur' e fr) ∧ cur'.size = cur.size ∧ cur'.toList = cur.toList.take o ++ (vs ++ cur.toList.drop (o + vs.length))
  | [], o, w, cur, h, _ => ⟨cur, h, rfl, by simp⟩
  | v :: vs, o, w, cur, h, hl => by
    have h1 : (w.setCell ⟨g, o, none⟩ v).heap[g]? = some (.cells (cur.setIfInBounds o v) e fr) := by simp [World.setCell, Array.getElem?_modify, h]
    simp only [List.length_cons] at hl
    obtain ⟨cur', a1, a2, a3⟩ := heap_setCells_at g vs (o + 1) _ _ h1 (by simp; omega)
    refine ⟨cur', a1, by simpa using a2, ?_⟩
    rw [a3, Array.toList_setIfInBounds]
    have ho : o < cur.toList.length := by simp; omega
    rw [List.take_set, List.drop_set_of_lt (by omega)]
    rw [List.take_succ_eq_append_getElem ho]
    rw [List.set_append]
    have hlt : (cur.toList.take o).length = o := by rw [List.length_take]; omega
    rw [hlt, if_neg (Nat.lt_irrefl _), Nat.sub_self]
    simp only [List.set_cons_zero, List.append_assoc, List.cons_append, List.nil_append, List.length_cons]
    rw [show o + 1 + vs.length = o + (vs.length + 1) by omega]
/-- one element of a row of the call's own, anew -/
theorem ownsRow_put {w : World} {base n size g cap : Nat} {e : TypeId} {xs : List Value} (h : w.ownsRow base e size (.slice (some ⟨g, 0, none⟩) n cap) n xs) (i : Nat) (hi : i < n) (us : List Value) (hu : us.length = size) :
    (w.setCells g (i * size) us).ownsRow base e size (.slice (some ⟨g, 0, none⟩) n cap) n (xs.take (i * size) ++ (us ++ xs.drop (i * size + size))) ∧ w.there g (i * size) size ∧ base ≤ g := by
  rcases h.2 with ⟨h0, _⟩ | ⟨g', cap', cur, hv, hb, hg, hn, hc, hs, ht⟩
  · cases h0
  cases hv
  have hle : i * size + size ≤ n * size := by rw [← Nat.succ_mul]; exact Nat.mul_le_mul_right _ hi
  have hle2 : n * size ≤ cap * size := Nat.mul_le_mul_right _ hn
  obtain ⟨cur', a1, a2, a3⟩ := heap_setCells_at g us (i * size) w cur hg (by omega)
  refine ⟨⟨?_, .inr ⟨g, cap, cur', rfl, hb, a1, hn, hc, by rw [a2, hs], ?_⟩⟩, fun j hj => ⟨?_, ?_⟩, hb⟩
  · have := h.1
    simp only [List.length_append, List.length_take, List.length_drop]
    omega
  · rw [a3, hu, ← ht]
    have l1 : (cur.toList.take (i * size)).length = i * size := by rw [List.length_take]; simp; omega
    rw [List.take_append, l1, List.take_append, hu, List.take_of_length_le (l := cur.toList.take (i * size)) (by rw [l1]; omega), List.take_of_length_le (l := us) (by omega)]
    rw [List.take_take, Nat.min_eq_left (by omega), List.take_drop]
    rw [show i * size + size + (n * size - i * size - size) = n * size by omega]
  · rw [cell_of_row w g _ cur e (0, 0) hg, Array.getElem?_eq_getElem (by omega)]; rfl
  · simp [World.frozen?, hg]
theorem ownsRow_base {w : World} {base base' n size : Nat} {e : TypeId} {v : Value} {xs : List Value} (h : w.ownsRow base e size v n xs) (hb : base' ≤ base) : w.ownsRow base' e size v n xs := by
  refine ⟨h.1, ?_⟩
  rcases h.2 with hn | ⟨g, cap, cur, h1, h2, h3⟩
  · exact .inl hn
  · exact .inr ⟨g, cap, cur, h1, Nat.le_trans hb h2, h3⟩
theorem Kept.setCells {S : List Nat} {a : World} (g : Nat) (hg : g ∈ S ∨ a.heap.size ≤ g) : ∀ (vs : List Value) (o : Nat) {w : World}, Kept S a w → Kept S a (w.setCells g o vs)
  | [], _, _, h => h
  | v :: vs, o, w, h => Kept.setCells g hg vs (o + 1) (h.setCell (p := ⟨g, o, none⟩) hg v)
section
variable {P : Program} {w : World} {o : Oper} {a : Act} {K : Act → World → Prop} {Q : Exit → Act → World → Prop}
/-- a part of a row with no room behind it, and more behind: a new row -/
theorem wp_append_part (s x : Operand) (t : TypeId)
    (ho : o.op = .call { callee := .builtin .append, args := #[s, x], argTypes := #[t, t] })
    (e : TypeId) (z : Value) (size bytes : Nat) (ht : P.underlying t = some (.slice e)) (hi : (P.info? e).map (fun i => (i.zero, i.size, i.bytes)) = some (some z, size, bytes))
    (hzs : z.cells.size = size) (hsz : 0 < size) (hby : 0 < bytes) (base : Nat)
    (b : Addr) (n : Nat) (xs : List Value) (hs : a.eval s = .slice (some b) n n) (hlx : xs.length = n * size) (hxs : ∀ j u, xs[j]? = some u → w.cell? (b.add j) = some u)
    (ad : Addr) (m c : Nat) (news : List Value) (hm : 0 < m) (hx : a.eval x = .slice (some ad) m c) (hl : news.length = m * size) (hnews : ∀ j u, news[j]? = some u → w.cell? (ad.add j) = some u)
    (hbytes : (n + m) * bytes ≤ 140737488355328) (hbase : base ≤ w.heap.size)
    (h : ∀ v' w', w'.ownsRow base e size v' (n + m) (xs ++ news) → Kept [] w w' → v' ≠ .slice none 0 0 → K (a.put o.dst v') w') : o.wp P a w K Q := by
  obtain ⟨i, hi, hz0, hz1, hz2⟩ := info_parts hi
  have h63 : n + m ≤ 140737488355328 := by
    have := Nat.le_mul_of_pos_right (n + m) hby
    omega
  have hfit := growslice_fits (need := n + m) (old := n) (bytes := i.bytes) (by omega) (by rw [hz2]; exact hbytes)
  have hr := run_append_grow (P := P) (w := w) t o.type e i z ht hi hz0 b n n xs (by rw [hlx, hz1]) hxs ad m c news (by rw [hl, hz1]) hnews (by omega) (by omega) hfit
  unfold Oper.wp execOp
  simp only [ho, resolve, invoke, builtin, Sem.run_bind, Sem.run_pure, Result.andThen_ok, List.map_toArray, List.map_cons, List.map_nil, hs, hx, hr]
  have hlen : (xs ++ news).length = (n + m) * size := by rw [List.length_append, hlx, hl, Nat.add_mul]
  have hge := grownCap_ge w (n + m) n e
  have hcm : grownCap w (n + m) n e ≤ maxLen := grownCap_le_maxLen w (n + m) n e (by unfold maxLen; omega)
  refine h _ _ ⟨hlen, .inr ⟨w.heap.size, _, _, rfl, hbase, heap_alloc_new w.drew _, hge, hcm, ?_, ?_⟩⟩ (((Kept.refl [] w).drew).alloc _) (fun e => by cases e)
  · simp only [Array.size_append, List.size_toArray, size_zeroCells, hzs, hlx, hl, ← Nat.add_mul]
    congr 1
    omega
  · simp only [Array.toList_append, List.append_assoc]
    rw [← List.append_assoc, ← hlen]
    exact List.take_left
end
end Go.Proofs.Ytiheoddlknbomaa
