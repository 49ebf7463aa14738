/- The reference's gate: Open. -/
import Derived.Test.YtdaipbaclccodaaRefGate2
set_option linter.all false
namespace Go.Proofs.Ytdaipbaclccodaa
open Go.RowKit
set_option linter.unusedVariables false
set_option linter.unusedSimpArgs false

def sins (tx : Int) (r : GR) : List RR → List RR
  | [] => [(tx, r)]
  | q :: t => if tx < q.1 then (tx, r) :: q :: t else q :: sins tx r t
theorem sins_split (tx : Int) (r : GR) : ∀ (rows : List RR) (k : Nat), (∀ j p, j < k → rows[j]? = some p → ¬ tx < p.1) → sins tx r rows = rows.take k ++ sins tx r (rows.drop k)
  | rows, 0, _ => by simp
  | [], k + 1, _ => by simp [sins]
  | q :: t, k + 1, h => by
    have h0 := h 0 q (by omega) rfl
    simp only [sins, if_neg h0, List.take_succ_cons, List.drop_succ_cons, List.cons_append]
    rw [sins_split tx r t k (fun j p hj hp => h (j + 1) p (by omega) (by simpa using hp))]
def rOpen (rows : List RR) (tx : Int) (mask : Nat) (rel : Int) : Int × List RR :=
  if tx < 1 ∨ 1048576 < tx ∨ rel < 0 ∨ 1099511627776 < rel then (11, rows)
  else if mask = 0 ∨ 63 < mask then (10, rows)
  else if (aget tx rows).isSome then (13, rows)
  else if 64 ≤ rows.length then (16, rows)
  else (0, sins tx ⟨mask, rel, 0⟩ rows)
theorem oneCell_rc (p : RR) : ∀ u ∈ rc p, u.oneCell' = true := fun u hu => by
  simp only [rc, List.mem_cons, List.not_mem_nil, or_false] at hu
  rcases hu with rfl | rfl | rfl | rfl <;> rfl
--@@ ref14.Open
/-- what has been put together of the first k rows: 'done': the new one is in it -/
def OpenAt (tx : Int) (r : GR) (rows out : List RR) (k : Nat) (done : Bool) : Prop :=
  if done then out ++ rows.drop k = sins tx r rows ∧ out.length = k + 1 else out = rows.take k ∧ ∀ j p, j < k → rows[j]? = some p → ¬ tx < p.1
theorem OpenAt.next {tx : Int} {r : GR} {rows out : List RR} {k : Nat} {done : Bool} {p : RR} (h : OpenAt tx r rows out k done) (hp : rows[k]? = some p) (hc : done = true ∨ ¬ tx < p.1) : OpenAt tx r rows (out ++ [p]) (k + 1) done := by
  have hk := (List.getElem?_eq_some_iff.1 hp)
  obtain ⟨hk1, hk2⟩ := hk
  cases done with
  | true =>
    simp only [OpenAt, if_true] at h ⊢
    rw [List.drop_eq_getElem_cons hk1, hk2] at h
    exact ⟨by rw [← h.1]; simp, by simp [h.2]⟩
  | false =>
    simp only [OpenAt, Bool.false_eq_true, if_false] at h ⊢
    have hc' : ¬ tx < p.1 := by simpa using hc
    refine ⟨by rw [List.take_succ_eq_append_getElem hk1, hk2, ← h.1], fun j q hj hq => ?_⟩
    by_cases e : j = k
    · subst e; rw [hp] at hq; cases hq; exact hc'
    · exact h.2 j q (by omega) hq
theorem OpenAt.put {tx : Int} {r : GR} {rows out : List RR} {k : Nat} {p : RR} (h : OpenAt tx r rows out k false) (hp : rows[k]? = some p) (hc : tx < p.1) : OpenAt tx r rows (out ++ [(tx, r)] ++ [p]) (k + 1) true := by
  obtain ⟨hk1, hk2⟩ := (List.getElem?_eq_some_iff.1 hp)
  simp only [OpenAt, Bool.false_eq_true, if_false] at h
  simp only [OpenAt, if_true]
  refine ⟨?_, by rw [h.1]; simp; omega⟩
  rw [sins_split tx r rows k h.2, List.drop_eq_getElem_cons hk1, hk2, sins, if_pos hc, ← h.1]
  simp
theorem OpenAt.len {tx : Int} {r : GR} {rows out : List RR} {k : Nat} {done : Bool} (h : OpenAt tx r rows out k done) (hk : k ≤ rows.length) : out.length = k + (if done then 1 else 0) := by
  cases done <;> simp [OpenAt] at h ⊢
  · rw [h.1]; simp; omega
  · exact h.2
theorem own_two {w : World} {B : Nat} {v : Value} {out : List RR} {x p : RR} (h : w.ownsRow B 66 4 v (out.length + 1 + 1) (rcs out ++ rc x ++ rc p)) :
    w.ownsRow B 66 4 v (out ++ [x] ++ [p]).length (rcs (out ++ [x] ++ [p])) := by
  have e : (out ++ [x] ++ [p]).length = out.length + 1 + 1 := by simp
  rw [e, rcs_append, rcs_append, rcs_one, rcs_one]; exact h
set_option maxRecDepth 100000 in
set_option maxHeartbeats 4000000 in
theorem ropen_any (a vb : Nat) (rows : List RR) (tx rel : Int) (mask : Nat) (hm : mask < 65536) (w : World) (hG : RG w a vb rows) :
    Calls Try.prog 11 #[.pointer (some ⟨a, 0, none⟩), .int .i64 tx, .int .u16 mask, .int .i64 rel] w fun e w' =>
      e = .returned (.int .i64 (rOpen rows tx mask rel).1) ∧ (∃ vb', RG w' a vb' (rOpen rows tx mask rel).2 ∧ (vb' = a ∨ vb' = vb ∨ w.heap.size ≤ vb')) ∧ Kept [a] w w' := by
  have HG := hid hG
  have HL := hid hG.lt
  have hblk : ∃ v, w.heap[a]? = some (.cells #[v] 32 (0, 0)) := by obtain ⟨v, h1, _⟩ := hG.ex; exact ⟨v, h1⟩
  have HB := hid hblk
  obtain ⟨av, cap, hmax, c0, f0, hav, hcs⟩ := hG.cells
  have hm0 : ((mask : Int) == 0) = decide (mask = 0) := by rw [Bool.eq_iff_iff]; simp
  have hal : a < w.heap.size := HL.out.1
  have hvl : vb < w.heap.size := HL.out.2
  have same : (∃ vb', RG w a vb' rows ∧ (vb' = a ∨ vb' = vb ∨ w.heap.size ≤ vb')) ∧ Kept [a] w w := ⟨⟨vb, HG.out, .inr (.inl rfl)⟩, Kept.refl _ _⟩
  have HS := hid same
  have HNf := hid rowInfo
  clear hblk hG same
  have HA := hid hav
  have HC := hid hcs
  clear hav hcs
  by_cases hbad : (tx < 1 ∨ 1048576 < tx ∨ rel < 0 ∨ 1099511627776 < rel) ∨ (mask = 0 ∨ 63 < mask)
  · go_enter Try.func11, Try.ntmps11
    go_wp2
    all_goals go_ret
    all_goals first
      | (have e : rOpen rows tx mask rel = (11, rows) := by unfold rOpen; rw [if_pos (by omega)]
         rw [e]; exact ⟨rfl, HS.out⟩)
      | (have e : rOpen rows tx mask rel = (10, rows) := by unfold rOpen; rw [if_neg (by omega), if_pos (by omega)]
         rw [e]; exact ⟨rfl, HS.out⟩)
  cases hr : aget tx rows with
  | some r =>
    obtain ⟨k, hi, _⟩ := ridx_some hr
    have HI := hid hi
    have e : rOpen rows tx mask rel = (13, rows) := by unfold rOpen; rw [if_neg (by omega), if_neg (by omega), if_pos (by simp [hr])]
    rw [e]
    clear hr hi e
    go_enter Try.func11, Try.ntmps11
    go_wp2_with (go_at_call 27; refine (rat_any _ _ _ _ _ HG.out).mono ?_; rintro e w' ⟨rfl, rfl⟩; rw [HI.out])
    go_ret
    exact ⟨rfl, HS.out⟩
  | none =>
    have HI := hid (ridx_none hr)
    have e : rOpen rows tx mask rel = if 64 ≤ rows.length then (16, rows) else (0, sins tx ⟨mask, rel, 0⟩ rows) := by unfold rOpen; rw [if_neg (by omega), if_neg (by omega), if_neg (by simp [hr])]
    rw [e]
    clear hr e
    by_cases hl : 64 ≤ rows.length
    · rw [if_pos hl]
      go_enter Try.func11, Try.ntmps11
      go_wp2_with (go_at_call 27; refine (rat_any _ _ _ _ _ HG.out).mono ?_; rintro e w' ⟨rfl, rfl⟩; rw [HI.out])
      go_ret
      exact ⟨rfl, HS.out⟩
    · rw [if_neg hl]
      go_enter Try.func11, Try.ntmps11
      go_wp2_with (go_at_call 27; refine (rat_any _ _ _ _ _ HG.out).mono ?_; rintro e w' ⟨rfl, rfl⟩; rw [HI.out])
      go_loopw [9, 10, 11] (fun v d i wr => ∃ (k : Nat) (out : List RR) (done : Bool), k ≤ rows.length ∧ i = .int .i64 k ∧ d = .bool done ∧ wr.ownsRow w.heap.size 66 4 v out.length (rcs out) ∧ OpenAt tx ⟨mask, rel, 0⟩ rows out k done ∧ Kept [] w wr) (fun _ _ i _ => rows.length - (intOf i).toNat)
      case atStart => exact ⟨0, [], false, Nat.zero_le _, rfl, rfl, ownsRow_made0 w 66 4 _ (Nat.le_refl _), ⟨rfl, fun _ _ h => by omega⟩, (Kept.refl [] w).alloc _⟩
      case round =>
        obtain ⟨k, out, done, hk, rfl, rfl, hown, hat, hkp⟩ := hrel
        have HO := hid hown
        have HK := hid hkp
        have HT := hid hat
        have HC0 := hid c0
        have hol := hat.len hk
        have hol2 : out.length ≤ k + 1 := by rw [hol]; split <;> omega
        have c1 := hkp.cell c0 (by simp)
        have hsz := hkp.size
        clear hown hkp hat hol c0
        by_cases hlt : k < rows.length
        · obtain ⟨rfl, hne⟩ := HA.out (by omega)
          obtain ⟨d0, d1, d2, d3⟩ := HC.out k rows[k] (by simp [hlt])
          have d0 := HK.out.cell d0 (by simp)
          have d1 := HK.out.cell d1 (by simp)
          have d2 := HK.out.cell d2 (by simp)
          have d3 := HK.out.cell d3 (by simp)
          have HP := hid (show rows[k]? = some rows[k] by simp [hlt])
          generalize rows[k] = p at *
          by_cases hput : done = false ∧ tx < p.1
          · obtain ⟨rfl, hgt⟩ := hput
            have hown2 : World.ownsRow (wr.alloc (.cells #[.int .i64 tx, .int .u16 (mask : Int), .int .i64 rel, .int .i64 0] 66)) w.heap.size 66 4 _ out.length (rcs out) := HO.out.alloc _
            have HO2 := hid hown2
            clear hown2
            go_wp2_with (at_builtin; refine Here.mk ?_)
            refine Here.of ?_
            refine wpList_append_is rfl (.tmp 66) (.tmp 71) 30 rfl 66 _ 4 32 Try.underlying30 HNf.out rfl (by decide) (by decide) w.heap.size _ out.length _ rfl (HO2.out) _ 1 1 (rc (tx, ⟨mask, rel, 0⟩)) rfl rfl (fun j u h => cells_new _ (rc (tx, ⟨mask, rel, 0⟩)) _ j u h) (oneCell_rc _) (by omega) (by simp; omega) ?_
            intro v1 w1 hown1 hgrow1 hnil1
            have hk1 : Kept [] w w1 := (HK.out.alloc _).grown_own HO2.out hgrow1 (Nat.le_refl _)
            have c2 := hk1.cell HC0.out (by simp)
            obtain ⟨e0, e1, e2, e3⟩ := HC.out k p HP.out
            have e0 := hk1.cell e0 (by simp)
            have e1 := hk1.cell e1 (by simp)
            have e2 := hk1.cell e2 (by simp)
            have e3 := hk1.cell e3 (by simp)
            have hsz1 := hk1.size
            have H1 := hid hown1
            have HK1 := hid hk1
            clear hown1 hgrow1 hnil1 hk1 c1 d0 d1 d2 d3
            go_wp2_with (at_builtin; refine Here.mk ?_)
            refine Here.of ?_
            refine wpList_append_is rfl (.tmp 73) (.tmp 81) 30 rfl 66 _ 4 32 Try.underlying30 HNf.out rfl (by decide) (by decide) w.heap.size _ (out.length + 1) _ rfl (H1.out.alloc _) _ 1 1 (rc p) rfl rfl (fun j u h => cells_new _ (rc p) _ j u h) (oneCell_rc _) (by omega) (by simp; omega) ?_
            intro v2 w2 hown2 hgrow2 hnil2
            have hk2 : Kept [] w w2 := (HK1.out.alloc _).grown_own (H1.out.alloc _) hgrow2 (Nat.le_refl _)
            have H2 := hid hown2
            have HK2 := hid hk2
            clear hown2 hgrow2 hnil2 hk2 c2 e0 e1 e2 e3
            go_wp2
            go_roundw
            case rel => exact ⟨k + 1, out ++ [(tx, ⟨mask, rel, 0⟩)] ++ [p], true, by omega, by go_num, rfl, own_two H2.out, HT.out.put HP.out hgt, HK2.out⟩
            case measure => simp [intOf]; omega
          · have hd : done = true ∨ ¬ tx < p.1 := by
              cases done
              · exact .inr (fun h => hput ⟨rfl, h⟩)
              · exact .inl rfl
            have HN := hid (HT.out.next HP.out hd)
            have hb : (!done && decide (tx < p.1)) = false := by
              rcases hd with rfl | h
              · rfl
              · simp [h]
            clear hput hd
            cases done
            all_goals simp only [Bool.not_false, Bool.not_true, Bool.true_and, Bool.false_and] at hb
            all_goals go_wp2_with (at_builtin; refine Here.mk ?_)
            all_goals refine Here.of ?_
            all_goals refine wpList_append_is rfl (.tmp 73) (.tmp 81) 30 rfl 66 _ 4 32 Try.underlying30 HNf.out rfl (by decide) (by decide) w.heap.size _ out.length _ rfl (HO.out.alloc _) _ 1 1 (rc p) rfl rfl (fun j u h => cells_new _ (rc p) _ j u h) (oneCell_rc _) (by omega) (by simp; omega) ?_
            all_goals intro v2 w2 hown2 hgrow2 hnil2
            all_goals have hk2 : Kept [] w w2 := (HK.out.alloc _).grown_own (HO.out.alloc _) hgrow2 (Nat.le_refl _)
            all_goals have H2 := hid hown2
            all_goals have HK2 := hid hk2
            all_goals clear hown2 hgrow2 hnil2 hk2 c1 d0 d1 d2 d3
            · go_wp2
              go_roundw
              case rel => exact ⟨k + 1, out ++ [p], false, by omega, by go_num, rfl, by simpa [rcs_append, rcs_one] using H2.out, HN.out, HK2.out⟩
              case measure => simp [intOf]; omega
            · go_wp2
              go_roundw
              case rel => exact ⟨k + 1, out ++ [p], true, by omega, by go_num, rfl, by simpa [rcs_append, rcs_one] using H2.out, HN.out, HK2.out⟩
              case measure => simp [intOf]; omega
        · obtain rfl : k = rows.length := by omega
          have fin : ∀ v2 w2 (out' : List RR), out' = sins tx ⟨mask, rel, 0⟩ rows → w2.ownsRow w.heap.size 66 4 v2 out'.length (rcs out') → Kept [] w w2 →
              (∃ vb', RG (w2.setCell ⟨a, 0, none⟩ v2) a vb' (sins tx ⟨mask, rel, 0⟩ rows) ∧ (vb' = a ∨ vb' = vb ∨ w.heap.size ≤ vb')) ∧ Kept [a] w (w2.setCell ⟨a, 0, none⟩ v2) := fun v2 w2 out' he ho hk2 => by
            subst he
            obtain ⟨v, hv⟩ := HB.out
            have hb2 := (hk2.block a hal (by simp)).trans hv
            have hk3 : Kept [a] w (w2.setCell ⟨a, 0, none⟩ v2) := (hk2.mono (by simp)).setCell (.inl (by simp)) _
            refine ⟨?_, hk3⟩
            obtain ⟨vb', h1, h2⟩ := RG.of (setCell_block hb2 (v' := v2)) (ownsRow_setCell_below ho (a := ⟨a, 0, none⟩) hal v2) hal
            exact ⟨vb', h1, h2.imp id .inr⟩
          have HFIN := hid fin
          have frz : ∀ w2, Kept [] w w2 → w2.frozen? ⟨a, 0, none⟩ = false ∧ ∃ v, w2.cell? ⟨a, 0, none⟩ = some v := fun w2 hk2 => by
            obtain ⟨v, hv⟩ := HB.out
            exact ⟨by simp [World.frozen?, (hk2.block a hal (by simp)).trans hv], v, by simp [World.cell?, (hk2.block a hal (by simp)).trans hv]⟩
          have HFZ := hid frz
          clear fin frz
          obtain ⟨fz, _⟩ := HFZ.out _ HK.out
          cases done
          · obtain ⟨sa, sc, rfl⟩ := ownsRow_slice HO.out
            go_wp2_with (at_builtin; refine Here.mk ?_)
            refine Here.of ?_
            refine wpList_append_is rfl (.tmp 85) (.tmp 90) 30 rfl 66 _ 4 32 Try.underlying30 HNf.out rfl (by decide) (by decide) w.heap.size _ out.length _ rfl (HO.out.alloc _) _ 1 1 (rc (tx, ⟨mask, rel, 0⟩)) rfl rfl (fun j u h => cells_new _ (rc (tx, ⟨mask, rel, 0⟩)) _ j u h) (oneCell_rc _) (by omega) (by simp; omega) ?_
            intro v2 w2 hown2 hgrow2 hnil2
            have hk2 : Kept [] w w2 := (HK.out.alloc _).grown_own (HO.out.alloc _) hgrow2 (Nat.le_refl _)
            obtain ⟨sa2, sc2, rfl⟩ := ownsRow_slice hown2
            have he : out ++ [(tx, ⟨mask, rel, 0⟩)] = sins tx ⟨mask, rel, 0⟩ rows := by
              have h := HT.out
              simp only [OpenAt, Bool.false_eq_true, if_false] at h
              rw [sins_split tx _ rows rows.length h.2, ← h.1]
              simp [sins]
            have H3 := hid (HFIN.out _ w2 (out ++ [(tx, ⟨mask, rel, 0⟩)]) he (by simpa [rcs_append, rcs_one] using hown2) hk2)
            obtain ⟨fz2, v0, hv0⟩ := HFZ.out _ hk2
            clear hown2 hgrow2 hnil2 hk2 c1 fz he
            go_wp2
            go_ret
            exact ⟨rfl, H3.out⟩
          · obtain ⟨sa, sc, rfl⟩ := ownsRow_slice HO.out
            have he : out = sins tx ⟨mask, rel, 0⟩ rows := by
              have h := HT.out
              simp only [OpenAt, if_true] at h
              rw [← h.1]; simp
            have H3 := hid (HFIN.out _ wr out he HO.out HK.out)
            clear he
            go_wp2
            go_ret
            exact ⟨rfl, H3.out⟩
--@@ end
end Go.Proofs.Ytdaipbaclccodaa
