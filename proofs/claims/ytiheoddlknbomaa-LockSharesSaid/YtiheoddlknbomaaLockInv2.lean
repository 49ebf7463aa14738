/- What holds of a table of locks at all times: its rows, its waits. No program text. -/
import Derived.Test.YtiheoddlknbomaaLockLate
set_option linter.all false
namespace Go.Proofs.Ytiheoddlknbomaa
set_option linter.unusedVariables false
set_option linter.unusedSimpArgs false

theorem has_mem {l : List Wi} {tx : Int} : has l tx = true ↔ tx ∈ l.map (·.tx) := by
  rw [has_iff]; simp
theorem has_app (l m : List Wi) (tx : Int) : has (l ++ m) tx = (has l tx || has m tx) := by simp [has]
theorem has_cons (x : Wi) (l : List Wi) (tx : Int) : has (x :: l) tx = (decide (x.tx = tx) || has l tx) := by simp [has]
theorem has_grant (h : List Wi) (w : Wi) (tx : Int) (hn : (h.map (·.tx)).Nodup) : has (grantR h w) tx = (has h tx || decide (w.tx = tx)) := by
  rw [grantR_eq h w hn, Bool.eq_iff_iff, has_mem, grantM_tx]
  split
  · rename_i hh
    rw [Bool.or_eq_true, has_mem, decide_eq_true_eq]
    refine ⟨.inl, fun h => h.elim id fun e => ?_⟩
    rw [← e]; exact has_mem.1 hh
  · rw [Bool.or_eq_true, has_mem, decide_eq_true_eq, List.mem_append, List.mem_singleton]
    exact or_congr Iff.rfl ⟨fun e => e.symm, fun e => e.symm⟩
theorem has_drop (l : List Wi) (t tx : Int) : has (dropR l t) tx = (has l tx && decide (tx ≠ t)) := by
  rw [Bool.eq_iff_iff, has_iff, Bool.and_eq_true, has_iff, decide_eq_true_eq]
  unfold dropR
  constructor
  · rintro ⟨w, hw, rfl⟩
    rw [List.mem_filter, decide_eq_true_eq] at hw
    exact ⟨⟨w, hw.1, rfl⟩, hw.2⟩
  · rintro ⟨⟨w, hw, rfl⟩, hne⟩
    exact ⟨w, List.mem_filter.2 ⟨hw, by simpa using hne⟩, rfl⟩
theorem drop_id {l : List Wi} {t : Int} (h : has l t = false) : dropR l t = l := by
  unfold dropR
  rw [List.filter_eq_self]
  intro w hw
  simpa using has_false.1 h w hw
/-- what holds of a row -/
structure RowOk (h q : List Wi) : Prop where
  safe : Safe h
  qn : (q.map (·.tx)).Nodup
  hb : ∀ x ∈ h, 1 ≤ x.tx ∧ x.tx ≤ 1048576
  qb : ∀ x ∈ q, 1 ≤ x.tx ∧ x.tx ≤ 1048576
  ri : ∀ x ∈ q, x.ri = has h x.tx
  rx : ∀ x ∈ q, x.ri = true → x.ex = true
  ro : q.Pairwise (fun x y => y.ri = true → x.ri = true)
def Stop (h q : List Wi) : Prop := ∀ x q', q = x :: q' → mayR h x = false
theorem RowOk.nil : RowOk [] [] := ⟨Safe.nil, by simp, by simp, by simp, by simp, by simp, by simp⟩
theorem Stop.nil (h : List Wi) : Stop h [] := fun _ _ e => by cases e
theorem RowOk.grant {h q : List Wi} {w : Wi} (H : RowOk h q) (hm : mayR h w = true) (hx : has h w.tx = true → w.ex = true) (hw : 1 ≤ w.tx ∧ w.tx ≤ 1048576) (hq : has q w.tx = false) : RowOk (grantR h w) q := by
  refine ⟨H.safe.grant w hm hx, H.qn, fun y hy => ?_, H.qb, fun y hy => ?_, H.rx, H.ro⟩
  · have h1 : has (grantR h w) y.tx = true := has_iff.2 ⟨y, hy, rfl⟩
    rw [has_grant h w y.tx H.safe.n, Bool.or_eq_true, decide_eq_true_eq] at h1
    rcases h1 with h1 | h1
    · obtain ⟨z, hz, e⟩ := has_iff.1 h1
      have := H.hb z hz
      rw [e] at this; exact this
    · rw [← h1]; exact hw
  · rw [H.ri y hy, has_grant h w y.tx H.safe.n]
    have : w.tx ≠ y.tx := fun e => has_false.1 hq y hy e.symm
    simp [this]
theorem RowOk.tail {h q : List Wi} {x : Wi} (H : RowOk h (x :: q)) : RowOk h q :=
  ⟨H.safe, (List.nodup_cons.1 H.qn).2, H.hb, fun y hy => H.qb y (List.mem_cons_of_mem _ hy), fun y hy => H.ri y (List.mem_cons_of_mem _ hy), fun y hy => H.rx y (List.mem_cons_of_mem _ hy), (List.pairwise_cons.1 H.ro).2⟩
theorem RowOk.drop {h q : List Wi} (H : RowOk h q) (tx : Int) : RowOk (dropR h tx) (dropR q tx) :=
  ⟨H.safe.drop tx, H.qn.sublist (List.filter_sublist.map _), fun x hx => H.hb x (List.mem_filter.1 hx).1, fun x hx => H.qb x (List.mem_filter.1 hx).1,
    fun x hx => by
      have h1 := List.mem_filter.1 hx
      rw [H.ri x h1.1, has_drop, h1.2]; simp,
    fun x hx => H.rx x (List.mem_filter.1 hx).1, H.ro.sublist List.filter_sublist⟩
theorem RowOk.dropq {h q : List Wi} (H : RowOk h q) (tx : Int) : RowOk h (dropR q tx) :=
  ⟨H.safe, H.qn.sublist (List.filter_sublist.map _), H.hb, fun x hx => H.qb x (List.mem_filter.1 hx).1, fun x hx => H.ri x (List.mem_filter.1 hx).1, fun x hx => H.rx x (List.mem_filter.1 hx).1, H.ro.sublist List.filter_sublist⟩
theorem onR_same {h q : List Wi} (hs : Stop h q) : onR h q = (h, q) := by
  cases q with
  | nil => exact onR_nil h
  | cons x q => exact onR_stop (hs x q rfl)
theorem onR_ok : ∀ (q h : List Wi), RowOk h q → RowOk (onR h q).1 (onR h q).2 ∧ Stop (onR h q).1 (onR h q).2 ∧ (∃ g, q = g ++ (onR h q).2) ∧ (∀ tx, how h tx ≤ how (onR h q).1 tx) ∧ ∀ tx, has (onR h q).1 tx = true → has h tx = true ∨ has q tx = true
  | [], h, H => by
    rw [onR_nil]
    exact ⟨H, Stop.nil h, ⟨[], rfl⟩, fun tx => Int.le_refl _, fun tx h => .inl h⟩
  | x :: q, h, H => by
    cases hm : mayR h x with
    | false =>
      rw [onR_stop hm]
      refine ⟨H, fun y q' e => ?_, ⟨[], rfl⟩, fun tx => Int.le_refl _, fun tx h => .inl h⟩
      injection e with e1 e2
      rw [← e1]; exact hm
    | true =>
      rw [onR_go hm]
      have hq : has q x.tx = false := by
        have := (List.nodup_cons.1 H.qn).1
        cases hh : has q x.tx with
        | false => rfl
        | true => exact absurd (has_mem.1 hh) this
      have H1 := H.tail.grant hm (fun hh => H.rx x List.mem_cons_self (by rw [H.ri x List.mem_cons_self]; exact hh)) (H.qb x List.mem_cons_self) hq
      obtain ⟨i1, i2, ⟨g, i3⟩, i4, i5⟩ := onR_ok q (grantR h x) H1
      refine ⟨i1, i2, ⟨x :: g, by rw [List.cons_append, ← i3]⟩, fun tx => Int.le_trans (how_grant h x H.safe.n tx) (i4 tx), fun tx ht => ?_⟩
      rcases i5 tx ht with h1 | h1
      · rw [has_grant h x tx H.safe.n, Bool.or_eq_true, decide_eq_true_eq] at h1
        rcases h1 with h1 | h1
        · exact .inl h1
        · exact .inr (by rw [has_cons]; simp [h1])
      · exact .inr (by rw [has_cons, h1]; simp)

/-! the table's rows -/
section
variable {t : Ta} {k j : K4} {r : Ro} {tx : Int}
theorem Ta.row_need : (t.need k).row j = t.row j := by
  unfold Ta.need
  split
  · rfl
  · rename_i hs
    have hn : aget k t.rows = none := by
      cases hg : aget k t.rows with
      | none => rfl
      | some v => rw [hg] at hs; simp at hs
    unfold Ta.row
    dsimp only
    rw [← tput_none k ⟨[], []⟩ hn, tget_put]
    by_cases e : k = j
    · subst e; rw [if_pos rfl, hn]; rfl
    · rw [if_neg e]
theorem Ta.row_setRow : (t.setRow k r).row j = if k = j then r else t.row j := by
  unfold Ta.row Ta.setRow
  dsimp only
  rw [tget_put]
  split <;> rfl
theorem Ta.kn_need (h : (t.rows.map (·.1)).Nodup) : ((t.need k).rows.map (·.1)).Nodup := by
  unfold Ta.need
  split
  · exact h
  · rename_i hs
    have hn : aget k t.rows = none := by
      cases hg : aget k t.rows with
      | none => rfl
      | some v => rw [hg] at hs; simp at hs
    dsimp only
    rw [← tput_none k ⟨[], []⟩ hn]
    exact tput_nodup _ _ _ h
theorem Ta.kn_set (h : (t.rows.map (·.1)).Nodup) : (((t.need k).setRow k r).rows.map (·.1)).Nodup := tput_nodup _ _ _ (Ta.kn_need h)
theorem Ta.row_both : ((t.need k).setRow k r).row j = if k = j then r else t.row j := by rw [Ta.row_setRow, Ta.row_need]
theorem Ta.waits_need : (t.need k).waits = t.waits := by unfold Ta.need; split <;> rfl
theorem Ta.waits_set : ((t.need k).setRow k r).waits = t.waits := Ta.waits_need
theorem Ta.row_on (hn : (t.rows.map (·.1)).Nodup) : (t.on k).row j = if k = j then ⟨(onR (t.row k).h (t.row k).q).1, (onR (t.row k).h (t.row k).q).2⟩ else t.row j := by
  have hb := Ta.row_both (t := t) (k := k) (j := j) (r := ⟨(onR (t.row k).h (t.row k).q).1, (onR (t.row k).h (t.row k).q).2⟩)
  have hk := Ta.kn_set (k := k) (r := ⟨(onR (t.row k).h (t.row k).q).1, (onR (t.row k).h (t.row k).q).2⟩) hn
  unfold Ta.on
  dsimp only
  by_cases hz : (onR (t.row k).h (t.row k).q).1.length + (onR (t.row k).h (t.row k).q).2.length = 0
  · rw [if_pos hz]
    show (aget j (adel k _)).getD _ = _
    rw [tget_del _ _ _ hk]
    by_cases e : k = j
    · rw [if_pos e, if_pos e]
      have h1 : (onR (t.row k).h (t.row k).q).1 = [] := List.eq_nil_of_length_eq_zero (by omega)
      have h2 : (onR (t.row k).h (t.row k).q).2 = [] := List.eq_nil_of_length_eq_zero (by omega)
      rw [h1, h2]; rfl
    · rw [if_neg e]
      exact hb
  · rw [if_neg hz]
    exact hb
theorem Ta.kn_on (hn : (t.rows.map (·.1)).Nodup) : ((t.on k).rows.map (·.1)).Nodup := by
  have hk := Ta.kn_set (k := k) (r := ⟨(onR (t.row k).h (t.row k).q).1, (onR (t.row k).h (t.row k).q).2⟩) hn
  unfold Ta.on
  dsimp only
  split
  · exact tdel_nodup _ _ hk
  · exact hk
theorem fold_adel (tx : Int) : ∀ (g : List Wi) (ws : List (Int × K4)), (ws.map (·.1)).Nodup → ((g.foldl (fun ws w => adel w.tx ws) ws).map (·.1)).Nodup ∧ aget tx (g.foldl (fun ws w => adel w.tx ws) ws) = if has g tx = true then none else aget tx ws
  | [], ws, h => ⟨h, by simp [has]⟩
  | x :: g, ws, h => by
    obtain ⟨h1, h2⟩ := fold_adel tx g (adel x.tx ws) (tdel_nodup _ _ h)
    refine ⟨h1, ?_⟩
    rw [List.foldl_cons, h2, tget_del _ _ _ h, has_cons]
    by_cases e : x.tx = tx
    · simp [e]
    · simp [e]
/-- what holds between the table's steps -/
structure SemiOk (t : Ta) : Prop where
  kn : (t.rows.map (·.1)).Nodup
  wn : (t.waits.map (·.1)).Nodup
  row : ∀ k, RowOk (t.row k).h (t.row k).q
  wq : ∀ tx k, aget tx t.waits = some k ↔ has (t.row k).q tx = true
structure TaOk (t : Ta) : Prop extends SemiOk t where
  stop : ∀ k, Stop (t.row k).h (t.row k).q
theorem SemiOk.one (H : SemiOk t) {i : K4} (h1 : has (t.row k).q tx = true) (h2 : has (t.row i).q tx = true) : k = i := by
  have e1 := (H.wq tx k).2 h1
  have e2 := (H.wq tx i).2 h2
  rw [e1] at e2
  exact Option.some.inj e2
theorem SemiOk.on (H : SemiOk t) (k : K4) : SemiOk (t.on k) := by
  obtain ⟨r1, r2, ⟨g, r3⟩, r4, r5⟩ := onR_ok _ _ (H.row k)
  have hw : (t.on k).waits = ((t.row k).q.take ((t.row k).q.length - (onR (t.row k).h (t.row k).q).2.length)).foldl (fun ws w => adel w.tx ws) t.waits := rfl
  have hg : (t.row k).q.take ((t.row k).q.length - (onR (t.row k).h (t.row k).q).2.length) = g := by
    have hl := congrArg List.length r3
    rw [List.length_append] at hl
    rw [hl, Nat.add_sub_cancel]
    exact (congrArg (List.take g.length) r3).trans List.take_left
  rw [hg] at hw
  refine ⟨Ta.kn_on H.kn, ?_, fun j => ?_, fun tx j => ?_⟩
  · rw [hw]; exact (fold_adel 0 g t.waits H.wn).1
  · rw [Ta.row_on H.kn]
    split
    · exact r1
    · exact H.row j
  · rw [hw, (fold_adel tx g t.waits H.wn).2, Ta.row_on H.kn]
    have hq : has (t.row k).q tx = (has g tx || has (onR (t.row k).h (t.row k).q).2 tx) := (congrArg (fun l => has l tx) r3).trans (has_app _ _ _)
    have hnd : has g tx = true → has (onR (t.row k).h (t.row k).q).2 tx = false := fun hh => by
      have hn := (H.row k).qn
      have hn2 := (congrArg (fun l => (l.map (·.tx)).Nodup) r3).mp hn
      rw [List.map_append, List.nodup_append] at hn2
      cases h2 : has (onR (t.row k).h (t.row k).q).2 tx with
      | false => rfl
      | true => exact absurd rfl (hn2.2.2 tx (has_mem.1 hh) tx (has_mem.1 h2))
    cases hgt : has g tx with
    | true =>
      rw [if_pos rfl]
      have hk : has (t.row k).q tx = true := by rw [hq, hgt]; rfl
      constructor
      · intro e; cases e
      · intro e
        exfalso
        by_cases hkj : k = j
        · rw [if_pos hkj] at e
          have := hnd hgt
          rw [this] at e; cases e
        · rw [if_neg hkj] at e
          exact hkj (H.one hk e)
    | false =>
      rw [if_neg (by simp), H.wq tx j]
      by_cases hkj : k = j
      · rw [if_pos hkj, ← hkj, hq, hgt, Bool.false_or]
      · rw [if_neg hkj]
theorem SemiOk.foldOn : ∀ (ks : List K4) {t : Ta}, SemiOk t → SemiOk (ks.foldl Ta.on t) ∧ ∀ j, (ks.foldl Ta.on t).row j = if j ∈ ks then ⟨(onR (t.row j).h (t.row j).q).1, (onR (t.row j).h (t.row j).q).2⟩ else t.row j
  | [], t, H => ⟨H, fun j => by simp⟩
  | k :: ks, t, H => by
    obtain ⟨h1, h2⟩ := SemiOk.foldOn ks (H.on k)
    refine ⟨h1, fun j => ?_⟩
    rw [List.foldl_cons, h2, Ta.row_on H.kn]
    by_cases e : k = j
    · subst e
      rw [if_pos rfl]
      dsimp only
      rw [onR_same (onR_ok _ _ (H.row k)).2.1]
      simp
    · rw [if_neg e]
      have : (j ∈ k :: ks) = (j ∈ ks) := by simp [Ne.symm e]
      simp only [this]
theorem Ta.foldDrop (tx : Int) : ∀ (ks : List K4) (t : Ta), (t.rows.map (·.1)).Nodup → ((ks.foldl (Ta.drop1 tx) t).rows.map (·.1)).Nodup ∧ (ks.foldl (Ta.drop1 tx) t).waits = t.waits ∧ ∀ j, (ks.foldl (Ta.drop1 tx) t).row j = if j ∈ ks then ⟨dropR (t.row j).h tx, dropR (t.row j).q tx⟩ else t.row j
  | [], t, h => ⟨h, rfl, fun j => by simp⟩
  | k :: ks, t, h => by
    obtain ⟨h1, h2, h3⟩ := Ta.foldDrop tx ks (t.drop1 tx k) (Ta.kn_set h)
    refine ⟨h1, h2.trans Ta.waits_set, fun j => ?_⟩
    have hr : (t.drop1 tx k).row j = if k = j then ⟨dropR (t.row k).h tx, dropR (t.row k).q tx⟩ else t.row j := Ta.row_both
    have hd : ∀ l : List Wi, dropR (dropR l tx) tx = dropR l tx := fun l => drop_id (by rw [has_drop]; simp)
    rw [List.foldl_cons, h3, hr]
    by_cases e : k = j
    · subst e
      rw [if_pos rfl]
      dsimp only
      rw [hd, hd]
      simp
    · rw [if_neg e]
      have : (j ∈ k :: ks) = (j ∈ ks) := by simp [Ne.symm e]
      simp only [this]
theorem Ta.row_mem (hn : (t.rows.map (·.1)).Nodup) : (k, r) ∈ t.rows → t.row k = r := fun h => by
  unfold Ta.row; rw [tget_of_mem hn h]; rfl
theorem mem_keysS (hn : (t.rows.map (·.1)).Nodup) (p : Ro → Bool) (hp : p ⟨[], []⟩ = false) : k ∈ t.keysS p ↔ p (t.row k) = true := by
  unfold Ta.keysS
  rw [(sortK_perm _).mem_iff, List.mem_map]
  constructor
  · rintro ⟨⟨k', r⟩, h1, rfl⟩
    rw [List.mem_filter] at h1
    rw [Ta.row_mem hn h1.1]
    exact h1.2
  · intro h
    unfold Ta.row at h
    cases hg : aget k t.rows with
    | none => rw [hg] at h; simp only [Option.getD_none] at h; rw [hp] at h; cases h
    | some r =>
      rw [hg] at h
      exact ⟨(k, r), List.mem_filter.2 ⟨tget_mem hg, h⟩, rfl⟩
theorem mem_keysT (hn : (t.rows.map (·.1)).Nodup) : k ∈ t.keysT tx ↔ has (t.row k).h tx = true := by
  unfold Ta.keysT
  rw [mem_keysS hn _ rfl, heldAt_isSome]
theorem mem_heldT (hn : (t.rows.map (·.1)).Nodup) : k ∈ t.heldT ↔ (t.row k).h ≠ [] := by
  unfold Ta.heldT
  rw [mem_keysS hn _ rfl, decide_eq_true_eq, List.length_pos_iff]
theorem mem_ownT (H : SemiOk t) : k ∈ t.ownT tx ↔ has (t.row k).h tx = true ∨ has (t.row k).q tx = true := by
  unfold Ta.ownT
  rw [mem_compK, (sortK_perm _).mem_iff, List.mem_append, mem_keysT H.kn, ← H.wq tx k, Option.mem_toList]
theorem TaOk.free (H : TaOk t) (tx : Int) : TaOk (t.freeT tx) ∧ ∀ k, (t.freeT tx).row k = ⟨(onR (dropR (t.row k).h tx) (dropR (t.row k).q tx)).1, (onR (dropR (t.row k).h tx) (dropR (t.row k).q tx)).2⟩ := by
  obtain ⟨d1, d2, d3⟩ := Ta.foldDrop tx (t.ownT tx) { t with waits := adel tx t.waits } H.kn
  have d4 : ∀ j, ((t.ownT tx).foldl (Ta.drop1 tx) { t with waits := adel tx t.waits }).row j = ⟨dropR (t.row j).h tx, dropR (t.row j).q tx⟩ := fun j => by
    rw [d3]
    show (if j ∈ t.ownT tx then (⟨dropR (t.row j).h tx, dropR (t.row j).q tx⟩ : Ro) else t.row j) = _
    split
    · rfl
    · rename_i hj
      rw [mem_ownT H.toSemiOk, not_or, Bool.not_eq_true, Bool.not_eq_true] at hj
      rw [drop_id hj.1, drop_id hj.2]
  have hS : SemiOk ((t.ownT tx).foldl (Ta.drop1 tx) { t with waits := adel tx t.waits }) := by
    refine ⟨d1, ?_, fun k => ?_, fun x k => ?_⟩
    · rw [d2]; exact tdel_nodup _ _ H.wn
    · rw [d4]; exact (H.row k).drop tx
    · rw [d2, d4]
      show aget x (adel tx t.waits) = some k ↔ has (dropR (t.row k).q tx) x = true
      rw [tget_del _ _ _ H.wn, has_drop, Bool.and_eq_true, decide_eq_true_eq, ← H.wq x k]
      by_cases e : tx = x
      · subst e; simp
      · rw [if_neg e]
        exact ⟨fun h => ⟨h, fun e' => e e'.symm⟩, fun h => h.1⟩
  obtain ⟨o1, o2⟩ := SemiOk.foldOn (t.ownT tx) hS
  have o3 : ∀ k, (t.freeT tx).row k = ⟨(onR (dropR (t.row k).h tx) (dropR (t.row k).q tx)).1, (onR (dropR (t.row k).h tx) (dropR (t.row k).q tx)).2⟩ := fun k => by
    have := o2 k
    rw [d4] at this
    refine this.trans ?_
    split
    · rfl
    · rename_i hj
      rw [mem_ownT H.toSemiOk, not_or, Bool.not_eq_true, Bool.not_eq_true] at hj
      rw [drop_id hj.1, drop_id hj.2, onR_same (H.stop k)]
  exact ⟨⟨o1, fun k => by rw [o3]; exact (onR_ok _ _ ((H.row k).drop tx)).2.1⟩, o3⟩
theorem TaOk.quit (H : TaOk t) (tx : Int) : TaOk (t.quit tx).2 ∧ ∀ k x, how (t.row k).h x ≤ how ((t.quit tx).2.row k).h x := by
  unfold Ta.quit
  cases hw : aget tx t.waits with
  | none => exact ⟨H, fun k x => Int.le_refl _⟩
  | some k =>
    dsimp only
    have hr : ∀ j, (((Ta.need { t with waits := adel tx t.waits } k).setRow k ⟨(Ta.row { t with waits := adel tx t.waits } k).h, dropR (Ta.row { t with waits := adel tx t.waits } k).q tx⟩)).row j = ⟨(t.row j).h, dropR (t.row j).q tx⟩ := fun j => by
      rw [Ta.row_both]
      show (if k = j then (⟨(t.row k).h, dropR (t.row k).q tx⟩ : Ro) else t.row j) = _
      by_cases e : k = j
      · subst e; rw [if_pos rfl]
      · rw [if_neg e, drop_id]
        cases h2 : has (t.row j).q tx with
        | false => rfl
        | true => exact absurd (H.one ((H.wq tx k).1 hw) h2) e
    have hS : SemiOk ((Ta.need { t with waits := adel tx t.waits } k).setRow k ⟨(Ta.row { t with waits := adel tx t.waits } k).h, dropR (Ta.row { t with waits := adel tx t.waits } k).q tx⟩) := by
      refine ⟨Ta.kn_set H.kn, ?_, fun j => ?_, fun x j => ?_⟩
      · rw [Ta.waits_set]; exact tdel_nodup _ _ H.wn
      · rw [hr]; exact (H.row j).dropq tx
      · rw [Ta.waits_set, hr]
        show aget x (adel tx t.waits) = some j ↔ has (dropR (t.row j).q tx) x = true
        rw [tget_del _ _ _ H.wn, has_drop, Bool.and_eq_true, decide_eq_true_eq, ← H.wq x j]
        by_cases e : tx = x
        · subst e; simp
        · rw [if_neg e]
          exact ⟨fun h => ⟨h, fun e' => e e'.symm⟩, fun h => h.1⟩
    have hrow : ∀ j, (Ta.on ((Ta.need { t with waits := adel tx t.waits } k).setRow k ⟨(Ta.row { t with waits := adel tx t.waits } k).h, dropR (Ta.row { t with waits := adel tx t.waits } k).q tx⟩) k).row j = if k = j then ⟨(onR (t.row k).h (dropR (t.row k).q tx)).1, (onR (t.row k).h (dropR (t.row k).q tx)).2⟩ else t.row j := fun j => by
      rw [Ta.row_on hS.kn, hr]
      split
      · rfl
      · rename_i e
        rw [hr, drop_id]
        cases h2 : has (t.row j).q tx with
        | false => rfl
        | true => exact absurd (H.one ((H.wq tx k).1 hw) h2) e
    refine ⟨⟨hS.on k, fun j => ?_⟩, fun j x => ?_⟩
    · rw [hrow]
      split
      · exact (onR_ok _ _ ((H.row k).dropq tx)).2.1
      · exact H.stop j
    · rw [hrow]
      split
      · rename_i e
        subst e
        exact (onR_ok _ _ ((H.row k).dropq tx)).2.2.2.1 x
      · exact Int.le_refl _
end
end Go.Proofs.Ytiheoddlknbomaa
