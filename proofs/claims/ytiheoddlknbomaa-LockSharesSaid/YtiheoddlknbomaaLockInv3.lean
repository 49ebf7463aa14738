/- What holds of a table of locks behind a row of calls; the laws, said of plain data. No program text. -/
import Derived.Test.YtiheoddlknbomaaLockInv2
set_option linter.all false
namespace Go.Proofs.Ytiheoddlknbomaa
set_option linter.unusedVariables false
set_option linter.unusedSimpArgs false

theorem how_nil (tx : Int) : how [] tx = 0 := rfl
theorem holds_how (t : Ta) (tx : Int) (k : K4) : t.holds tx k = how (t.row k).h tx := by
  unfold Ta.holds Ta.row
  cases aget k t.rows with
  | none => rfl
  | some r => exact (how_heldAt r.h tx).symm
theorem waitR_perm (q : List Wi) (w : Wi) : (waitR q w).Perm (w :: q) := by
  unfold waitR
  refine List.perm_middle.trans ?_
  rw [List.take_append_drop]
theorem mem_waitR {q : List Wi} {w x : Wi} : x ∈ waitR q w ↔ x = w ∨ x ∈ q := by
  rw [(waitR_perm q w).mem_iff, List.mem_cons]
theorem has_waitR (q : List Wi) (w : Wi) (tx : Int) : has (waitR q w) tx = (decide (w.tx = tx) || has q tx) := by
  rw [← has_cons, Bool.eq_iff_iff, has_iff, has_iff]
  constructor
  · rintro ⟨x, hx, e⟩; exact ⟨x, (waitR_perm q w).mem_iff.1 hx, e⟩
  · rintro ⟨x, hx, e⟩; exact ⟨x, (waitR_perm q w).mem_iff.2 hx, e⟩
theorem waitAt_ri {q : List Wi} {w : Wi} (h : w.ri = true) : ∀ x ∈ q.take (waitAt q w), x.ri = true := by
  intro x hx
  unfold waitAt at hx
  rw [if_pos h] at hx
  cases hf : q.findIdx? (fun x => !x.ri) with
  | none =>
    rw [List.findIdx?_eq_none_iff] at hf
    have := hf x (List.mem_of_mem_take hx)
    simpa using this
  | some i =>
    rw [hf, Option.getD_some] at hx
    rw [List.findIdx?_eq_some_iff_getElem] at hf
    obtain ⟨hi, _, hall⟩ := hf
    obtain ⟨j, hj, rfl⟩ := List.mem_iff_getElem.1 hx
    rw [List.length_take] at hj
    have := hall j (by omega)
    rw [List.getElem_take]
    simpa using this
theorem RowOk.wait {h q : List Wi} {w : Wi} (H : RowOk h q) (hq : has q w.tx = false) (hw : 1 ≤ w.tx ∧ w.tx ≤ 1048576) (hri : w.ri = has h w.tx) (hrx : w.ri = true → w.ex = true) : RowOk h (waitR q w) := by
  refine ⟨H.safe, ?_, H.hb, fun x hx => ?_, fun x hx => ?_, fun x hx => ?_, ?_⟩
  · rw [((waitR_perm q w).map (·.tx)).nodup_iff, List.map_cons, List.nodup_cons]
    refine ⟨fun hm => ?_, H.qn⟩
    rw [has_mem.2 hm] at hq; cases hq
  · rcases mem_waitR.1 hx with rfl | hx
    · exact hw
    · exact H.qb x hx
  · rcases mem_waitR.1 hx with rfl | hx
    · exact hri
    · exact H.ri x hx
  · rcases mem_waitR.1 hx with rfl | hx
    · exact hrx
    · exact H.rx x hx
  · have hro := H.ro
    have e : q = q.take (waitAt q w) ++ q.drop (waitAt q w) := (List.take_append_drop _ _).symm
    rw [e, List.pairwise_append] at hro
    unfold waitR
    rw [List.pairwise_append, List.pairwise_cons]
    refine ⟨hro.1, ⟨fun y hy hyr => ?_, hro.2.1⟩, fun x hx y hy hyr => ?_⟩
    · cases hwr : w.ri with
      | true => rfl
      | false =>
        unfold waitAt at hy
        rw [if_neg (by rw [hwr]; simp), List.drop_length] at hy
        cases hy
    · rcases List.mem_cons.1 hy with rfl | hy
      · exact waitAt_ri hyr x hx
      · exact hro.2.2 x hx y hy hyr
theorem Stop.wait {h q : List Wi} {w : Wi} (hs : Stop h q) (hm : ¬ (mayR h w = true ∧ (q = [] ∨ w.ri = true))) : Stop h (waitR q w) := by
  have hf : (q = [] ∨ w.ri = true) → mayR h w = false := fun h1 => by
    cases hh : mayR h w with
    | false => rfl
    | true => exact absurd ⟨hh, h1⟩ hm
  intro x q' e
  unfold waitR at e
  by_cases hz : waitAt q w = 0
  · rw [hz, List.take_zero, List.nil_append] at e
    injection e with e1 e2
    rw [← e1]
    refine hf ?_
    by_cases hr : w.ri = true
    · exact .inr hr
    · unfold waitAt at hz
      rw [if_neg hr] at hz
      exact .inl (List.eq_nil_of_length_eq_zero hz)
  · cases q with
    | nil => exact absurd (by have := waitAt_le [] w; simpa using this) hz
    | cons y q =>
      obtain ⟨n, hn⟩ : ∃ n, waitAt (y :: q) w = n + 1 := ⟨waitAt (y :: q) w - 1, by omega⟩
      rw [hn, List.take_succ_cons, List.cons_append] at e
      injection e with e1 e2
      rw [← e1]
      exact hs y q rfl
theorem Stop.grant {h q : List Wi} {w : Wi} (hn : (h.map (·.tx)).Nodup) (hq : has q w.tx = false) (hm : q = [] ∨ w.ri = true) (hri : w.ri = has h w.tx) : Stop (grantR h w) q := by
  intro y q' e
  rcases hm with hm | hm
  · rw [hm] at e; cases e
  · have hh : has h w.tx = true := by rw [← hri]; exact hm
    obtain ⟨x, hx, hxt⟩ := has_iff.1 hh
    have hmem : setEx x ∈ grantR h w := by
      rw [grantR_eq h w hn]
      unfold grantM
      rw [if_pos hh]
      exact List.mem_map.2 ⟨x, hx, by rw [if_pos hxt]⟩
    have hne : (setEx x).tx ≠ y.tx := fun e' => has_false.1 hq y (by rw [e]; exact List.mem_cons_self) (e'.symm.trans hxt)
    cases hmy : mayR (grantR h w) y with
    | false => rfl
    | true =>
      have := (mayR_iff.1 hmy _ hmem hne).1
      cases this
section
variable {t : Ta} {k : K4} {tx : Int}
theorem TaOk.ask (H : TaOk t) (tx : Int) (k : K4) (ex : Bool) (now : Int) : TaOk (t.ask tx k ex now).2 ∧ ∀ j x, how (t.row j).h x ≤ how ((t.ask tx k ex now).2.row j).h x := by
  unfold Ta.ask
  rw [holds_how]
  by_cases h1 : tx < 1 ∨ tx > 1048576 ∨ now < 0 ∨ now > 1099511627776
  · rw [if_pos h1]; exact ⟨H, fun _ _ => Int.le_refl _⟩
  rw [if_neg h1]
  dsimp only
  by_cases h2 : how (t.row k).h tx = 2 ∨ (how (t.row k).h tx = 1 ∧ ex = false)
  · rw [if_pos h2]; exact ⟨H, fun _ _ => Int.le_refl _⟩
  rw [if_neg h2]
  cases hw : aget tx t.waits with
  | some other =>
    dsimp only
    split <;> exact ⟨H, fun _ _ => Int.le_refl _⟩
  | none =>
    dsimp only
    have hq : ∀ j, has (t.row j).q tx = false := fun j => by
      cases hh : has (t.row j).q tx with
      | false => rfl
      | true => have := (H.wq tx j).2 hh; rw [hw] at this; cases this
    have hb := how_bounds (t.row k).h tx
    have hp := how_pos (h := (t.row k).h) (tx := tx)
    have hri : decide (how (t.row k).h tx = 1) = has (t.row k).h tx := by
      cases hh : has (t.row k).h tx with
      | false => rw [how_none hh]; rfl
      | true =>
        have := hp.2 hh
        refine decide_eq_true ?_
        omega
    have hex : has (t.row k).h tx = true → ex = true := fun hh => by
      have := hp.2 hh
      cases ex with
      | true => rfl
      | false =>
        refine absurd ?_ h2
        by_cases e : how (t.row k).h tx = 2
        · exact .inl e
        · exact .inr ⟨by omega, rfl⟩
    have hwx : (1 : Int) ≤ tx ∧ tx ≤ 1048576 := by omega
    have e3 : (⟨tx, ex, now, decide (how (t.row k).h tx = 1)⟩ : Wi).ri = has (t.row k).h tx := hri
    by_cases hm : mayR (t.row k).h ⟨tx, ex, now, decide (how (t.row k).h tx = 1)⟩ = true ∧ ((t.row k).q = [] ∨ decide (how (t.row k).h tx = 1) = true)
    · rw [if_pos hm]
      dsimp only
      have hR : RowOk (grantR (t.row k).h ⟨tx, ex, now, decide (how (t.row k).h tx = 1)⟩) (t.row k).q := (H.row k).grant hm.1 hex hwx (hq k)
      refine ⟨⟨⟨Ta.kn_set H.kn, by rw [Ta.waits_set]; exact H.wn, fun j => ?_, fun x j => ?_⟩, fun j => ?_⟩, fun j x => ?_⟩
      · rw [Ta.row_both]; split
        · exact hR
        · exact H.row j
      · rw [Ta.waits_set, Ta.row_both, H.wq x j]
        by_cases e : k = j
        · subst e; rw [if_pos rfl]
        · rw [if_neg e]
      · rw [Ta.row_both]; split
        · exact Stop.grant (H.row k).safe.n (hq k) hm.2 e3
        · exact H.stop j
      · rw [Ta.row_both]; split
        · rename_i e; subst e
          exact how_grant _ _ (H.row k).safe.n x
        · exact Int.le_refl _
    · rw [if_neg hm]
      dsimp only
      have hR : RowOk (t.row k).h (waitR (t.row k).q ⟨tx, ex, now, decide (how (t.row k).h tx = 1)⟩) := (H.row k).wait (hq k) hwx e3 (fun hr => hex (e3.symm.trans hr))
      have hrow : ∀ j, Ta.row { (t.need k).setRow k ⟨(t.row k).h, waitR (t.row k).q ⟨tx, ex, now, decide (how (t.row k).h tx = 1)⟩⟩ with waits := aput tx k t.waits } j = if k = j then ⟨(t.row k).h, waitR (t.row k).q ⟨tx, ex, now, decide (how (t.row k).h tx = 1)⟩⟩ else t.row j := fun j => Ta.row_both
      refine ⟨⟨⟨Ta.kn_set H.kn, tput_nodup _ _ _ H.wn, fun j => ?_, fun x j => ?_⟩, fun j => ?_⟩, fun j x => ?_⟩
      · rw [hrow]; split
        · exact hR
        · exact H.row j
      · rw [hrow]
        show aget x (aput tx k t.waits) = some j ↔ _
        rw [tget_put]
        by_cases e : k = j
        · subst e
          rw [if_pos rfl]
          dsimp only
          rw [has_waitR, Bool.or_eq_true, decide_eq_true_eq, ← H.wq x k]
          by_cases et : tx = x
          · rw [if_pos et]; simp [et]
          · rw [if_neg et]; simp [et]
        · rw [if_neg e]
          by_cases et : tx = x
          · rw [if_pos et, ← et, hq j]
            constructor
            · intro h; exact absurd (Option.some.inj h) e
            · intro h; cases h
          · rw [if_neg et, H.wq x j]
      · rw [hrow]; split
        · exact (H.stop k).wait hm
        · exact H.stop j
      · rw [hrow]; split
        · rename_i e; subst e; exact Int.le_refl _
        · exact Int.le_refl _
/-! sizes -/
theorem aput_len {α β : Type} [DecidableEq α] (k : α) (v : β) (l : List (α × β)) : (aput k v l).length = if (aget k l).isSome = true then l.length else l.length + 1 := by
  have := congrArg List.length (tput_keys k v l)
  rw [List.length_map] at this
  rw [this]
  split <;> simp
theorem adel_len {α β : Type} [DecidableEq α] (k : α) : ∀ (l : List (α × β)), (adel k l).length = if (aget k l).isSome = true then l.length - 1 else l.length
  | [] => by simp [adel, aget]
  | p :: l => by
    have ih := adel_len k l
    simp only [adel, aget]
    by_cases h : p.1 = k
    · simp [h]
    · simp only [h, if_false, List.length_cons, ih]
      split
      · rename_i hs
        have : 0 < l.length := by
          cases l with
          | nil => simp [aget] at hs
          | cons q l => simp
        omega
      · rfl
theorem Ta.need_len : (t.need k).rows.length = if (aget k t.rows).isSome = true then t.rows.length else t.rows.length + 1 := by
  unfold Ta.need
  split <;> simp
theorem Ta.need_get : (aget k (t.need k).rows).isSome = true := by
  unfold Ta.need
  split
  · assumption
  · rename_i hs
    have hn : aget k t.rows = none := by
      cases hg : aget k t.rows with
      | none => rfl
      | some v => rw [hg] at hs; simp at hs
    dsimp only
    rw [← tput_none k ⟨[], []⟩ hn, tget_put, if_pos rfl]; rfl
theorem Ta.both_len {r : Ro} : ((t.need k).setRow k r).rows.length = if (aget k t.rows).isSome = true then t.rows.length else t.rows.length + 1 := by
  unfold Ta.setRow
  dsimp only
  rw [aput_len, if_pos Ta.need_get, Ta.need_len]
theorem Ta.on_len : (t.on k).rows.length ≤ t.rows.length := by
  have hb := Ta.both_len (t := t) (k := k) (r := ⟨(onR (t.row k).h (t.row k).q).1, (onR (t.row k).h (t.row k).q).2⟩)
  have hg : (aget k ((t.need k).setRow k ⟨(onR (t.row k).h (t.row k).q).1, (onR (t.row k).h (t.row k).q).2⟩).rows).isSome = true := by
    unfold Ta.setRow
    dsimp only
    rw [tget_put, if_pos rfl]; rfl
  unfold Ta.on
  dsimp only
  by_cases hs : (aget k t.rows).isSome = true
  · rw [if_pos hs] at hb
    split
    · rw [adel_len, if_pos hg, hb]; omega
    · rw [hb]; exact Nat.le_refl _
  · rw [if_neg hs] at hb
    have hr : t.row k = ⟨[], []⟩ := by
      unfold Ta.row
      cases hg : aget k t.rows with
      | none => rfl
      | some v => rw [hg] at hs; simp at hs
    rw [if_pos (by rw [hr, onR_nil]; rfl), adel_len, if_pos hg, hb]; omega
theorem Ta.foldOn_len : ∀ (ks : List K4) (t : Ta), (ks.foldl Ta.on t).rows.length ≤ t.rows.length
  | [], t => Nat.le_refl _
  | k :: ks, t => Nat.le_trans (Ta.foldOn_len ks (t.on k)) Ta.on_len
theorem Ta.foldDrop_len (tx : Int) : ∀ (ks : List K4) (t : Ta), (∀ k ∈ ks, (aget k t.rows).isSome = true) → (ks.foldl (Ta.drop1 tx) t).rows.length = t.rows.length
  | [], t, _ => rfl
  | k :: ks, t, h => by
    have hk := h k List.mem_cons_self
    have h1 : (t.drop1 tx k).rows.length = t.rows.length := by unfold Ta.drop1; rw [Ta.both_len, if_pos hk]
    refine (Ta.foldDrop_len tx ks (t.drop1 tx k) fun j hj => ?_).trans h1
    unfold Ta.drop1 Ta.setRow Ta.need
    rw [if_pos hk]
    dsimp only
    rw [tget_put]
    split
    · rfl
    · exact h j (List.mem_cons_of_mem _ hj)
theorem Ta.row_some (h : t.row k ≠ ⟨[], []⟩) : (aget k t.rows).isSome = true := by
  cases hg : aget k t.rows with
  | some v => rfl
  | none => exact absurd (by unfold Ta.row; rw [hg]; rfl) h
theorem has_row_some (h : has (t.row k).h tx = true ∨ has (t.row k).q tx = true) : (aget k t.rows).isSome = true := Ta.row_some fun e => by
  rw [e] at h
  rcases h with h | h <;> cases h
theorem TaOk.free_len (H : TaOk t) (tx : Int) : (t.freeT tx).rows.length ≤ t.rows.length := by
  unfold Ta.freeT
  refine Nat.le_trans (Ta.foldOn_len _ _) (Nat.le_of_eq (Ta.foldDrop_len tx _ { t with waits := adel tx t.waits } fun k hk => ?_))
  exact has_row_some ((mem_ownT H.toSemiOk).1 hk)
theorem TaOk.quit_len (H : TaOk t) (tx : Int) : (t.quit tx).2.rows.length ≤ t.rows.length := by
  unfold Ta.quit
  cases hw : aget tx t.waits with
  | none => exact Nat.le_refl _
  | some k =>
    dsimp only
    refine Nat.le_trans Ta.on_len ?_
    rw [Ta.both_len]
    have := has_row_some (t := t) (k := k) (tx := tx) (.inr ((H.wq tx k).1 hw))
    rw [if_pos this]
    exact Nat.le_refl _
theorem Ta.ask_len (tx : Int) (k : K4) (ex : Bool) (now : Int) : (t.ask tx k ex now).2.rows.length ≤ t.rows.length + 1 := by
  have hb : ∀ r : Ro, ((t.need k).setRow k r).rows.length ≤ t.rows.length + 1 := fun r => by rw [Ta.both_len]; split <;> omega
  unfold Ta.ask
  split
  · exact Nat.le_succ _
  · dsimp only
    split
    · exact Nat.le_succ _
    · split
      · split <;> exact Nat.le_succ _
      · split
        · exact hb _
        · exact hb _
end
/-! calls -/
structure Cl where
  what : Int
  tx : Int
  key : K4
  ex : Bool
  now : Int
def stepT (t : Ta) (c : Cl) : Ta := if c.what = 0 then (t.ask c.tx c.key c.ex c.now).2 else if c.what = 1 then t.freeT c.tx else if c.what = 2 then (t.quit c.tx).2 else t
def doT (cs : List Cl) : Ta := cs.foldl stepT ⟨5, [], []⟩
theorem doT_snoc (cs : List Cl) (c : Cl) : doT (cs ++ [c]) = stepT (doT cs) c := by unfold doT; rw [List.foldl_append]; rfl
theorem TaOk.none (n : Int) : TaOk ⟨n, [], []⟩ := ⟨⟨by simp, by simp, fun k => RowOk.nil, fun tx k => by constructor <;> intro h <;> cases h⟩, fun k => Stop.nil _⟩
theorem TaOk.step {t : Ta} (H : TaOk t) (c : Cl) : TaOk (stepT t c) := by
  unfold stepT
  split
  · exact (H.ask _ _ _ _).1
  · split
    · exact (H.free _).1
    · split
      · exact (H.quit _).1
      · exact H
theorem doT_ok (cs : List Cl) : TaOk (doT cs) ∧ (doT cs).rows.length ≤ cs.length ∧ (doT cs).le cs.length := by
  have key : ∀ (cs : List Cl) (t : Ta) (n : Nat), TaOk t → t.rows.length ≤ n → t.le n → TaOk (cs.foldl stepT t) ∧ (cs.foldl stepT t).rows.length ≤ n + cs.length ∧ (cs.foldl stepT t).le (n + cs.length) := fun cs => by
    induction cs with
    | nil => intro t n h1 h2 h3; exact ⟨h1, h2, h3⟩
    | cons c cs ih =>
      intro t n h1 h2 h3
      have := ih (stepT t c) (n + 1) (h1.step c) (by
        unfold stepT
        split
        · exact Nat.le_trans (Ta.ask_len _ _ _ _) (by omega)
        · split
          · exact Nat.le_trans (h1.free_len _) (by omega)
          · split
            · exact Nat.le_trans (h1.quit_len _) (by omega)
            · omega) (by
        unfold stepT
        split
        · exact h3.ask _ _
        · split
          · exact h3.freeT.mono (by omega)
          · split
            · exact h3.quit.mono (by omega)
            · exact h3.mono (by omega))
      rw [List.foldl_cons, List.length_cons, show n + (cs.length + 1) = n + 1 + cs.length by omega]
      exact this
  have := key cs ⟨5, [], []⟩ 0 (TaOk.none 5) (Nat.le_refl _) (fun p hp => by cases hp)
  simpa [doT] using this
/-! who is there -/
structure TxsOf (t : Ta) (L : List Int) : Prop where
  srt : L.Pairwise (· < ·)
  mem : ∀ tx, tx ∈ L ↔ ∃ p ∈ t.rows, has p.2.h tx = true ∨ has p.2.q tx = true
theorem TxsOf.row {t : Ta} {L : List Int} (H : TxsOf t L) (hn : (t.rows.map (·.1)).Nodup) (tx : Int) : tx ∈ L ↔ ∃ k, has (t.row k).h tx = true ∨ has (t.row k).q tx = true := by
  rw [H.mem]
  constructor
  · rintro ⟨⟨k, r⟩, hp, h⟩
    exact ⟨k, by rw [Ta.row_mem hn hp]; exact h⟩
  · rintro ⟨k, h⟩
    have hs := has_row_some h
    cases hg : aget k t.rows with
    | none => rw [hg] at hs; cases hs
    | some r =>
      refine ⟨(k, r), tget_mem hg, ?_⟩
      unfold Ta.row at h
      rw [hg] at h
      exact h
theorem TxsOf.nd {t : Ta} {L : List Int} (H : TxsOf t L) : L.Nodup := H.srt.imp fun h => by omega
/-! how many of some hold, and how many alone -/
def cntT (t : Ta) (k : K4) (L : List Int) (m : Int) : Nat := (L.filter fun tx => decide (m ≤ how (t.row k).h tx)).length
theorem cntT_snoc (t : Ta) (k : K4) (L : List Int) (m tx : Int) : cntT t k (L ++ [tx]) m = cntT t k L m + if m ≤ how (t.row k).h tx then 1 else 0 := by
  unfold cntT
  rw [List.filter_append, List.length_append]
  congr 1
  by_cases h : m ≤ how (t.row k).h tx <;> simp [h]
theorem filter_pair {α : Type} {l : List α} {p : α → Bool} (hn : l.Nodup) (h2 : 2 ≤ (l.filter p).length) (a : α) : ∃ b ∈ l, p b = true ∧ b ≠ a := by
  have hn' := hn.sublist (List.filter_sublist (p := p))
  cases hl : l.filter p with
  | nil => rw [hl] at h2; simp at h2
  | cons x l1 =>
    cases l1 with
    | nil => rw [hl] at h2; simp at h2
    | cons y l2 =>
      rw [hl] at hn'
      have hx : x ∈ l.filter p := by rw [hl]; simp
      have hy : y ∈ l.filter p := by rw [hl]; simp
      rw [List.mem_filter] at hx hy
      have hxy : x ≠ y := by
        rw [List.nodup_cons] at hn'
        exact fun e => hn'.1 (by rw [e]; simp)
      by_cases e : x = a
      · exact ⟨y, hy.1, hy.2, fun e' => hxy (e.trans e'.symm)⟩
      · exact ⟨x, hx.1, hx.2, e⟩
theorem how_two {h : List Wi} (H : Safe h) {a b : Int} (ha : 2 ≤ how h a) (hb : 1 ≤ how h b) : b = a := by
  obtain ⟨y, hy, rfl⟩ := has_iff.1 (how_pos.1 (show 0 < how h b by omega))
  obtain ⟨x, hx, rfl⟩ := has_iff.1 (how_pos.1 (show 0 < how h a by omega))
  rw [how_at H.n hx] at ha
  split at ha
  · rename_i he
    exact H.s x hx he y hy
  · omega
/-- no key is held exclusively by one, and by another one, too -/
theorem law_safe {t : Ta} (H : TaOk t) {L : List Int} (hL : TxsOf t L) {k : K4} (hk : k ∈ t.heldT) : cntT t k L 1 ≠ 0 ∧ cntT t k L 2 ≤ 1 ∧ (cntT t k L 2 = 1 → cntT t k L 1 ≤ 1) := by
  rw [mem_heldT H.kn] at hk
  refine ⟨fun h0 => ?_, ?_, fun h1 => ?_⟩
  · cases hh : (t.row k).h with
    | nil => exact hk hh
    | cons x l =>
      have hx : has (t.row k).h x.tx = true := by rw [hh, has_cons]; simp
      have hm : x.tx ∈ L.filter fun tx => decide (1 ≤ how (t.row k).h tx) := by
        rw [List.mem_filter]
        refine ⟨(hL.row H.kn _).2 ⟨k, .inl hx⟩, ?_⟩
        have := how_pos.2 hx
        exact decide_eq_true (by omega)
      unfold cntT at h0
      rw [List.eq_nil_of_length_eq_zero h0] at hm
      cases hm
  · refine Nat.le_of_lt_succ (Nat.lt_of_not_le fun h2 => ?_)
    obtain ⟨a, ha, hpa, _⟩ := filter_pair hL.nd h2 0
    obtain ⟨b, hb, hpb, hne⟩ := filter_pair hL.nd h2 a
    rw [decide_eq_true_eq] at hpa hpb
    exact hne (how_two (H.row k).safe hpa (by omega))
  · refine Nat.le_of_lt_succ (Nat.lt_of_not_le fun h2 => ?_)
    have hne : L.filter (fun tx => decide (2 ≤ how (t.row k).h tx)) ≠ [] := fun e => by unfold cntT at h1; rw [e] at h1; simp at h1
    obtain ⟨a, ha⟩ := List.exists_mem_of_ne_nil _ hne
    rw [List.mem_filter, decide_eq_true_eq] at ha
    obtain ⟨b, hb, hpb, hne⟩ := filter_pair hL.nd h2 a
    rw [decide_eq_true_eq] at hpb
    exact hne (how_two (H.row k).safe ha.2 hpb)
/-- what is held is held until the transaction is free -/
theorem law_strict {t : Ta} (H : TaOk t) (c : Cl) (tx : Int) (k : K4) (h : ¬ (c.what = 1 ∧ c.tx = tx)) : how (t.row k).h tx ≤ how ((stepT t c).row k).h tx := by
  unfold stepT
  split
  · exact (H.ask _ _ _ _).2 k tx
  · split
    · rename_i h1
      rw [(H.free c.tx).2 k]
      refine Int.le_trans ?_ ((onR_ok _ _ ((H.row k).drop c.tx)).2.2.2.1 tx)
      rw [how_drop, if_neg (fun e => h ⟨h1, e.symm⟩)]
      exact Int.le_refl _
    · split
      · exact (H.quit _).2 k tx
      · exact Int.le_refl _
theorem free_none {t : Ta} (H : TaOk t) (tx : Int) (k : K4) : has ((t.freeT tx).row k).h tx = false ∧ has ((t.freeT tx).row k).q tx = false := by
  obtain ⟨h1, h2⟩ := H.free tx
  have hd : ∀ l : List Wi, has (dropR l tx) tx = false := fun l => by rw [has_drop]; simp
  obtain ⟨o1, o2, ⟨g, o3⟩, o4, o5⟩ := onR_ok _ _ ((H.row k).drop tx)
  rw [h2]
  refine ⟨?_, ?_⟩
  · cases hh : has (onR (dropR (t.row k).h tx) (dropR (t.row k).q tx)).1 tx with
    | false => rfl
    | true =>
      rcases o5 tx hh with h | h
      · rw [hd] at h; cases h
      · rw [hd] at h; cases h
  · have := (congrArg (fun l => has l tx) o3).symm
    rw [hd] at this
    rw [has_app, Bool.or_eq_false_iff] at this
    exact this.2
theorem law_free {t : Ta} (H : TaOk t) (tx : Int) (k : K4) : aget tx (t.freeT tx).waits = none ∧ (t.freeT tx).keysT tx = [] ∧ how ((t.freeT tx).row k).h tx = 0 := by
  have hf := (H.free tx).1
  refine ⟨?_, ?_, how_none (free_none H tx k).1⟩
  · cases hw : aget tx (t.freeT tx).waits with
    | none => rfl
    | some j => have := (hf.wq tx j).1 hw; rw [(free_none H tx j).2] at this; cases this
  · cases hk : (t.freeT tx).keysT tx with
    | nil => rfl
    | cons j l =>
      have : j ∈ (t.freeT tx).keysT tx := by rw [hk]; simp
      rw [mem_keysT hf.kn, (free_none H tx j).1] at this; cases this
/-- who is there behind a free was there, and is another one -/
theorem free_sub {t : Ta} (H : TaOk t) (tx x : Int) (k : K4) (h : has ((t.freeT tx).row k).h x = true ∨ has ((t.freeT tx).row k).q x = true) : x ≠ tx ∧ (has (t.row k).h x = true ∨ has (t.row k).q x = true) := by
  obtain ⟨h1, h2⟩ := H.free tx
  obtain ⟨o1, o2, ⟨g, o3⟩, o4, o5⟩ := onR_ok _ _ ((H.row k).drop tx)
  rw [h2] at h
  have key : has (dropR (t.row k).h tx) x = true ∨ has (dropR (t.row k).q tx) x = true := by
    rcases h with h | h
    · exact o5 x h
    · refine .inr ?_
      have := congrArg (fun l => has l x) o3
      refine this.trans ?_
      rw [has_app]
      dsimp only at h
      rw [h]; simp
  rw [has_drop, has_drop, Bool.and_eq_true, Bool.and_eq_true, decide_eq_true_eq] at key
  rcases key with h | h
  · exact ⟨h.2, .inl h.1⟩
  · exact ⟨h.2, .inr h.1⟩
def freeAll (t : Ta) (L : List Int) : Ta := L.foldl Ta.freeT t
theorem freeAll_ok : ∀ (L : List Int) {t : Ta}, TaOk t → TaOk (freeAll t L) ∧ ∀ k x, (has ((freeAll t L).row k).h x = true ∨ has ((freeAll t L).row k).q x = true) → x ∉ L ∧ (has (t.row k).h x = true ∨ has (t.row k).q x = true)
  | [], t, H => ⟨H, fun k x h => ⟨by simp, h⟩⟩
  | y :: L, t, H => by
    obtain ⟨h1, h2⟩ := freeAll_ok L (H.free y).1
    refine ⟨h1, fun k x h => ?_⟩
    obtain ⟨h3, h4⟩ := h2 k x h
    obtain ⟨h5, h6⟩ := free_sub H y x k h4
    exact ⟨by simp [h3, h5], h6⟩
theorem row_empty {t : Ta} (H : TaOk t) (h : ∀ k x, ¬ (has (t.row k).h x = true ∨ has (t.row k).q x = true)) : ∀ p ∈ t.rows, p.2.h = [] ∧ p.2.q = [] := fun p hp => by
  have hr := Ta.row_mem H.kn (k := p.1) (r := p.2) hp
  constructor
  · cases hh : p.2.h with
    | nil => rfl
    | cons x l => exact absurd (.inl (by rw [hr, hh, has_cons]; simp)) (h p.1 x.tx)
  · cases hh : p.2.q with
    | nil => rfl
    | cons x l => exact absurd (.inr (by rw [hr, hh, has_cons]; simp)) (h p.1 x.tx)
/-- when all who hold something are free no one waits, and nothing is held -/
theorem law_all {t : Ta} (H : TaOk t) {L : List Int} (hL : TxsOf t L) {M : List Int} (hM : TxsOf (freeAll t L) M) (now : Int) : M = [] ∧ (freeAll t L).heldT = [] ∧ (freeAll t L).lateT now = [] := by
  obtain ⟨h1, h2⟩ := freeAll_ok L H
  have hno : ∀ k x, ¬ (has ((freeAll t L).row k).h x = true ∨ has ((freeAll t L).row k).q x = true) := fun k x h => by
    obtain ⟨h3, h4⟩ := h2 k x h
    exact h3 ((hL.row H.kn x).2 ⟨k, h4⟩)
  have he := row_empty h1 hno
  refine ⟨?_, ?_, ?_⟩
  · cases hm : M with
    | nil => rfl
    | cons x l =>
      obtain ⟨k, hk⟩ := (hM.row h1.kn x).1 (by rw [hm]; simp)
      exact absurd hk (hno k x)
  · cases hm : (freeAll t L).heldT with
    | nil => rfl
    | cons k l =>
      have : k ∈ (freeAll t L).heldT := by rw [hm]; simp
      rw [mem_heldT h1.kn] at this
      cases hh : ((freeAll t L).row k).h with
      | nil => exact absurd hh this
      | cons x l => exact absurd (.inl (by rw [hh, has_cons]; simp)) (hno k x.tx)
  · unfold Ta.lateT
    have : (freeAll t L).rows.flatMap (fun p => lateL now (freeAll t L).lim p.2.q) = [] := by
      rw [List.flatMap_eq_nil_iff]
      intro p hp
      rw [(he p hp).2]; rfl
    rw [this]
    exact List.eq_nil_of_length_eq_zero (srtI_perm []).length_eq
/-- who waits isn't granted only because another one holds -/
theorem law_waits {t : Ta} (H : TaOk t) {L : List Int} (hL : TxsOf t L) {tx : Int} {k : K4} (hw : aget tx t.waits = some k) : (∃ y ∈ L, y ≠ tx ∧ 0 < how (t.row k).h y) ∧ how (t.row k).h tx ≠ 2 ∧ t.ask tx k true 0 = (17, t) := by
  have hq := (H.wq tx k).1 hw
  have hR := H.row k
  have hother : ∃ y, y ≠ tx ∧ has (t.row k).h y = true := by
    cases hql : (t.row k).q with
    | nil => rw [hql] at hq; cases hq
    | cons x qs =>
      have hm := H.stop k x qs hql
      have hx : x ∈ (t.row k).q := by rw [hql]; simp
      obtain ⟨z, hz, hzx⟩ : ∃ z ∈ (t.row k).h, z.tx ≠ x.tx := by
        refine Decidable.byContradiction fun hno => ?_
        have : mayR (t.row k).h x = true := mayR_iff.2 fun z hz hne => absurd ⟨z, hz, hne⟩ hno
        rw [hm] at this; cases this
      cases hxr : x.ri with
      | true =>
        have hh := hR.ri x hx
        rw [hxr] at hh
        by_cases e : x.tx = tx
        · exact ⟨z.tx, by rw [← e]; exact hzx, has_iff.2 ⟨z, hz, rfl⟩⟩
        · exact ⟨x.tx, e, hh.symm⟩
      | false =>
        obtain ⟨y, hy, hyt⟩ := has_iff.1 hq
        have hyr : y.ri = false := by
          have hro := hR.ro
          rw [hql] at hro hy
          rcases List.mem_cons.1 hy with e | hy
          · rw [e]; exact hxr
          · have := (List.pairwise_cons.1 hro).1 y hy
            cases hyr : y.ri with
            | false => rfl
            | true => rw [this hyr] at hxr; cases hxr
        have hyh := hR.ri y hy
        rw [hyr, hyt] at hyh
        exact ⟨z.tx, fun e => has_false.1 hyh.symm z hz e, has_iff.2 ⟨z, hz, rfl⟩⟩
  obtain ⟨y, hy1, hy2⟩ := hother
  have hp := how_pos.2 hy2
  have h2 : how (t.row k).h tx ≠ 2 := fun e => hy1 (how_two hR.safe (by omega) (by omega))
  refine ⟨⟨y, (hL.row H.kn y).2 ⟨k, .inl hy2⟩, hy1, hp⟩, h2, ?_⟩
  obtain ⟨x, hx, hxt⟩ := has_iff.1 hq
  have hb := hR.qb x hx
  rw [hxt] at hb
  unfold Ta.ask
  rw [if_neg (by omega)]
  dsimp only
  rw [holds_how, if_neg (by simp [h2])]
  rw [hw]
  simp
end Go.Proofs.Ytiheoddlknbomaa
