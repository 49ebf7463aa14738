/- A key that is asked for by many, exclusively or shared; two that share a key. Plain data, no program text. -/
import Derived.Test.YtiheoddlknbomaaLockInv3
set_option linter.all false
namespace Go.Proofs.Ytiheoddlknbomaa
set_option linter.unusedVariables false
set_option linter.unusedSimpArgs false

/-- only key k has a row, this one -/
structure OneRow (t : Ta) (k : K4) (h q : List Wi) : Prop where
  ok : TaOk t
  row : t.row k = ⟨h, q⟩
  no : ∀ j, j ≠ k → t.row j = ⟨[], []⟩
theorem OneRow.nil (n : Int) (k : K4) : OneRow ⟨n, [], []⟩ k [] [] := ⟨TaOk.none n, rfl, fun _ _ => rfl⟩
section
variable {t : Ta} {k : K4} {h q : List Wi}
theorem OneRow.how (H : OneRow t k h q) (tx : Int) : Ta.holds t tx k = Proofs.Ytiheoddlknbomaa.how h tx := by rw [holds_how, H.row]
theorem OneRow.rok (H : OneRow t k h q) : RowOk h q := by have := H.ok.row k; rw [H.row] at this; exact this
theorem OneRow.wait (H : OneRow t k h q) (tx : Int) : aget tx t.waits = if has q tx = true then some k else none := by
  cases hw : aget tx t.waits with
  | none =>
    rw [if_neg]
    intro hq
    have := (H.ok.wq tx k).2 (by rw [H.row]; exact hq)
    rw [hw] at this; cases this
  | some j =>
    have hj := (H.ok.wq tx j).1 hw
    by_cases e : j = k
    · subst e
      rw [H.row] at hj
      rw [if_pos hj]
    · rw [H.no j e] at hj; cases hj
theorem OneRow.none (H : OneRow t k [] []) {L : List Int} (hL : TxsOf t L) : L = [] := by
  cases hl : L with
  | nil => rfl
  | cons x l =>
    obtain ⟨j, hj⟩ := (hL.row H.ok.kn x).1 (by rw [hl]; simp)
    by_cases e : j = k
    · subst e; rw [H.row] at hj; rcases hj with hj | hj <;> cases hj
    · rw [H.no j e] at hj; rcases hj with hj | hj <;> cases hj
theorem OneRow.grant (H : OneRow t k h q) (tx now : Int) (ex : Bool) (hr : 1 ≤ tx ∧ tx ≤ 1048576 ∧ 0 ≤ now ∧ now ≤ 1099511627776) (hh : ¬ (Proofs.Ytiheoddlknbomaa.how h tx = 2 ∨ (Proofs.Ytiheoddlknbomaa.how h tx = 1 ∧ ex = false))) (hq : has q tx = false)
    (hm : mayR h ⟨tx, ex, now, decide (Proofs.Ytiheoddlknbomaa.how h tx = 1)⟩ = true ∧ (q = [] ∨ decide (Proofs.Ytiheoddlknbomaa.how h tx = 1) = true)) :
    (t.ask tx k ex now).1 = 0 ∧ OneRow (t.ask tx k ex now).2 k (grantR h ⟨tx, ex, now, decide (Proofs.Ytiheoddlknbomaa.how h tx = 1)⟩) q := by
  have hok := (H.ok.ask tx k ex now).1
  have hw := H.wait tx
  rw [hq, if_neg (by simp)] at hw
  have e : t.ask tx k ex now = (0, (t.need k).setRow k ⟨grantR h ⟨tx, ex, now, decide (Proofs.Ytiheoddlknbomaa.how h tx = 1)⟩, q⟩) := by
    unfold Ta.ask
    rw [if_neg (by omega)]
    dsimp only
    rw [H.how, if_neg hh, hw]
    dsimp only
    rw [H.row, if_pos hm]
  rw [e] at hok ⊢
  exact ⟨rfl, hok, by rw [Ta.row_both, if_pos rfl], fun j hj => by rw [Ta.row_both, if_neg (Ne.symm hj)]; exact H.no j hj⟩
theorem OneRow.put (H : OneRow t k h q) (tx now : Int) (ex : Bool) (hr : 1 ≤ tx ∧ tx ≤ 1048576 ∧ 0 ≤ now ∧ now ≤ 1099511627776) (hh : ¬ (Proofs.Ytiheoddlknbomaa.how h tx = 2 ∨ (Proofs.Ytiheoddlknbomaa.how h tx = 1 ∧ ex = false))) (hq : has q tx = false)
    (hm : ¬ (mayR h ⟨tx, ex, now, decide (Proofs.Ytiheoddlknbomaa.how h tx = 1)⟩ = true ∧ (q = [] ∨ decide (Proofs.Ytiheoddlknbomaa.how h tx = 1) = true))) :
    (t.ask tx k ex now).1 = 17 ∧ OneRow (t.ask tx k ex now).2 k h (waitR q ⟨tx, ex, now, decide (Proofs.Ytiheoddlknbomaa.how h tx = 1)⟩) := by
  have hok := (H.ok.ask tx k ex now).1
  have hw := H.wait tx
  rw [hq, if_neg (by simp)] at hw
  have e : t.ask tx k ex now = (17, { (t.need k).setRow k ⟨h, waitR q ⟨tx, ex, now, decide (Proofs.Ytiheoddlknbomaa.how h tx = 1)⟩⟩ with waits := aput tx k t.waits }) := by
    unfold Ta.ask
    rw [if_neg (by omega)]
    dsimp only
    rw [H.how, if_neg hh, hw]
    dsimp only
    rw [H.row, if_neg hm]
  rw [e] at hok ⊢
  have hrow : ∀ j, Ta.row { (t.need k).setRow k ⟨h, waitR q ⟨tx, ex, now, decide (Proofs.Ytiheoddlknbomaa.how h tx = 1)⟩⟩ with waits := aput tx k t.waits } j = if k = j then ⟨h, waitR q ⟨tx, ex, now, decide (Proofs.Ytiheoddlknbomaa.how h tx = 1)⟩⟩ else t.row j := fun j => Ta.row_both
  exact ⟨rfl, hok, by rw [hrow, if_pos rfl], fun j hj => by rw [hrow, if_neg (Ne.symm hj)]; exact H.no j hj⟩
theorem OneRow.same (H : OneRow t k h q) (tx now : Int) (ex : Bool) (hr : 1 ≤ tx ∧ tx ≤ 1048576 ∧ 0 ≤ now ∧ now ≤ 1099511627776) (hh : Proofs.Ytiheoddlknbomaa.how h tx = 2 ∨ (Proofs.Ytiheoddlknbomaa.how h tx = 1 ∧ ex = false)) : t.ask tx k ex now = (0, t) := by
  unfold Ta.ask
  rw [if_neg (by omega)]
  dsimp only
  rw [H.how, if_pos hh]
theorem OneRow.waits (H : OneRow t k h q) (tx now : Int) (ex : Bool) (hr : 1 ≤ tx ∧ tx ≤ 1048576 ∧ 0 ≤ now ∧ now ≤ 1099511627776) (hh : ¬ (Proofs.Ytiheoddlknbomaa.how h tx = 2 ∨ (Proofs.Ytiheoddlknbomaa.how h tx = 1 ∧ ex = false))) (hq : has q tx = true) : t.ask tx k ex now = (17, t) := by
  have hw := H.wait tx
  rw [if_pos hq] at hw
  unfold Ta.ask
  rw [if_neg (by omega)]
  dsimp only
  rw [H.how, if_neg hh, hw]
  simp
theorem ask_out (t : Ta) (tx now : Int) (k : K4) (ex : Bool) (h : tx < 1 ∨ 1048576 < tx) : t.ask tx k ex now = (11, t) := by
  unfold Ta.ask
  rw [if_pos (by omega)]
theorem OneRow.free (H : OneRow t k h q) (tx : Int) : OneRow (t.freeT tx) k (onR (dropR h tx) (dropR q tx)).1 (onR (dropR h tx) (dropR q tx)).2 := by
  obtain ⟨h1, h2⟩ := H.ok.free tx
  exact ⟨h1, by rw [h2, H.row], fun j hj => by rw [h2, H.no j hj]; show (⟨(onR [] []).1, (onR [] []).2⟩ : Ro) = _; rw [onR_nil]⟩
end
/-! exclusively: in the order of asking -/
def exq (l : List (Int × Int)) : List Wi := l.map fun p => ⟨p.1, true, p.2, false⟩
theorem has_exq (l : List (Int × Int)) (tx : Int) : has (exq l) tx = decide (tx ∈ l.map (·.1)) := by
  rw [Bool.eq_iff_iff, has_mem, decide_eq_true_eq]
  unfold exq
  rw [List.map_map]; rfl
def OrdIs (t : Ta) (k : K4) (first : Int × Int) (l : List (Int × Int)) : Prop := OneRow t k (exq [first]) (exq l) ∧ ¬ first.1 ∈ l.map (·.1)
theorem how_one (f : Int × Int) (tx : Int) : how (exq [f]) tx = if f.1 = tx then 2 else 0 := by
  unfold how exq
  by_cases e : f.1 = tx <;> simp [e]
theorem mayR_one (f g : Int × Int) (b : Bool) (h : f.1 ≠ g.1) : mayR (exq [f]) ⟨g.1, true, g.2, b⟩ = false := by
  cases hm : mayR (exq [f]) ⟨g.1, true, g.2, b⟩ with
  | false => rfl
  | true =>
    have := (mayR_iff.1 hm ⟨f.1, true, f.2, false⟩ (by simp [exq]) h).1
    cases this
theorem ord_first {t : Ta} {k : K4} {f : Int × Int} {l : List (Int × Int)} (H : OrdIs t k f l) (now : Int) (hr : 1 ≤ f.1 ∧ f.1 ≤ 1048576 ∧ 0 ≤ now ∧ now ≤ 1099511627776) : t.ask f.1 k true now = (0, t) :=
  H.1.same f.1 now true hr (.inl (by rw [how_one, if_pos rfl]))
theorem ord_known {t : Ta} {k : K4} {f : Int × Int} {l : List (Int × Int)} (H : OrdIs t k f l) (n now : Int) (hr : 1 ≤ n ∧ n ≤ 1048576 ∧ 0 ≤ now ∧ now ≤ 1099511627776) (hn : n ≠ f.1) (hl : n ∈ l.map (·.1)) : t.ask n k true now = (17, t) :=
  H.1.waits n now true hr (by rw [how_one, if_neg (Ne.symm hn)]; simp) (by rw [has_exq]; exact decide_eq_true hl)
theorem ord_new {t : Ta} {k : K4} {f : Int × Int} {l : List (Int × Int)} (H : OrdIs t k f l) (n now : Int) (hr : 1 ≤ n ∧ n ≤ 1048576 ∧ 0 ≤ now ∧ now ≤ 1099511627776) (hn : n ≠ f.1) (hl : ¬ n ∈ l.map (·.1)) :
    (t.ask n k true now).1 = 17 ∧ OrdIs (t.ask n k true now).2 k f (l ++ [(n, now)]) := by
  have h0 : how (exq [f]) n = 0 := by rw [how_one, if_neg (Ne.symm hn)]
  obtain ⟨h1, h2⟩ := H.1.put n now true hr (by rw [h0]; simp) (by rw [has_exq]; exact decide_eq_false hl) (by
    rw [mayR_one f (n, now) _ (Ne.symm hn)]; simp)
  refine ⟨h1, ?_, ?_⟩
  · rw [h0] at h2
    have e : waitR (exq l) ⟨n, true, now, decide ((0 : Int) = 1)⟩ = exq (l ++ [(n, now)]) := by
      unfold waitR waitAt
      rw [if_neg (by simp), List.take_length, List.drop_length]
      unfold exq
      rw [List.map_append]; rfl
    rw [e] at h2
    exact h2
  · rw [List.map_append, List.mem_append, not_or]
    exact ⟨H.2, by simp; exact fun e => hn e.symm⟩
theorem dropR_one (f : Int × Int) : dropR (exq [f]) f.1 = [] := by simp [dropR, exq]
theorem ord_free {t : Ta} {k : K4} {f : Int × Int} {l : List (Int × Int)} (H : OrdIs t k f l) : match l with
    | [] => OneRow (t.freeT f.1) k [] []
    | g :: l => OrdIs (t.freeT f.1) k g l := by
  have h1 := H.1.free f.1
  have hq : has (exq l) f.1 = false := by rw [has_exq]; exact decide_eq_false H.2
  rw [dropR_one, drop_id hq] at h1
  cases l with
  | nil =>
    have e : onR [] (exq []) = ([], []) := onR_nil []
    rw [e] at h1
    exact h1
  | cons g l =>
    have hn := H.1.rok.qn
    have hnd : ¬ g.1 ∈ l.map (·.1) := by
      unfold exq at hn
      rw [List.map_map] at hn
      have := (List.nodup_cons.1 hn).1
      exact this
    have e : onR [] (exq (g :: l)) = (exq [g], exq l) := by
      show onR [] (⟨g.1, true, g.2, false⟩ :: exq l) = _
      rw [onR_go rfl]
      show onR (exq [g]) (exq l) = _
      cases l with
      | nil => exact onR_nil _
      | cons y l =>
        show onR (exq [g]) (⟨y.1, true, y.2, false⟩ :: exq l) = _
        rw [onR_stop (mayR_one g y false (fun e => hnd (by rw [e]; simp)))]
        rfl
    rw [e] at h1
    exact ⟨h1, hnd⟩
/-! shared -/
structure ShIs (t : Ta) (k : K4) (l : List Int) (h : List Wi) : Prop where
  one : OneRow t k h []
  ne : ∀ x ∈ h, x.ex = false
  mem : ∀ tx, has h tx = true ↔ tx ∈ l
theorem sh_how {t : Ta} {k : K4} {l : List Int} {h : List Wi} (H : ShIs t k l h) (tx : Int) : how h tx = if tx ∈ l then 1 else 0 := by
  by_cases e : tx ∈ l
  · rw [if_pos e]
    obtain ⟨x, hx, rfl⟩ := has_iff.1 ((H.mem tx).2 e)
    rw [how_at H.one.rok.safe.n hx, if_neg (by rw [H.ne x hx]; simp)]
  · rw [if_neg e]
    refine how_none ?_
    cases hh : has h tx with
    | false => rfl
    | true => exact absurd ((H.mem tx).1 hh) e
theorem sh_ask {t : Ta} {k : K4} {l : List Int} {h : List Wi} (H : ShIs t k l h) (tx : Int) (hr : 1 ≤ tx ∧ tx ≤ 1048576) : (t.ask tx k false 0).1 = 0 ∧ ∃ h', ShIs (t.ask tx k false 0).2 k (l ++ [tx]) h' := by
  have hh := sh_how H tx
  by_cases e : tx ∈ l
  · rw [if_pos e] at hh
    rw [H.one.same tx 0 false ⟨hr.1, hr.2, by omega, by omega⟩ (.inr ⟨hh, rfl⟩)]
    exact ⟨rfl, h, H.one, H.ne, fun x => by rw [H.mem x, List.mem_append, List.mem_singleton]; exact ⟨.inl, fun h => h.elim id fun e' => e' ▸ e⟩⟩
  · rw [if_neg e] at hh
    have hm : mayR h ⟨tx, false, 0, decide (how h tx = 1)⟩ = true := mayR_iff.2 fun x hx _ => ⟨H.ne x hx, rfl⟩
    have hno : has h tx = false := by
      cases hh : has h tx with
      | false => rfl
      | true => exact absurd ((H.mem tx).1 hh) e
    obtain ⟨h1, h2⟩ := H.one.grant tx 0 false ⟨hr.1, hr.2, by omega, by omega⟩ (by rw [hh]; simp) rfl ⟨hm, .inl rfl⟩
    have hn := H.one.rok.safe.n
    refine ⟨h1, _, h2, fun x hx => ?_, fun x => ?_⟩
    · rw [grantR_eq _ _ hn] at hx
      unfold grantM at hx
      rw [if_neg (by rw [hno]; simp)] at hx
      rcases List.mem_append.1 hx with hx | hx
      · exact H.ne x hx
      · rw [List.mem_singleton] at hx; rw [hx]
    · rw [has_grant _ _ _ hn, Bool.or_eq_true, H.mem x, decide_eq_true_eq, List.mem_append, List.mem_singleton]
      exact or_congr Iff.rfl ⟨fun e => e.symm, fun e => e.symm⟩
theorem sh_wait {t : Ta} {k : K4} {l : List Int} {h : List Wi} (H : ShIs t k l h) (tx : Int) (hr : 1 ≤ tx ∧ tx ≤ 1048576) (y : Int) (hy : y ∈ l) (hne : y ≠ tx) : (t.ask tx k true 0).1 = 17 ∧ (t.ask tx k true 0).2.holds tx k < 2 := by
  have hh := sh_how H tx
  have hle : how h tx < 2 := by rw [hh]; split <;> omega
  obtain ⟨x, hx, hxt⟩ := has_iff.1 ((H.mem y).2 hy)
  have hm : ∀ b, mayR h ⟨tx, true, 0, b⟩ = false := fun b => by
    cases hmm : mayR h ⟨tx, true, 0, b⟩ with
    | false => rfl
    | true => have := (mayR_iff.1 hmm x hx (by rw [hxt]; exact hne)).2; cases this
  obtain ⟨h1, h2⟩ := H.one.put tx 0 true ⟨hr.1, hr.2, by omega, by omega⟩ (by
    intro h
    rcases h with h | h
    · omega
    · cases h.2) rfl (by rw [hm]; simp)
  exact ⟨h1, by rw [h2.how]; exact hle⟩
theorem sh_alone {t : Ta} {k : K4} {l : List Int} {h : List Wi} (H : ShIs t k l h) (tx : Int) (hr : 1 ≤ tx ∧ tx ≤ 1048576) (hall : ∀ y ∈ l, y = tx) : (t.ask tx k true 0).1 = 0 ∧ (t.ask tx k true 0).2.holds tx k = 2 := by
  have hh := sh_how H tx
  have hle : how h tx < 2 := by rw [hh]; split <;> omega
  have hn := H.one.rok.safe.n
  have hm : ∀ b, mayR h ⟨tx, true, 0, b⟩ = true := fun b => mayR_iff.2 fun x hx hne => absurd (hall x.tx ((H.mem x.tx).1 (has_iff.2 ⟨x, hx, rfl⟩))) hne
  obtain ⟨h1, h2⟩ := H.one.grant tx 0 true ⟨hr.1, hr.2, by omega, by omega⟩ (by
    intro h
    rcases h with h | h
    · omega
    · cases h.2) rfl ⟨hm _, .inl rfl⟩
  refine ⟨h1, ?_⟩
  rw [h2.how]
  have hn2 := h2.rok.safe.n
  have hin : ∃ y ∈ grantR h ⟨tx, true, 0, decide (how h tx = 1)⟩, y.tx = tx ∧ y.ex = true := by
    rw [grantR_eq _ _ hn]
    unfold grantM
    by_cases hx : has h tx = true
    · rw [if_pos hx]
      obtain ⟨x, hx1, hx2⟩ := has_iff.1 hx
      exact ⟨setEx x, List.mem_map.2 ⟨x, hx1, by rw [if_pos hx2]⟩, hx2, rfl⟩
    · rw [if_neg hx]
      exact ⟨_, List.mem_append_right _ (List.mem_singleton.2 rfl), rfl, rfl⟩
  obtain ⟨y, hy, hy1, hy2⟩ := hin
  have := how_at hn2 hy
  rw [hy1, hy2] at this
  exact this
/-! two that share a key, one of which rises -/
def keyA : K4 := ⟨1, 0, 0, 0⟩
def tA0 : Ta := ⟨5, [], []⟩
def tA1 : Ta := ⟨5, [(keyA, ⟨[⟨1, false, 0, false⟩], []⟩)], []⟩
def tA2 : Ta := ⟨5, [(keyA, ⟨[⟨1, false, 0, false⟩, ⟨2, false, 0, false⟩], []⟩)], []⟩
def tA3 : Ta := ⟨5, [(keyA, ⟨[⟨1, false, 0, false⟩, ⟨2, false, 0, false⟩], [⟨1, true, 3, true⟩]⟩)], [(1, keyA)]⟩
def tA4 : Ta := ⟨5, [(keyA, ⟨[⟨1, false, 0, false⟩, ⟨2, false, 0, false⟩], [⟨1, true, 3, true⟩, ⟨3, false, 3, false⟩]⟩)], [(1, keyA), (3, keyA)]⟩
def tA5 : Ta := ⟨5, [(keyA, ⟨[⟨1, true, 0, false⟩], [⟨3, false, 3, false⟩]⟩)], [(3, keyA)]⟩
def tA6 : Ta := ⟨5, [(keyA, ⟨[⟨1, true, 0, false⟩], []⟩)], []⟩
theorem tA_1 : tA0.ask 1 keyA false 0 = (0, tA1) := rfl
theorem tA_2 : tA1.ask 2 keyA false 0 = (0, tA2) := rfl
theorem tA_3 : tA2.ask 1 keyA true 3 = (17, tA3) := rfl
theorem tA_4 : tA3.ask 3 keyA false 3 = (17, tA4) := rfl
theorem tA_6 : tA5.quit 3 = (true, tA6) := rfl
theorem sortK_one (k : K4) : sortK [k] = [k] := by unfold sortK; exact List.mergeSort_singleton k
theorem tA_5 : tA4.freeT 2 = tA5 := by
  have h1 : tA4.keysT 2 = [keyA] := by
    unfold Ta.keysT Ta.keysS
    exact sortK_one keyA
  have h2 : tA4.ownT 2 = [keyA] := by
    unfold Ta.ownT
    rw [h1]
    show compK (sortK [keyA]) = _
    rw [sortK_one]; rfl
  unfold Ta.freeT
  rw [h2]
  rfl
theorem tA_late : tA4.lateT 8 = [1, 3] := by
  have h1 : (tA4.rows.flatMap fun p => lateL 8 tA4.lim p.2.q) = [1, 3] := rfl
  unfold Ta.lateT
  rw [h1]
  unfold srtI
  refine List.mergeSort_of_pairwise ?_
  simp
theorem tA_keys : tA6.keysT 1 = [keyA] := by
  unfold Ta.keysT Ta.keysS
  exact sortK_one keyA
theorem tA_held : tA6.heldT = [keyA] := by
  unfold Ta.heldT Ta.keysS
  exact sortK_one keyA
theorem tA_txs {L : List Int} (h : TxsOf tA6 L) : L = [1] := by
  have hm : ∀ x, x ∈ L ↔ x = 1 := fun x => by
    rw [h.mem]
    simp only [tA6, has, List.mem_singleton, exists_eq_left, List.any_cons, List.any_nil, Bool.or_false, decide_eq_true_eq, Bool.false_eq_true, or_false]
    exact ⟨fun h => h.symm, fun h => h.symm⟩
  have hs := h.srt
  cases hl : L with
  | nil => have := (hm 1).2 rfl; rw [hl] at this; cases this
  | cons a l =>
    have ha : a = 1 := (hm a).1 (by rw [hl]; simp)
    cases l with
    | nil => rw [ha]
    | cons b l =>
      have hb : b = 1 := (hm b).1 (by rw [hl]; simp)
      rw [hl] at hs
      have := (List.pairwise_cons.1 hs).1 b (by simp)
      omega
end Go.Proofs.Ytiheoddlknbomaa
