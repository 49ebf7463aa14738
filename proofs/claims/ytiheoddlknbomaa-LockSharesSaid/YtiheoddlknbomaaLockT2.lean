/- The table as plain data: its keys in order, who is late, who is there; sizes. No program text. -/
import Derived.Test.YtiheoddlknbomaaLockAsk
set_option linter.all false
namespace Go.Proofs.Ytiheoddlknbomaa
set_option linter.unusedVariables false
set_option linter.unusedSimpArgs false

instance : Inhabited K4 := ⟨⟨0, 0, 0, 0⟩⟩
def sortK (l : List K4) : List K4 := l.mergeSort fun x y => decide (x.num ≤ y.num)
theorem sortK_perm (l : List K4) : (sortK l).Perm l := List.mergeSort_perm l _
theorem sortK_srt (l : List K4) : (sortK l).Pairwise fun x y => x.num ≤ y.num := by
  have := List.pairwise_mergeSort (le := fun x y : K4 => decide (x.num ≤ y.num)) (by simp; omega) (by simp; omega) l
  refine this.imp ?_
  intro a b h
  simpa using h
theorem sortK_eq {l m : List K4} (hp : m.Perm l) (hs : m.Pairwise fun x y => x.num ≤ y.num) : m = sortK l := by
  refine List.Perm.eq_of_pairwise (le := fun x y : K4 => x.num ≤ y.num) ?_ hs (sortK_srt l) (hp.trans (sortK_perm l).symm)
  intro a b _ _ h1 h2
  exact K4.num_inj (by omega)
/-- what stands once of neighbours that are the same -/
def compN (l : List K4) : Nat → List K4
  | 0 => []
  | n + 1 => compN l n ++ (if n = 0 ∨ l[n]! ≠ l[n - 1]! then [l[n]!] else [])
def compK (l : List K4) : List K4 := compN l l.length
theorem compN_sub (l : List K4) : ∀ n, n ≤ l.length → ∀ x ∈ compN l n, x ∈ l
  | 0, _, x, h => by simp [compN] at h
  | n + 1, hn, x, h => by
    simp only [compN, List.mem_append] at h
    rcases h with h | h
    · exact compN_sub l n (by omega) x h
    · split at h
      · rw [List.mem_singleton] at h
        subst h
        rw [getElem!_pos l n (by omega)]
        exact List.getElem_mem _
      · simp at h
theorem compN_all (l : List K4) : ∀ n, n ≤ l.length → ∀ j, j < n → l[j]! ∈ compN l n
  | 0, _, j, h => by omega
  | n + 1, hn, j, h => by
    simp only [compN, List.mem_append]
    by_cases hj : j = n
    · subst hj
      by_cases hc : j = 0 ∨ l[j]! ≠ l[j - 1]!
      · rw [if_pos hc]; exact .inr (by simp)
      · have h1 : j ≠ 0 ∧ l[j]! = l[j - 1]! := by
          refine ⟨fun e => hc (.inl e), Decidable.byContradiction fun e => hc (.inr e)⟩
        rw [h1.2]
        exact .inl (compN_all l j (by omega) (j - 1) (by omega))
    · exact .inl (compN_all l n (by omega) j (by omega))
theorem mem_compK {l : List K4} {x : K4} : x ∈ compK l ↔ x ∈ l := by
  refine ⟨compN_sub l l.length (Nat.le_refl _) x, fun h => ?_⟩
  obtain ⟨j, hj, rfl⟩ := List.mem_iff_getElem.1 h
  have := compN_all l l.length (Nat.le_refl _) j hj
  rwa [getElem!_pos l j hj] at this
namespace Ta
def keysS (t : Ta) (p : Ro → Bool) : List K4 := sortK ((t.rows.filter fun x => p x.2).map (·.1))
def keysT (t : Ta) (tx : Int) : List K4 := t.keysS fun r => (heldAt r.h tx).isSome
def heldT (t : Ta) : List K4 := t.keysS fun r => decide (0 < r.h.length)
def ownT (t : Ta) (tx : Int) : List K4 := compK (sortK (t.keysT tx ++ (aget tx t.waits).toList))
def freeT (t : Ta) (tx : Int) : Ta := (t.ownT tx).foldl on ((t.ownT tx).foldl (drop1 tx) { t with waits := adel tx t.waits })
def le (n : Nat) (t : Ta) : Prop := ∀ p ∈ t.rows, p.2.h.length + p.2.q.length ≤ n
end Ta
section
variable {t : Ta} {n : Nat} {k : K4} {tx : Int}
theorem Ta.le.row (h : t.le n) : (t.row k).h.length + (t.row k).q.length ≤ n := by
  unfold Ta.row
  cases hg : aget k t.rows with
  | none => simp
  | some r => exact h _ (tget_mem hg)
theorem Ta.le.need (h : t.le n) : (t.need k).le n := by
  unfold Ta.need
  split
  · exact h
  · intro p hp
    simp only [List.mem_append, List.mem_singleton] at hp
    rcases hp with hp | rfl
    · exact h p hp
    · simp
theorem mem_aput' {α β : Type} [DecidableEq α] {k : α} {v : β} {p : α × β} : ∀ {l : List (α × β)}, p ∈ aput k v l → p = (k, v) ∨ p ∈ l
  | [], h => by simp [aput] at h; exact .inl h
  | q :: l, h => by
    simp only [aput] at h
    split at h
    · rcases List.mem_cons.1 h with h | h
      · exact .inl h
      · exact .inr (List.mem_cons_of_mem _ h)
    · rcases List.mem_cons.1 h with h | h
      · exact .inr (h ▸ List.mem_cons_self)
      · exact (mem_aput' h).imp_right (List.mem_cons_of_mem _)
theorem Ta.le.setRow {r : Ro} (h : t.le n) (hr : r.h.length + r.q.length ≤ n) : (t.setRow k r).le n := fun p hp => by
  rcases mem_aput' hp with rfl | hp
  · exact hr
  · exact h p hp
theorem Ta.le.mono {m : Nat} (h : t.le n) (hm : n ≤ m) : t.le m := fun p hp => Nat.le_trans (h p hp) hm
theorem Ta.le.on (h : t.le n) : (t.on k).le n := fun p hp => by
  have hr := h.row (k := k)
  have ht := onR_tot (t.row k).q (t.row k).h
  have h2 := (h.need (k := k)).setRow (k := k) (r := ⟨(onR (t.row k).h (t.row k).q).1, (onR (t.row k).h (t.row k).q).2⟩) (by dsimp only; omega)
  unfold Ta.on at hp
  dsimp only at hp
  split at hp
  · exact h2 p ((tdel_sub _ _).subset hp)
  · exact h2 p hp
theorem dropR_len (l : List Wi) (tx : Int) : (dropR l tx).length ≤ l.length := List.length_filter_le _ _
theorem Ta.le.waits {ws : List (Int × K4)} (h : t.le n) : Ta.le n { t with waits := ws } := h
theorem Ta.le.drop1 (h : t.le n) : (t.drop1 tx k).le n := by
  have hr := h.row (k := k)
  have h1 := dropR_len (t.row k).h tx
  have h2 := dropR_len (t.row k).q tx
  exact (h.need (k := k)).setRow (by dsimp only; omega)
theorem Ta.le.foldl_on (ks : List K4) : ∀ {t : Ta}, t.le n → (ks.foldl Ta.on t).le n := by
  induction ks with
  | nil => intro t h; exact h
  | cons x ks ih => intro t h; exact ih h.on
theorem Ta.le.foldl_drop (ks : List K4) : ∀ {t : Ta}, t.le n → (ks.foldl (Ta.drop1 tx) t).le n := by
  induction ks with
  | nil => intro t h; exact h
  | cons x ks ih => intro t h; exact ih h.drop1
theorem Ta.le.freeT (h : t.le n) : (t.freeT tx).le n := Ta.le.foldl_on _ (Ta.le.foldl_drop _ h.waits)
theorem Ta.le.quit (h : t.le n) : (t.quit tx).2.le n := by
  unfold Ta.quit
  cases aget tx t.waits with
  | none => exact h
  | some k =>
    dsimp only
    have hw : Ta.le n { t with waits := adel tx t.waits } := h
    have hr := hw.row (k := k)
    have h2 := dropR_len (Ta.row { t with waits := adel tx t.waits } k).q tx
    exact ((hw.need (k := k)).setRow (by dsimp only; omega)).on
theorem waitR_len (q : List Wi) (w : Wi) : (waitR q w).length = q.length + 1 := by
  have := waitAt_le q w
  unfold waitR
  simp
  omega
theorem Ta.le.ask (h : t.le n) (ex : Bool) (now : Int) : (t.ask tx k ex now).2.le (n + 1) := by
  have h1 := h.mono (Nat.le_succ n)
  have hr := h.row (k := k)
  unfold Ta.ask
  split
  · exact h1
  · dsimp only
    split
    · exact h1
    · split
      · split <;> exact h1
      · split
        · have := grantR_len (t.row k).h ⟨tx, ex, now, decide (t.holds tx k = 1)⟩
          exact (h1.need (k := k)).setRow (by dsimp only; omega)
        · have := waitR_len (t.row k).q ⟨tx, ex, now, decide (t.holds tx k = 1)⟩
          exact Ta.le.waits ((h1.need (k := k)).setRow (by dsimp only; omega))
end
theorem le_tab {lim : Int} {rs : List (K4 × RR)} {ws : List (Int × K4)} {n : Nat} : (tabT lim rs ws).le n ↔ ∀ p ∈ rs, p.2.r.h.length + p.2.r.q.length ≤ n := by
  unfold Ta.le tabT
  simp only [List.mem_map, forall_exists_index, and_imp]
  exact ⟨fun h p hp => h _ p hp rfl, fun h p q hq e => e ▸ h q hq⟩
end Go.Proofs.Ytiheoddlknbomaa
