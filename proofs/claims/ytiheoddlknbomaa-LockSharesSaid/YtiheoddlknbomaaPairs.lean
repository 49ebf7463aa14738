/- Pairs sorted by their keys, each key once: plain lists. No program text. -/
import Derived.Test.YtiheoddlknbomaaDraft
set_option linter.all false
namespace Go.Proofs.Ytiheoddlknbomaa
open Go.RowKit
set_option linter.unusedVariables false
set_option linter.unusedSimpArgs false

def K4.num (k : K4) : Nat := ((k.a.toNat * 256 + k.b.toNat) * 256 + k.c.toNat) * 256 + k.d.toNat
theorem K4.num_inj {x y : K4} (h : x.num = y.num) : x = y := by
  obtain ⟨a, b, c, d⟩ := x
  obtain ⟨a', b', c', d'⟩ := y
  have h1 := a.toNat_lt; have h2 := b.toNat_lt; have h3 := c.toNat_lt; have h4 := d.toNat_lt
  have g1 := a'.toNat_lt; have g2 := b'.toNat_lt; have g3 := c'.toNat_lt; have g4 := d'.toNat_lt
  simp only [K4.num] at h
  simp only [K4.mk.injEq, ← UInt8.toNat_inj]
  omega
theorem K4.num_eq (x y : K4) : x.num = y.num ↔ x = y := ⟨K4.num_inj, fun h => by rw [h]⟩
theorem ord_nat (a b c d a' b' c' d' : Nat) (h1 : a < 256) (h2 : b < 256) (h3 : c < 256) (h4 : d < 256) (g1 : a' < 256) (g2 : b' < 256) (g3 : c' < 256) (g4 : d' < 256) :
    (if a < a' then (-1 : Int) else if a' < a then 1 else if b < b' then -1 else if b' < b then 1 else if c < c' then -1 else if c' < c then 1 else if d < d' then -1 else if d' < d then 1 else 0) =
    if ((a * 256 + b) * 256 + c) * 256 + d < ((a' * 256 + b') * 256 + c') * 256 + d' then -1 else if ((a' * 256 + b') * 256 + c') * 256 + d' < ((a * 256 + b) * 256 + c) * 256 + d then 1 else 0 := by
  rcases Nat.lt_trichotomy a a' with e1 | e1 | e1
  · rw [if_pos e1, if_pos (by omega)]
  · rw [if_neg (by omega), if_neg (by omega)]
    rcases Nat.lt_trichotomy b b' with e2 | e2 | e2
    · rw [if_pos e2, if_pos (by omega)]
    · rw [if_neg (by omega), if_neg (by omega)]
      rcases Nat.lt_trichotomy c c' with e3 | e3 | e3
      · rw [if_pos e3, if_pos (by omega)]
      · rw [if_neg (by omega), if_neg (by omega)]
        rcases Nat.lt_trichotomy d d' with e4 | e4 | e4
        · rw [if_pos e4, if_pos (by omega)]
        · rw [if_neg (by omega), if_neg (by omega), if_neg (by omega), if_neg (by omega)]
        · rw [if_neg (by omega), if_pos e4, if_neg (by omega), if_pos (by omega)]
      · rw [if_neg (by omega), if_pos e3, if_neg (by omega), if_pos (by omega)]
    · rw [if_neg (by omega), if_pos e2, if_neg (by omega), if_pos (by omega)]
  · rw [if_neg (by omega), if_pos e1, if_neg (by omega), if_pos (by omega)]
theorem ordK_num (x y : K4) : ordK x y = if x.num < y.num then -1 else if y.num < x.num then 1 else 0 := by
  obtain ⟨a, b, c, d⟩ := x
  obtain ⟨a', b', c', d'⟩ := y
  simp only [ordK, K4.bs, Lib.compareBytes, UInt8.lt_iff_toNat_lt, K4.num]
  exact ord_nat _ _ _ _ _ _ _ _ a.toNat_lt b.toNat_lt c.toNat_lt d.toNat_lt a'.toNat_lt b'.toNat_lt c'.toNat_lt d'.toNat_lt
theorem ordK_neg (x y : K4) : decide (ordK x y < 0) = decide (x.num < y.num) := by
  rw [ordK_num]
  by_cases h : x.num < y.num
  · simp [h]
  · by_cases h' : y.num < x.num <;> simp [h, h']

def Srt (l : List Pr) : Prop := l.Pairwise fun x y => x.key.num < y.key.num
def getP (k : K4) : List Pr → Option V
  | [] => none
  | p :: r => if p.key = k then some p.val else getP k r
def lastP (k : K4) (l : List Pr) : Option V := getP k l.reverse
def insP (p : Pr) : List Pr → List Pr
  | [] => [p]
  | q :: r => if q.key.num < p.key.num then q :: insP p r else if q.key = p.key then p :: r else p :: q :: r
def keysP (l : List Pr) : List Pr := l.foldl (fun out p => insP p out) []
def thereP (l : List Pr) : List Pr := l.filter fun p => p.val.there
def sortP (l : List Pr) : List Pr := thereP (keysP l)
def findP (l : List Pr) (k : K4) : V := (lastP k l).getD V.zero

theorem getP_append (k : K4) : ∀ (l m : List Pr), getP k (l ++ m) = (getP k l).or (getP k m)
  | [], m => by simp [getP]
  | p :: l, m => by
    simp only [List.cons_append, getP]
    split
    · simp
    · exact getP_append k l m
theorem lastP_append (k : K4) (l m : List Pr) : lastP k (l ++ m) = (lastP k m).or (lastP k l) := by
  unfold lastP; rw [List.reverse_append, getP_append]
theorem lastP_cons (k : K4) (p : Pr) (l : List Pr) : lastP k (p :: l) = (lastP k l).or (if p.key = k then some p.val else none) := by
  have : p :: l = [p] ++ l := rfl
  rw [this, lastP_append]
  simp [lastP, getP]
theorem lastP_snoc (k : K4) (p : Pr) (l : List Pr) : lastP k (l ++ [p]) = if p.key = k then some p.val else lastP k l := by
  rw [lastP_append]
  simp only [lastP, List.reverse_cons, List.reverse_nil, List.nil_append, getP]
  split <;> simp
theorem getP_none {k : K4} : ∀ {l : List Pr}, (∀ q ∈ l, q.key ≠ k) → getP k l = none
  | [], _ => rfl
  | p :: l, h => by
    simp only [getP]
    rw [if_neg (h p List.mem_cons_self)]
    exact getP_none fun q hq => h q (List.mem_cons_of_mem _ hq)
theorem getP_none_iff {k : K4} : ∀ {l : List Pr}, getP k l = none ↔ ∀ q ∈ l, q.key ≠ k
  | [] => by simp [getP]
  | p :: l => by
    simp only [getP]
    split
    · rename_i h
      simp [h]
    · rename_i h
      rw [getP_none_iff]
      simp [h]
theorem getP_mem {k : K4} {v : V} : ∀ {l : List Pr}, getP k l = some v → ⟨k, v⟩ ∈ l
  | [], h => by simp [getP] at h
  | p :: l, h => by
    simp only [getP] at h
    split at h
    · rename_i h1
      cases h
      rw [← h1]; exact List.mem_cons_self
    · exact List.mem_cons_of_mem _ (getP_mem h)
theorem Srt.tail {p : Pr} {l : List Pr} (h : Srt (p :: l)) : Srt l := (List.pairwise_cons.1 h).2
theorem Srt.head {p : Pr} {l : List Pr} (h : Srt (p :: l)) : ∀ q ∈ l, p.key.num < q.key.num := (List.pairwise_cons.1 h).1
theorem insP_mem {p q : Pr} : ∀ {l : List Pr}, q ∈ insP p l → q = p ∨ q ∈ l
  | [], h => by simp [insP] at h; exact .inl h
  | r :: l, h => by
    unfold insP at h
    split at h
    · rcases List.mem_cons.1 h with rfl | h
      · exact .inr List.mem_cons_self
      · rcases insP_mem h with h | h
        · exact .inl h
        · exact .inr (List.mem_cons_of_mem _ h)
    · split at h
      · rcases List.mem_cons.1 h with rfl | h
        · exact .inl rfl
        · exact .inr (List.mem_cons_of_mem _ h)
      · rcases List.mem_cons.1 h with rfl | h
        · exact .inl rfl
        · exact .inr h
theorem insP_srt {p : Pr} : ∀ {l : List Pr}, Srt l → Srt (insP p l)
  | [], _ => by simp [insP, Srt]
  | r :: l, h => by
    unfold insP
    split
    · rename_i h1
      refine List.pairwise_cons.2 ⟨fun q hq => ?_, insP_srt h.tail⟩
      rcases insP_mem hq with rfl | hq
      · exact h1
      · exact h.head q hq
    · rename_i h1
      split
      · rename_i h2
        exact List.pairwise_cons.2 ⟨fun q hq => by rw [← h2]; exact h.head q hq, h.tail⟩
      · rename_i h2
        have h3 : p.key.num < r.key.num := by
          have : r.key.num ≠ p.key.num := fun e => h2 (K4.num_inj e)
          omega
        refine List.pairwise_cons.2 ⟨fun q hq => ?_, h⟩
        rcases List.mem_cons.1 hq with rfl | hq
        · exact h3
        · have := h.head q hq; omega
theorem insP_get {p : Pr} {k : K4} : ∀ {l : List Pr}, Srt l → getP k (insP p l) = if p.key = k then some p.val else getP k l
  | [], _ => by simp [insP, getP]
  | r :: l, h => by
    unfold insP
    split
    · rename_i h1
      simp only [getP]
      rw [insP_get h.tail]
      by_cases hr : r.key = k
      · rw [if_pos hr, if_pos hr, if_neg (fun e => by rw [hr, e] at h1; omega)]
      · rw [if_neg hr, if_neg hr]
    · split
      · rename_i h2
        simp only [getP]
        by_cases hp : p.key = k
        · rw [if_pos hp, if_pos hp]
        · rw [if_neg hp, if_neg hp, if_neg (by rw [h2]; exact hp)]
      · simp only [getP]
theorem srt_ext : ∀ {l m : List Pr}, Srt l → Srt m → (∀ k, getP k l = getP k m) → l = m
  | [], [], _, _, _ => rfl
  | [], q :: m, _, _, h => by have := h q.key; simp [getP] at this
  | p :: l, [], _, _, h => by have := h p.key; simp [getP] at this
  | p :: l, q :: m, hl, hm, h => by
    have key : p.key = q.key := by
      have h1 := h p.key
      have h2 := h q.key
      simp only [getP, if_pos] at h1 h2
      by_cases e : p.key = q.key
      · exact e
      · exfalso
        rw [if_neg (Ne.symm e)] at h1
        rw [if_neg e] at h2
        have m1 := hm.head _ (getP_mem h1.symm)
        have m2 := hl.head _ (getP_mem h2)
        simp only at m1 m2
        omega
    have hv : p.val = q.val := by
      have h1 := h p.key
      simp only [getP, if_pos] at h1
      rw [if_pos key.symm] at h1
      exact Option.some.inj h1
    have ht : l = m := by
      refine srt_ext hl.tail hm.tail fun k => ?_
      have := h k
      simp only [getP] at this
      by_cases hk : p.key = k
      · rw [getP_none fun x hx e => by have := hl.head x hx; rw [e, ← hk] at this; omega, getP_none fun x hx e => by have := hm.head x hx; rw [e, ← key, ← hk] at this; omega]
      · rwa [if_neg hk, if_neg (by rw [← key]; exact hk)] at this
    cases p; cases q
    simp only at key hv
    rw [key, hv, ht]
theorem keysP_snoc (l : List Pr) (p : Pr) : keysP (l ++ [p]) = insP p (keysP l) := by
  simp [keysP, List.foldl_append]
theorem keysP_both (l : List Pr) : Srt (keysP l) ∧ ∀ k, getP k (keysP l) = lastP k l := by
  induction hn : l.length generalizing l with
  | zero =>
    have : l = [] := List.eq_nil_of_length_eq_zero hn
    subst this
    exact ⟨List.Pairwise.nil, fun k => rfl⟩
  | succ n ih =>
    have hne : l ≠ [] := fun e => by rw [e] at hn; cases hn
    obtain ⟨m, p, rfl⟩ : ∃ m p, l = m ++ [p] := ⟨l.dropLast, l.getLast hne, (List.dropLast_concat_getLast hne).symm⟩
    obtain ⟨h1, h2⟩ := ih m (by simp at hn; exact hn)
    rw [keysP_snoc]
    exact ⟨insP_srt h1, fun k => by rw [insP_get h1, h2, lastP_snoc]⟩
theorem keysP_srt (l : List Pr) : Srt (keysP l) := (keysP_both l).1
theorem keysP_get (l : List Pr) (k : K4) : getP k (keysP l) = lastP k l := (keysP_both l).2 k
/-- the canonical list of a lookup -/
theorem keysP_of {l m : List Pr} (h : Srt m) (hg : ∀ k, getP k m = lastP k l) : m = keysP l :=
  srt_ext h (keysP_srt l) fun k => by rw [hg, keysP_get]
theorem srt_getP {l : List Pr} (h : Srt l) {p : Pr} (hp : p ∈ l) : getP p.key l = some p.val := by
  induction l with
  | nil => cases hp
  | cons q l ih =>
    simp only [getP]
    rcases List.mem_cons.1 hp with rfl | hp
    · rw [if_pos rfl]
    · have := h.head p hp
      rw [if_neg (fun e => by rw [e] at this; omega)]
      exact ih h.tail hp
theorem srt_lastP {l : List Pr} (h : Srt l) (k : K4) : lastP k l = getP k l := by
  unfold lastP
  cases hg : getP k l with
  | none =>
    rw [getP_none_iff] at hg
    exact getP_none fun q hq => hg q (List.mem_reverse.1 hq)
  | some v =>
    cases hr : getP k l.reverse with
    | none =>
      rw [getP_none_iff] at hr
      exact absurd rfl (hr _ (List.mem_reverse.2 (getP_mem hg)))
    | some u =>
      have h1 := srt_getP h (List.mem_reverse.1 (getP_mem hr))
      simp only at h1
      rw [hg] at h1
      exact h1.symm
theorem keysP_self {l : List Pr} (h : Srt l) : keysP l = l := (keysP_of h fun k => (srt_lastP h k).symm).symm
theorem thereP_srt {l : List Pr} (h : Srt l) : Srt (thereP l) := List.Pairwise.sublist List.filter_sublist h
theorem thereP_get {l : List Pr} (h : Srt l) (k : K4) : getP k (thereP l) = (getP k l).filter fun v => v.there := by
  induction l with
  | nil => rfl
  | cons p l ih =>
    have ih := ih h.tail
    unfold thereP at ih ⊢
    rw [List.filter_cons]
    by_cases hp : p.key = k
    · have hn : getP k (List.filter (fun p => p.val.there) l) = none := getP_none fun q hq e => by
        have := h.head q (List.mem_filter.1 hq).1
        rw [e, ← hp] at this; omega
      split
      · rename_i h1
        simp [getP, hp, Option.filter, h1]
      · rename_i h1
        simp [getP, hp, Option.filter, h1, hn]
    · split <;> simp [getP, hp, ih]
theorem sortP_srt (l : List Pr) : Srt (sortP l) := thereP_srt (keysP_srt l)
theorem sortP_get (l : List Pr) (k : K4) : getP k (sortP l) = (lastP k l).filter fun v => v.there := by
  unfold sortP; rw [thereP_get (keysP_srt l), keysP_get]
theorem perm_getP {l m : List Pr} (h : l.Perm m) (hn : (l.map (·.key)).Nodup) (k : K4) : getP k l = getP k m := by
  have hu : ∀ {a : List Pr}, (a.map (·.key)).Nodup → ∀ {p : Pr}, p ∈ a → getP p.key a = some p.val := by
    intro a
    induction a with
    | nil => intro _ p hp; cases hp
    | cons q a ih =>
      intro hn p hp
      simp only [List.map_cons, List.nodup_cons] at hn
      simp only [getP]
      rcases List.mem_cons.1 hp with rfl | hp
      · rw [if_pos rfl]
      · rw [if_neg (fun e => hn.1 (by rw [e]; exact List.mem_map.2 ⟨p, hp, rfl⟩))]
        exact ih hn.2 hp
  have hn' : (m.map (·.key)).Nodup := (h.map _).nodup_iff.1 hn
  cases hg : getP k l with
  | none =>
    rw [getP_none_iff] at hg
    exact (getP_none fun q hq => hg q (h.mem_iff.2 hq)).symm
  | some v => exact (hu hn' (h.mem_iff.1 (getP_mem hg))).symm
end Go.Proofs.Ytiheoddlknbomaa
