/- The fixed records that each statement tries first are answered right. -/
import Derived.Test.YtpcpeoejcnndhaaGreatM4
import Derived.Test.YtpcpeoejcnndhaaGreatRedoSame
import Derived.Test.YtpcpeoejcnndhaaGreatRedoReplay
import Derived.Test.YtpcpeoejcnndhaaGreatM2
set_option linter.all false
namespace Go.Proofs.YtpcpeoejcnndhaaGreat
open Go.RowKit Go.Shelf Go.Lib Go.Sort Go.Proofs
abbrev kA11 : K4 := ⟨1, 0, 0, 0⟩
abbrev k011 : K4 := ⟨0, 0, 0, 0⟩
def l6 : List Rc := [⟨1, 1, 0, kA11, V.zero, ⟨true, 5⟩⟩, ⟨2, 1, 3, k011, V.zero, V.zero⟩, ⟨4, 1, 0, k011, V.zero, V.zero⟩, ⟨1, 2, 0, kA11, V.zero, V.zero⟩, ⟨2, 2, 1, k011, V.zero, V.zero⟩, ⟨1, 4, 0, kA11, V.zero, V.zero⟩]
def s6 : Stp := ⟨[⟨kA11, ⟨true, 5⟩⟩], [⟨1, 3, true, []⟩, ⟨2, 1, false, [⟨kA11, V.zero⟩]⟩]⟩
theorem srt124 : srtI [1, 2, 4] = [1, 2, 4] := srtI_self (by decide)
theorem srt12 : srtI [1, 2] = [1, 2] := srtI_self (by decide)
theorem play6 : playP p0 l6 = ⟨[⟨kA11, ⟨true, 5⟩⟩], [(1, ⟨3, true, []⟩), (2, ⟨1, false, [(kA11, V.zero)]⟩), (4, ⟨0, false, [(kA11, V.zero)]⟩)], -1, []⟩ := rfl
theorem replay6 : replayP l6 = s6 := by
  unfold replayP outP
  rw [play6]
  dsimp only [List.map]
  rw [srt124]
  rfl
theorem right6 : s6.right = true := by decide +kernel
theorem back6 : replayP (recsS s6) = s6 := law_back (StOk.of right6) p0
theorem recs6 : (recsS s6).length = 6 := by decide +kernel
theorem doubt6 : numbersS s6 false = [2] := by decide +kernel
theorem told6 : numbersS s6 true = [1] := by decide +kernel
theorem ms6 : ∀ r ∈ l6, r.mask ≤ 65535 := by decide +kernel
theorem msr6 : ∀ r ∈ recsS s6, r.mask ≤ 65535 := by decide +kernel
theorem ne6 : decide (s6 = ⟨[], []⟩) = false := by decide +kernel
theorem StAt.slices {w : World} {bv tv : Value} {s : Stp} (h : StAt w bv tv s) : ∃ a c a' c', bv = .slice a s.base.length c ∧ tv = .slice a' s.txs.length c' := by
  obtain ⟨L, hL, hS, _⟩ := h.txs.ex
  obtain ⟨a, c, rfl, _⟩ := h.base.at'.ex
  obtain ⟨a', c', rfl, _⟩ := hS.ex
  exact ⟨a, c, a', c', rfl, by rw [← hL, List.length_map]⟩
inductive RowSpec where
  | eq (v : Value)
  | ints (l : List Int)
  | stv (s : Stp)
def RowSpec.den : RowSpec → Value → World → Prop
  | .eq u, v, _ => v = u
  | .ints l, v, w => ∃ a c, v = .slice a l.length c ∧ SlAt w v 1 l.length (l.map (Value.int .i64))
  | .stv s, v, w => ∃ a c a' c', v = .agg #[.slice a s.base.length c, .slice a' s.txs.length c'] ∧ StAt w (.slice a s.base.length c) (.slice a' s.txs.length c') s
def rowDen (l : List RowSpec) (k : Nat) (v : Value) (w : World) : Prop := match l[k]? with
  | some p => p.den v w
  | none => True
theorem rowDen_kept (l : List RowSpec) (k : Nat) (v : Value) (w w' : World) (hk : Kept [] w w') (h : rowDen l k v w) : rowDen l k v w' := by
  unfold rowDen at h ⊢
  cases hl : l[k]? with
  | none => trivial
  | some p =>
    rw [hl] at h
    dsimp only at h ⊢
    cases p with
    | eq u => exact h
    | ints xs =>
      obtain ⟨a, c, h1, h2⟩ := h
      exact ⟨a, c, h1, h2.kept hk⟩
    | stv s =>
      obtain ⟨a, c, a', c', h1, h2⟩ := h
      exact ⟨a, c, a', c', h1, h2.kept hk⟩
--@@ concordatlaw11.num
theorem num11_any (n : Int) (w : World) :
    Calls Tryz.prog 19 #[.int .i64 n] w fun e w' => e = .returned (.agg #[.bool true, .int .i64 n]) ∧ Kept [] w w' := by
  go_enter Tryz.func19, Tryz.ntmps19
  go_wp2
  go_returns
  exact ⟨rfl, (Kept.refl _ _).alloc _⟩
--@@ concordatlaw11.alive
theorem replay6_any (W : World) (v : Value) (h : SlAt W v 11 6 (l6.flatMap Rc.f)) :
    Calls Tryz.prog 11 #[v] W fun e w' => ∃ bv tv, e = .returned (.agg #[bv, tv]) ∧ StAt w' bv tv s6 ∧ Kept [] W w' := by
  have := replay_any v l6 W h (by decide) ms6
  rw [replay6] at this
  exact this
theorem recs6_any (W : World) (bv tv : Value) (h : StAt W bv tv s6) :
    Calls Tryz.prog 7 #[.agg #[bv, tv]] W fun e w' => ∃ v, e = .returned (.tuple #[v, .bool true]) ∧ w'.ownsRow W.heap.size 55 11 v 6 ((recsS s6).flatMap Rc.f) ∧ Kept [] W w' := by
  have := redoRecs_any bv tv s6 W h (by rw [recs6]; decide)
  rw [right6, recs6] at this
  exact this.mono fun e w' ⟨v, h1, h2, _, h4⟩ => ⟨v, h1, h2 rfl, h4⟩
theorem replayb6_any (W : World) (v : Value) (h : SlAt W v 11 6 ((recsS s6).flatMap Rc.f)) :
    Calls Tryz.prog 11 #[v] W fun e w' => ∃ bv tv, e = .returned (.agg #[bv, tv]) ∧ StAt w' bv tv s6 ∧ Kept [] W w' := by
  have := replay_any v (recsS s6) W (by rw [recs6]; exact h) (by rw [recs6]; decide) msr6
  rw [back6] at this
  exact this
theorem doubt6_any (W : World) (bv tv : Value) (h : StAt W bv tv s6) :
    Calls Tryz.prog 15 #[.agg #[bv, tv]] W fun e w' => ∃ v, e = .returned v ∧ SlAt w' v 1 1 [.int .i64 2] ∧ Kept [] W w' := by
  have := doubt_any bv tv s6 W h (by decide)
  rw [doubt6] at this
  exact this.mono fun e w' ⟨v, h1, h2, h3⟩ => ⟨v, h1, SlAt.of_own h2, h3⟩
theorem told6_any (W : World) (bv tv : Value) (h : StAt W bv tv s6) :
    Calls Tryz.prog 17 #[.agg #[bv, tv]] W fun e w' => ∃ v, e = .returned v ∧ SlAt w' v 1 1 [.int .i64 1] ∧ Kept [] W w' := by
  have := told_any bv tv s6 W h (by decide)
  rw [told6] at this
  exact this.mono fun e w' ⟨v, h1, h2, h3⟩ => ⟨v, h1, SlAt.of_own h2, h3⟩
theorem same6_any (W : World) (b1 t1 b2 t2 : Value) (h1 : StAt W b1 t1 s6) (h2 : StAt W b2 t2 s6) :
    Calls Tryz.prog 18 #[.agg #[b1, t1], .agg #[b2, t2]] W fun e w' => e = .returned (.bool true) ∧ Kept [] W w' := by
  have := same_any b1 t1 b2 t2 s6 s6 W h1 h2
  rw [decide_eq_true rfl] at this
  exact this
theorem same0_any (W : World) (b1 t1 : Value) (h1 : StAt W b1 t1 s6) :
    Calls Tryz.prog 18 #[.agg #[b1, t1], .agg #[.slice none 0 0, .slice none 0 0]] W fun e w' => e = .returned (.bool false) ∧ Kept [] W w' := by
  have := same_any b1 t1 _ _ s6 ⟨[], []⟩ W h1 ⟨PrAt.nil W, TxsAt.nil W⟩
  rw [ne6] at this
  exact this
theorem ints_same (n : Int) (W : World) (v1 v2 : Value) (h1 : SlAt W v1 1 1 [.int .i64 n]) (h2 : SlAt W v2 1 1 [.int .i64 n]) :
    Calls Tryz.prog 14 #[v1, v2] W fun e w' => e = .returned (.bool true) ∧ Kept [] W w' := by
  have := sameInts_any v1 v2 [n] [n] W h1 h2
  rw [decide_eq_true rfl] at this
  exact this
theorem two_kept1 {w w' : World} {o : Obj} {t : TypeId} {x y : Value} (hk : Kept [] ((w.alloc o).alloc (.cells #[x, y] t)) w') : w'.heap[w.heap.size + 1]? = some (.cells #[x, y] t (0, 0)) := by
  have := two_kept hk
  rwa [World.size_alloc] at this
theorem two_keptd {w w' : World} {o : Obj} {t : TypeId} {x y : Value} (hk : Kept [] ((w.alloc o).drew.alloc (.cells #[x, y] t)) w') : w'.heap[w.heap.size + 1]? = some (.cells #[x, y] t (0, 0)) := by
  have := two_kept hk
  rwa [show (w.alloc o).drew.heap.size = w.heap.size + 1 from World.size_alloc _ _] at this
theorem SlAt.new1 (w : World) (o : Obj) (l : List Value) (t : TypeId) (size n : Nat) (hm : n ≤ maxLen) (hl : l.length = n * size) : SlAt ((w.alloc o).alloc (.cells l.toArray t)) (.slice (some ⟨w.heap.size + 1, 0, none⟩) n n) size n l := by
  have := SlAt.new (w.alloc o) l t size n hm hl
  rwa [World.size_alloc] at this
theorem nilblk_kept {w w' : World} {b : Nat} {o : Obj} (h : w.heap[b]? = some o) (hk : Kept [] w w') : w'.heap[b]? = some o :=
  (hk.block b (Array.getElem?_eq_some_iff.1 h).1 (by simp)).trans h
theorem small2 {w : World} {b : Nat} {x y : Value} {t : TypeId} (h : w.heap[b]? = some (.cells #[x, y] t (0, 0))) : ∀ o, 4 ≤ o → w.cell? ⟨b, o, none⟩ = none := small_cells h (by simp)
theorem SlAt.far {w : World} {v : Value} {n : Nat} {xs : List Value} (h : SlAt w v 4 n xs) {b : Nat} {x y : Value} {t : TypeId} (hb : w.heap[b]? = some (.cells #[x, y] t (0, 0))) : ∀ a m c, v = .slice (some a) m c → 0 < m → a.block ≠ b := by
  rintro a m c rfl hn rfl
  obtain ⟨a', cap, h1, h2, h3, h4⟩ := h.ex
  cases h1
  obtain ⟨b', off, h5, h6, h7⟩ := h4 hn
  cases h5
  have hl : 3 < xs.length := by rw [h3]; omega
  have := h7 3 _ (List.getElem?_eq_getElem hl)
  simp [World.cell?, hb] at this
theorem SlAt.kept_of {S : List Nat} {w w' : World} {size n : Nat} {v : Value} {xs : List Value} (h : SlAt w v size n xs) (hk : Kept S w w') (hS : ∀ a m c, v = .slice (some a) m c → 0 < m → a.block ∉ S) : SlAt w' v size n xs := by
  obtain ⟨a, cap, h1, h2, h3, h4⟩ := h.ex
  refine ⟨a, cap, h1, h2, h3, fun hn => ?_⟩
  obtain ⟨b, off, h5, h6, h7⟩ := h4 hn
  subst h5
  exact ⟨b, off, rfl, Nat.lt_of_lt_of_le h6 hk.size, fun j u hu => hk.cell (h7 j u hu) (hS _ _ _ h1 hn)⟩
theorem StAt.put2 {w : World} {B : Nat} {t : TypeId} {x y bv tv u v : Value} {s : Stp} (h : StAt w bv tv s) (hb : w.heap[B]? = some (.cells #[x, y] t (0, 0))) : StAt ((w.setCell ⟨B, 0, none⟩ u).setCell ⟨B, 1, none⟩ v) bv tv s := by
  have hk : Kept [B] w ((w.setCell ⟨B, 0, none⟩ u).setCell ⟨B, 1, none⟩ v) := ((Kept.refl _ w).setCell (.inl (by simp)) _).setCell (.inl (by simp)) _
  have hsm := small2 hb
  obtain ⟨L, h1, h2, h3⟩ := h.txs.ex
  refine ⟨h.base.kept_of hk (fun a n c hv hn hx => h.base.far hsm a n c hv hn (by simpa using hx)), ⟨L, h1, h2.kept_of hk (fun a n c hv hn hx => h2.far hb a n c hv hn (by simpa using hx)), fun q hq => (h3 q hq).kept_of hk (fun a n c hv hn hx => (h3 q hq).far hsm a n c hv hn (by simpa using hx))⟩⟩
--@@ end
end Go.Proofs.YtpcpeoejcnndhaaGreat
