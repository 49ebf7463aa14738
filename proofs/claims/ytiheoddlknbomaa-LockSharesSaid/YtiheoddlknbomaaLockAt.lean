/- A table of locks as a value in memory: its plain data; the blocks beside it. New; what each method does to it. -/
import Derived.Test.YtiheoddlknbomaaLockTxs
import Derived.Test.YtiheoddlknbomaaLockInv4
set_option linter.all false
namespace Go.Proofs.Ytiheoddlknbomaa
open Go.RowKit Go.Shelf Go.Lib Go.Sort Go.Proofs
set_option linter.unusedVariables false
set_option linter.unusedSimpArgs false

/-- the blocks of D are as they were -/
structure KD (D : Nat → Prop) (w w' : World) : Prop where
  os : w'.os = w.os
  tape : w'.tape = w.tape
  output : w'.output = w.output
  size : w.heap.size ≤ w'.heap.size
  block : ∀ k, D k → w'.heap[k]? = w.heap[k]?
theorem KD.of {D : Nat → Prop} {S : List Nat} {w w' : World} (h : Kept S w w') (hD : ∀ k, D k → k < w.heap.size ∧ k ∉ S) : KD D w w' :=
  ⟨h.os, h.tape, h.output, h.size, fun k hk => h.block k (hD k hk).1 (hD k hk).2⟩
theorem KD.kept {w w' : World} (h : KD (fun b => b < w.heap.size) w w') : Kept [] w w' := ⟨h.os, h.tape, h.output, h.size, fun k hk _ => h.block k hk⟩
theorem Kept.kd {w w' : World} (h : Kept [] w w') : KD (fun b => b < w.heap.size) w w' := KD.of h fun k hk => ⟨hk, by simp⟩
theorem KD.trans {D E : Nat → Prop} {a b c : World} (h : KD D a b) (k : KD E b c) (hE : ∀ x, D x → E x) : KD D a c :=
  ⟨k.os.trans h.os, k.tape.trans h.tape, k.output.trans h.output, Nat.le_trans h.size k.size, fun i hi => (k.block i (hE i hi)).trans (h.block i hi)⟩
theorem KD.then {S : List Nat} {D : Nat → Prop} {a b c : World} (h : Kept S a b) (k : KD D b c) (hD : ∀ x, x < a.heap.size → x ∉ S → D x) : Kept S a c :=
  ⟨k.os.trans h.os, k.tape.trans h.tape, k.output.trans h.output, Nat.le_trans h.size k.size, fun i hi hs => (k.block i (hD i hi hs)).trans (h.block i hi hs)⟩
theorem KD.own {D : Nat → Prop} {w w' : World} {base n size : Nat} {e : TypeId} {v : Value} {xs : List Value} (h : KD D w w') (ho : w.ownsRow base e size v n xs) (hD : ∀ x, v.ownBlock = some x → D x) : w'.ownsRow base e size v n xs := by
  refine ⟨ho.1, ?_⟩
  rcases ho.2 with h1 | ⟨g, cap, cur, rfl, h2, h3, h4⟩
  · exact .inl h1
  · exact .inr ⟨g, cap, cur, rfl, h2, (h.block g (hD g rfl)).trans h3, h4⟩
theorem KD.cell {D : Nat → Prop} {w w' : World} (h : KD D w w') {b o : Nat} {v : Value} (hc : w.cell? ⟨b, o, none⟩ = some v) (hb : D b) : w'.cell? ⟨b, o, none⟩ = some v :=
  (World.cell?_of_block (w := w) (a := ⟨b, o, none⟩) (h.block b hb)).trans hc
--@@ lock.Table
structure TabAt (w : World) (D : Nat → Prop) (A : Nat) (t : Ta) : Prop where
  ex : ∃ R M rs ws, TabIs w A R M t.lim rs ws ∧ tabT t.lim rs ws = t ∧ ∀ b ∈ tabBs A R M rs, ¬ D b
  lt : ∀ b, D b → b < w.heap.size
theorem TabAt.kept {w w' : World} {D : Nat → Prop} {A : Nat} {t : Ta} {S : List Nat} (h : TabAt w D A t) (hk : Kept S w w') (hS : ∀ x ∈ S, D x) : TabAt w' D A t := by
  obtain ⟨R, M, rs, ws, h1, h2, h3⟩ := h.ex
  exact ⟨⟨R, M, rs, ws, h1.kept hk (fun b hb hx => h3 b hb (hS b hx)), h2, h3⟩, fun b hb => Nat.lt_of_lt_of_le (h.lt b hb) hk.size⟩
/-- blocks that are made beside the table -/
theorem TabAt.widen {w w' : World} {D : Nat → Prop} {A : Nat} {t : Ta} {S : List Nat} (h : TabAt w D A t) (hk : Kept S w w') (hS : ∀ x ∈ S, D x) : TabAt w' (fun b => D b ∨ (w.heap.size ≤ b ∧ b < w'.heap.size)) A t := by
  obtain ⟨R, M, rs, ws, h1, h2, h3⟩ := h.ex
  refine ⟨⟨R, M, rs, ws, h1.kept hk (fun b hb hx => h3 b hb (hS b hx)), h2, fun b hb hD => ?_⟩, fun b hb => ?_⟩
  · rcases hD with hD | hD
    · exact h3 b hb hD
    · have := h1.lt b hb; omega
  · rcases hb with hb | hb
    · exact Nat.lt_of_lt_of_le (h.lt b hb) hk.size
    · exact hb.2
theorem TabAt.less {w : World} {D E : Nat → Prop} {A : Nat} {t : Ta} (h : TabAt w D A t) (hE : ∀ b, E b → D b) : TabAt w E A t := by
  obtain ⟨R, M, rs, ws, h1, h2, h3⟩ := h.ex
  exact ⟨⟨R, M, rs, ws, h1, h2, fun b hb hD => h3 b hb (hE b hD)⟩, fun b hb => h.lt b (hE b hb)⟩
theorem tab_turned {w w' : World} {D : Nat → Prop} {A R M : Nat} {lim : Int} {rs rs' : List (K4 × RR)} {ws' : List (Int × K4)} {t' : Ta} (hD : ∀ b ∈ tabBs A R M rs, ¬ D b) (hlt : ∀ b, D b → b < w.heap.size)
    (h1 : TabIs w' A R M lim rs' ws') (h2 : tabT lim rs' ws' = t') (h3 : Kept (tabBs A R M rs) w w') (h4 : ∀ b ∈ tabBs A R M rs', b ∈ tabBs A R M rs ∨ w.heap.size ≤ b) : TabAt w' D A t' ∧ KD D w w' := by
  have hl : t'.lim = lim := by rw [← h2]; rfl
  refine ⟨⟨⟨R, M, rs', ws', by rw [hl]; exact h1, by rw [hl]; exact h2, fun b hb hx => ?_⟩, fun b hb => Nat.lt_of_lt_of_le (hlt b hb) h3.size⟩, KD.of h3 fun k hk => ⟨hlt k hk, fun hx => hD k hx hk⟩⟩
  rcases h4 b hb with h | h
  · exact hD b h hx
  · have := hlt b hx; omega
theorem at_le {t : Ta} {n : Nat} {lim : Int} {rs : List (K4 × RR)} {ws : List (Int × K4)} (h2 : tabT lim rs ws = t) (hl : t.le n) : ∀ p ∈ rs, p.2.r.h.length + p.2.r.q.length ≤ n := le_tab.1 (h2 ▸ hl)
theorem at_len {t : Ta} {n : Nat} {lim : Int} {rs : List (K4 × RR)} {ws : List (Int × K4)} (h2 : tabT lim rs ws = t) (hl : t.rows.length ≤ n) : rs.length ≤ n := by
  rw [← h2] at hl; simpa [tabT] using hl
--@@ lock.New
set_option maxHeartbeats 1000000 in
theorem new5_any (w : World) : Calls Try.prog 19 #[.int .i64 5] w fun e w' => ∃ A, e = .returned (.tuple #[.pointer (some ⟨A, 0, none⟩), .int .i64 0]) ∧ TabAt w' (fun b => b < w.heap.size) A ⟨5, [], []⟩ ∧ Kept [] w w' := by
  have hmm := @run_makeMap Try.prog
  go_enter Try.func19, Try.ntmps19
  go_wp2
  go_ret2
  refine ⟨_, rfl, ⟨⟨w.heap.size, w.heap.size + 1, [], [], ⟨?_, ?_, ?_, by simp, by omega, by simp, by simp, by simp, by simp⟩, rfl, ?_⟩, fun b hb => ?_⟩, (((Kept.refl [] w).alloc _).alloc _).alloc _⟩
  · have := heap_alloc_new ((w.alloc (.map #[] 0)).alloc (.map #[] 0)) (.cells #[.int .i64 5, .map (some w.heap.size), .map (some (w.heap.size + 1))] 54)
    simpa using this
  · exact ((MapIs.made w K4.v).alloc _).alloc _
  · have := (MapIs.made (w.alloc (.map #[] 0)) (Value.int .i64)).alloc (.cells #[.int .i64 5, .map (some w.heap.size), .map (some (w.heap.size + 1))] 54)
    simpa using this
  · intro b hb
    simp [tabBs] at hb
    omega
  · simp; omega
--@@ (*lock.Table).Ask
theorem ask_at {w : World} {D : Nat → Prop} {A : Nat} {t : Ta} {n : Nat} (h : TabAt w D A t) (hl : t.le n) (hn : n ≤ 100000) (tx : Int) (k : K4) (ex : Bool) (now : Int) :
    Calls Try.prog 18 #[.pointer (some ⟨A, 0, none⟩), .int .i64 tx, k.v, .bool ex, .int .i64 now] w fun e w' => e = .returned (.int .i64 (t.ask tx k ex now).1) ∧ TabAt w' D A (t.ask tx k ex now).2 ∧ KD D w w' := by
  obtain ⟨R, M, rs, ws, h1, h2, h3⟩ := h.ex
  refine (ask_any A R M t.lim rs ws tx k ex now w h1 (fun p hp => by have := at_le h2 hl p hp; omega)).mono ?_
  rintro e w' ⟨rs', ws', rfl, g1, g2, g3, g4⟩
  rw [h2] at g2 ⊢
  exact ⟨rfl, tab_turned h3 h.lt g1 g2 g3 g4⟩
--@@ (*lock.Table).Free
theorem free_at {w : World} {D : Nat → Prop} {A : Nat} {t : Ta} {n : Nat} (h : TabAt w D A t) (hl : t.le n) (hn : n ≤ 100000) (hm : t.rows.length ≤ 50000) (tx : Int) :
    Calls Try.prog 14 #[.pointer (some ⟨A, 0, none⟩), .int .i64 tx] w fun e w' => e = .returned (.tuple #[]) ∧ TabAt w' D A (t.freeT tx) ∧ KD D w w' := by
  obtain ⟨R, M, rs, ws, h1, h2, h3⟩ := h.ex
  refine (free_any A R M t.lim rs ws tx w h1 (at_len h2 hm) (by rw [h2]; exact hl.mono hn)).mono ?_
  rintro e w' ⟨rfl, rs', ws', g1, g2, g3, g4⟩
  rw [h2] at g2
  exact ⟨rfl, tab_turned h3 h.lt g1 g2 g3 g4⟩
--@@ (*lock.Table).Quit
theorem quit_at {w : World} {D : Nat → Prop} {A : Nat} {t : Ta} {n : Nat} (h : TabAt w D A t) (hl : t.le n) (hn : n ≤ 100000) (tx : Int) :
    Calls Try.prog 20 #[.pointer (some ⟨A, 0, none⟩), .int .i64 tx] w fun e w' => e = .returned (.bool (t.quit tx).1) ∧ TabAt w' D A (t.quit tx).2 ∧ KD D w w' := by
  obtain ⟨R, M, rs, ws, h1, h2, h3⟩ := h.ex
  refine (quit_any A R M t.lim rs ws tx w h1 (by rw [h2]; exact hl.mono hn)).mono ?_
  rintro e w' ⟨rs', ws', rfl, g1, g2, g3, g4⟩
  rw [h2] at g2 ⊢
  exact ⟨rfl, tab_turned h3 h.lt g1 g2 g3 g4⟩
--@@ (*lock.Table).Holds
theorem holds_at {w : World} {D : Nat → Prop} {A : Nat} {t : Ta} {n : Nat} (h : TabAt w D A t) (hl : t.le n) (hn : n ≤ 100000) (tx : Int) (k : K4) :
    Calls Try.prog 13 #[.pointer (some ⟨A, 0, none⟩), .int .i64 tx, k.v] w fun e w' => e = .returned (.int .i64 (how (t.row k).h tx)) ∧ Kept [] w w' := by
  obtain ⟨R, M, rs, ws, h1, h2, h3⟩ := h.ex
  have := holds_any A R M t.lim rs ws tx k w h1 (fun p hp => by have := at_le h2 hl p hp; omega)
  rw [← howO_tab t.lim rs ws tx k, h2, holds_how] at this
  exact this
--@@ (*lock.Table).Waits
theorem waits_at {w : World} {D : Nat → Prop} {A : Nat} {t : Ta} (h : TabAt w D A t) (tx : Int) :
    Calls Try.prog 15 #[.pointer (some ⟨A, 0, none⟩), .int .i64 tx] w fun e w' => e = .returned (.tuple #[(keyO (aget tx t.waits)).v, .bool (aget tx t.waits).isSome]) ∧ Kept [] w w' := by
  obtain ⟨R, M, rs, ws, h1, h2, h3⟩ := h.ex
  have := waits_any A R M t.lim rs ws tx w h1
  have e : ws = t.waits := by rw [← h2]; rfl
  rw [e] at this
  exact this
--@@ (*lock.Table).Keys
theorem keys_at {w : World} {D : Nat → Prop} {A : Nat} {t : Ta} {n : Nat} (h : TabAt w D A t) (hl : t.le n) (hn : n ≤ 100000) (hm : t.rows.length ≤ 50000) (tx : Int) :
    Calls Try.prog 16 #[.pointer (some ⟨A, 0, none⟩), .int .i64 tx] w fun e w' => ∃ v, e = .returned v ∧ w'.ownsRow w.heap.size 32 4 v (t.keysT tx).length ((t.keysT tx).flatMap K4.f) ∧ Kept [] w w' := by
  obtain ⟨R, M, rs, ws, h1, h2, h3⟩ := h.ex
  have := keysT_any A R M t.lim rs ws tx w h1 (by have := at_len h2 hm; omega) (by rw [h2]; exact hl.mono hn)
  rw [h2] at this
  exact this
--@@ (*lock.Table).Held
theorem held_at {w : World} {D : Nat → Prop} {A : Nat} {t : Ta} (h : TabAt w D A t) (hm : t.rows.length ≤ 50000) :
    Calls Try.prog 12 #[.pointer (some ⟨A, 0, none⟩)] w fun e w' => ∃ v, e = .returned v ∧ w'.ownsRow w.heap.size 32 4 v t.heldT.length (t.heldT.flatMap K4.f) ∧ Kept [] w w' := by
  obtain ⟨R, M, rs, ws, h1, h2, h3⟩ := h.ex
  have := heldT_any A R M t.lim rs ws w h1 (by have := at_len h2 hm; omega)
  rw [h2] at this
  exact this
--@@ (*lock.Table).Late
theorem late_at {w : World} {D : Nat → Prop} {A : Nat} {t : Ta} {n : Nat} (h : TabAt w D A t) (hl : t.le n) (hn : n ≤ 100000) (hm : t.rows.length ≤ 50000) (now : Int) :
    Calls Try.prog 17 #[.pointer (some ⟨A, 0, none⟩), .int .i64 now] w fun e w' => ∃ v, e = .returned v ∧ w'.ownsRow w.heap.size 3 1 v (t.lateT now).length ((t.lateT now).map (Value.int .i64)) ∧ Kept [] w w' := by
  obtain ⟨R, M, rs, ws, h1, h2, h3⟩ := h.ex
  have := late_any A R M t.lim rs ws now w h1 (by have := at_len h2 hm; omega) (by rw [h2]; exact hl.mono hn)
  rw [h2] at this
  exact this
--@@ (*lock.Table).Txs
theorem txs_at {w : World} {D : Nat → Prop} {A : Nat} {t : Ta} {n : Nat} (h : TabAt w D A t) (hl : t.le n) (hn : n ≤ 100000) (hm : t.rows.length ≤ 50000) (ok : TaOk t) :
    Calls Try.prog 11 #[.pointer (some ⟨A, 0, none⟩)] w fun e w' => ∃ v L, e = .returned v ∧ TxsOf t L ∧ w'.ownsRow w.heap.size 3 1 v L.length (L.map (Value.int .i64)) ∧ L.length ≤ 10000000000 ∧ Kept [] w w' := by
  obtain ⟨R, M, rs, ws, h1, h2, h3⟩ := h.ex
  have := txs_any A R M t.lim rs ws w h1 (by have := at_len h2 hm; omega) (by rw [h2]; exact hl.mono hn) (fun k x hx => by
    rw [h2] at hx
    rcases List.mem_append.1 hx with hx | hx
    · exact (ok.row k).hb x hx
    · exact (ok.row k).qb x hx)
  rw [h2] at this
  exact this
--@@ end
end Go.Proofs.Ytiheoddlknbomaa
