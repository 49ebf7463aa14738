/- The statements' arguments as data; rows that are read. -/
import Derived.Test.YtiheoddlknbomaaLockAlive
import Derived.Deep.RegionHeld3
set_option linter.all false
namespace Go.Proofs.Ytiheoddlknbomaa
open Go.RowKit Go.Shelf Go.Lib Go.Sort Go.Proofs Go.ChangeShapes Go.WideShapes
set_option linter.unusedVariables false
set_option linter.unusedSimpArgs false

namespace In
def f (n : Int) : List Value := [.int .i64 n]
def ok (n : Int) : Prop := IntKind.i64.min ≤ n ∧ n ≤ IntKind.i64.max
def ps : List (Value → Prop) := [IsI .i64]
theorem len (n : Int) : (f n).length = ps.length := rfl
theorem pos : 0 < ps.length := by decide
theorem dec (cs : List Value) (h : All2 ps cs) : ∃ n : Int, cs = f n ∧ ok n := by
  obtain ⟨_, _, rfl, ⟨a, rfl, ha⟩, h1⟩ := All2.cons h
  obtain rfl := All2.nil h1
  exact ⟨a, rfl, ha⟩
--@@ int flat
theorem flat : Flat Try.prog 3 ps := Flat.int Try.underlying3 (by kernel_rfl)
--@@ int end
theorem flatMap (l : List Int) : l.flatMap f = l.map (Value.int .i64) := by
  induction l with
  | nil => rfl
  | cons x l ih => rw [List.flatMap_cons, ih]; rfl
end In
theorem key_cells {w : World} {l : List K4} {b off k : Nat} (h : ∀ j u, (l.flatMap K4.f)[j]? = some u → w.cell? ⟨b, off + j, none⟩ = some u) (hk : k < l.length) :
    w.cell? ⟨b, off + k * 4, none⟩ = some (.int .u8 (l[k].a.toNat : Int)) ∧ w.cell? ⟨b, off + k * 4 + 1, none⟩ = some (.int .u8 (l[k].b.toNat : Int)) ∧ w.cell? ⟨b, off + k * 4 + 2, none⟩ = some (.int .u8 (l[k].c.toNat : Int)) ∧ w.cell? ⟨b, off + k * 4 + 3, none⟩ = some (.int .u8 (l[k].d.toNat : Int)) := by
  have key : ∀ j, j < 4 → ∀ u, (K4.f l[k])[j]? = some u → w.cell? ⟨b, off + k * 4 + j, none⟩ = some u := fun j hj u hu => by
    have := flatMap_get K4.f (c := 4) (fun _ => rfl) l k j l[k] (by simp [hk]) hj
    rw [hu] at this
    have h2 := h _ _ this
    rw [show off + (k * 4 + j) = off + k * 4 + j by omega] at h2
    exact h2
  exact ⟨key 0 (by omega) _ rfl, key 1 (by omega) _ rfl, key 2 (by omega) _ rfl, key 3 (by omega) _ rfl⟩
/-- a row of ints of the call's own: its cells -/
theorem own_ints {w : World} {base g cap n : Nat} {e : TypeId} {l : List Int} (h : w.ownsRow base e 1 (.slice (some ⟨g, 0, none⟩) n cap) n (l.map (Value.int .i64))) {i : Nat} (hi : i < l.length) : w.cell? ⟨g, i, none⟩ = some (.int .i64 l[i]) := by
  have := h.cells (g := g) rfl i (.int .i64 l[i]) (by simp [hi])
  rw [Addr.add_lit, Nat.zero_add] at this
  exact this
theorem own_some {w : World} {base n size c : Nat} {e : TypeId} {a : Option Addr} {xs : List Value} (h : w.ownsRow base e size (.slice a n c) n xs) (hn : 0 < n) : ∃ g, a = some ⟨g, 0, none⟩ := by
  rcases h.2 with ⟨hv, hz⟩ | ⟨g, cap, cur, hv, _⟩
  · omega
  · cases hv; exact ⟨g, rfl⟩
theorem addr_add_zero (a : Addr) : a.add 0 = a := by
  obtain ⟨b, o, s⟩ := a
  unfold Addr.add
  split <;> simp_all
--@@ slice of calls
/-- calls[:n] -/
theorem run_first (a : Option Addr) (m n cap : Nat) (h : n ≤ cap) (w : World) : (Instr.slice 22 (.slice a m cap) none (some (.int .i64 n)) none).run Try.prog w = .ok (.slice a n cap) w := by
  have h2 : (n : Int) ≤ (cap : Int) := by omega
  have h1 : (0 : Int) ≤ (n : Int) := by omega
  have he : Try.prog.elem 22 = 35 := by kernel_rfl
  rw [run_slice_h w 22 a m cap (by rw [he]; exact Try.underlying22) .i64 n h1 h2, he]
  have hs : (sizeOf 35).run Try.prog w = .ok 8 w := Try.sizeOf35 w
  rw [hs]
  simp only [Result.andThen_ok, sliced, Int.toNat_natCast, Nat.zero_mul, Nat.sub_zero]
  have e : (if cap = 0 then a else a.map (fun x => x.add 0)) = a := by
    split
    · rfl
    · cases a with
      | none => rfl
      | some a => simp [addr_add_zero]
  rw [e]
--@@ slice end
theorem freeAll_snoc (t : Ta) (L : List Int) (x : Int) : freeAll t (L ++ [x]) = (freeAll t L).freeT x := by unfold freeAll; rw [List.foldl_append]; rfl
theorem freeAll_sz : ∀ (L : List Int) {t : Ta} {n m : Nat}, TaOk t → t.le n → t.rows.length ≤ m → (freeAll t L).le n ∧ (freeAll t L).rows.length ≤ m
  | [], t, n, m, _, h1, h2 => ⟨h1, h2⟩
  | x :: L, t, n, m, H, h1, h2 => freeAll_sz L (H.free x).1 h1.freeT (Nat.le_trans (H.free_len x) h2)
end Go.Proofs.Ytiheoddlknbomaa
