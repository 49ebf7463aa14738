/- The calls of statement 14 as data. -/
import Derived.Test.YtdaipbaclccodaaAlive14
import Derived.Test.YtdaipbaclccodaaOpen
set_option linter.all false
namespace Go.Proofs.Ytdaipbaclccodaa
open Go.RowKit Go.ChangeShapes Go.WideShapes
set_option linter.unusedVariables false

structure Call14 where
  what : Int
  tx : Int
  part : Int
  n : Int
  mask : Nat
  commit : Bool
namespace Call14
def f (c : Call14) : List Value := [.int .i64 c.what, .int .i64 c.tx, .int .i64 c.part, .int .i64 c.n, .int .u16 (c.mask : Int), .bool c.commit]
def ok (c : Call14) : Prop := c.mask < 65536
def ps : List (Value → Prop) := [IsI .i64, IsI .i64, IsI .i64, IsI .i64, IsI .u16, IsB]
theorem len (c : Call14) : c.f.length = ps.length := rfl
theorem pos : 0 < ps.length := by decide
theorem dec (cs : List Value) (h : All2 ps cs) : ∃ c : Call14, cs = c.f ∧ c.ok := by
  obtain ⟨_, _, rfl, ⟨a, rfl, _⟩, h1⟩ := All2.cons h
  obtain ⟨_, _, rfl, ⟨b, rfl, _⟩, h2⟩ := All2.cons h1
  obtain ⟨_, _, rfl, ⟨c, rfl, _⟩, h3⟩ := All2.cons h2
  obtain ⟨_, _, rfl, ⟨d, rfl, _⟩, h4⟩ := All2.cons h3
  obtain ⟨_, _, rfl, ⟨m, rfl, hm⟩, h5⟩ := All2.cons h4
  obtain ⟨_, _, rfl, ⟨t, rfl⟩, h6⟩ := All2.cons h5
  obtain rfl := All2.nil h6
  obtain ⟨k, rfl, hk⟩ := u16_of hm
  exact ⟨⟨a, b, c, d, k, t⟩, rfl, hk⟩
--@@ flat
set_option maxRecDepth 100000 in
theorem flat : Flat Try.prog 35 ps := by
  have h := Flat.struct (P := Try.prog) (t := 35) (pss := [[IsI .i64], [IsI .i64], [IsI .i64], [IsI .i64], [IsI .u16], [IsB]]) Try.underlying35 (by kernel_rfl)
    ⟨rfl, Flat.int Try.underlying3 (by kernel_rfl), rfl, Flat.int Try.underlying3 (by kernel_rfl), rfl, Flat.int Try.underlying3 (by kernel_rfl), rfl, Flat.int Try.underlying3 (by kernel_rfl),
      rfl, Flat.int Try.underlying33 (by kernel_rfl), rfl, Flat.bool Try.underlying4 (by kernel_rfl), trivial⟩
  exact h
--@@ end
theorem cells {w : World} {l : List Call14} {b off k : Nat} (h : ∀ j u, (l.flatMap f)[j]? = some u → w.cell? ⟨b, off + j, none⟩ = some u) (hk : k < l.length) :
    w.cell? ⟨b, off + k * 6, none⟩ = some (.int .i64 l[k].what) ∧ w.cell? ⟨b, off + k * 6 + 1, none⟩ = some (.int .i64 l[k].tx) ∧ w.cell? ⟨b, off + k * 6 + 2, none⟩ = some (.int .i64 l[k].part) ∧
    w.cell? ⟨b, off + k * 6 + 3, none⟩ = some (.int .i64 l[k].n) ∧ w.cell? ⟨b, off + k * 6 + 4, none⟩ = some (.int .u16 (l[k].mask : Int)) ∧ w.cell? ⟨b, off + k * 6 + 5, none⟩ = some (.bool l[k].commit) := by
  have key : ∀ j u, j < 6 → (l[k].f)[j]? = some u → w.cell? ⟨b, off + (k * 6 + j), none⟩ = some u := fun j u hj hu =>
    h _ u (by rw [flatMap_get f (c := 6) (fun _ => rfl) l k j l[k] (by simp [hk]) hj]; exact hu)
  exact ⟨key 0 _ (by omega) rfl, key 1 _ (by omega) rfl, key 2 _ (by omega) rfl, key 3 _ (by omega) rfl, key 4 _ (by omega) rfl, key 5 _ (by omega) rfl⟩
--@@ flat2
/-- the copy of a call that a round has made, in a later world -/
theorem copy {w w' : World} {c : Call14} {S : List Nat} (hk : Kept S (w.alloc (.cells c.f.toArray 35)) w') (hS : w.heap.size ∉ S) :
    w'.cell? ⟨w.heap.size, 0, none⟩ = some (.int .i64 c.what) ∧ w'.cell? ⟨w.heap.size, 1, none⟩ = some (.int .i64 c.tx) ∧ w'.cell? ⟨w.heap.size, 2, none⟩ = some (.int .i64 c.part) ∧
    w'.cell? ⟨w.heap.size, 3, none⟩ = some (.int .i64 c.n) ∧ w'.cell? ⟨w.heap.size, 4, none⟩ = some (.int .u16 (c.mask : Int)) ∧ w'.cell? ⟨w.heap.size, 5, none⟩ = some (.bool c.commit) :=
  ⟨hk.cell (new_cell w c.f _ 0 _ rfl) hS, hk.cell (new_cell w c.f _ 1 _ rfl) hS, hk.cell (new_cell w c.f _ 2 _ rfl) hS, hk.cell (new_cell w c.f _ 3 _ rfl) hS, hk.cell (new_cell w c.f _ 4 _ rfl) hS, hk.cell (new_cell w c.f _ 5 _ rfl) hS⟩
--@@ end2
end Call14
end Go.Proofs.Ytdaipbaclccodaa
