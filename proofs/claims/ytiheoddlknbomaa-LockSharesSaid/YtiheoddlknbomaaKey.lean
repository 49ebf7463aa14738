/- Keys, values, pairs as data; their equality; maps keyed by keys. -/
import Derived.Test.YtiheoddlknbomaaOpen
import Derived.Laws.StructEq
import Derived.ChangeKeysEq
set_option linter.all false
namespace Go.Proofs.Ytiheoddlknbomaa
open Go.RowKit
set_option linter.unusedVariables false
set_option linter.unusedSimpArgs false

structure K4 where
  a : UInt8
  b : UInt8
  c : UInt8
  d : UInt8
  deriving DecidableEq
structure V where
  there : Bool
  n : Int
  deriving DecidableEq
structure Pr where
  key : K4
  val : V
  deriving DecidableEq
def K4.f (k : K4) : List Value := [.int .u8 (k.a.toNat : Int), .int .u8 (k.b.toNat : Int), .int .u8 (k.c.toNat : Int), .int .u8 (k.d.toNat : Int)]
def K4.v (k : K4) : Value := .agg #[.int .u8 (k.a.toNat : Int), .int .u8 (k.b.toNat : Int), .int .u8 (k.c.toNat : Int), .int .u8 (k.d.toNat : Int)]
def V.f (v : V) : List Value := [.bool v.there, .int .i64 v.n]
def V.v (v : V) : Value := .agg #[.bool v.there, .int .i64 v.n]
def Pr.f (p : Pr) : List Value := [.int .u8 (p.key.a.toNat : Int), .int .u8 (p.key.b.toNat : Int), .int .u8 (p.key.c.toNat : Int), .int .u8 (p.key.d.toNat : Int), .bool p.val.there, .int .i64 p.val.n]
def Pr.v (p : Pr) : Value := .agg #[.int .u8 (p.key.a.toNat : Int), .int .u8 (p.key.b.toNat : Int), .int .u8 (p.key.c.toNat : Int), .int .u8 (p.key.d.toNat : Int), .bool p.val.there, .int .i64 p.val.n]
def V.zero : V := ⟨false, 0⟩
theorem u8_eq (a b : UInt8) : ((a.toNat : Int) == (b.toNat : Int)) = decide (a = b) := by
  rw [Bool.eq_iff_iff]; simp [UInt8.toNat_inj, Int.ofNat_inj]
theorem u8_of {a : Int} (h : IntKind.u8.min ≤ a ∧ a ≤ IntKind.u8.max) : ∃ x : UInt8, a = (x.toNat : Int) := by
  have h' : 0 ≤ a ∧ a ≤ 255 := by simpa [IntKind.min, IntKind.max, IntKind.signed, IntKind.bits] using h
  refine ⟨a.toNat.toUInt8, ?_⟩
  have : a.toNat.toUInt8.toNat = a.toNat % 256 := by simp
  omega
theorem K4.ext_iff' (a b : K4) : (decide (a.a = b.a) && (decide (a.b = b.b) && (decide (a.c = b.c) && decide (a.d = b.d)))) = decide (a = b) := by
  rw [Bool.eq_iff_iff]
  cases a; cases b
  simp
theorem V.ext_iff' (a b : V) : ((a.there == b.there) && (a.n == b.n)) = decide (a = b) := by
  rw [Bool.eq_iff_iff]
  cases a; cases b
  simp
theorem sameBits_int (n : Nat) (k : IntKind) (a : Int) : Instr.sameBits n (.int k a) (.int k a) = true := by
  cases n <;> simp [Instr.sameBits]
--@@ key
theorem info_u8 : ∃ i, Try.prog.info? 5 = some i := info_of_underlying Try.underlying5
theorem cells_u8 : Try.prog.cellsOf 5 = 1 := by kernel_rfl
theorem part_u8 (w : World) (cs : Array Value) (i : Nat) (n : Int) (h : cs[i]? = some (.int .u8 n)) : (part 5 cs i).run Try.prog w = .ok (.int .u8 n) w := by
  simp [part, Try.isAgg5, h]
theorem key_part0 (w : World) (a b c d : UInt8) : (part 5 #[.int .u8 (a.toNat : Int), .int .u8 (b.toNat : Int), .int .u8 (c.toNat : Int), .int .u8 (d.toNat : Int)] 0).run Try.prog w = .ok (.int .u8 (a.toNat : Int)) w := part_u8 w _ 0 _ rfl
theorem key_part1 (w : World) (a b c d : UInt8) : (part 5 #[.int .u8 (a.toNat : Int), .int .u8 (b.toNat : Int), .int .u8 (c.toNat : Int), .int .u8 (d.toNat : Int)] 1).run Try.prog w = .ok (.int .u8 (b.toNat : Int)) w := part_u8 w _ 1 _ rfl
theorem key_part2 (w : World) (a b c d : UInt8) : (part 5 #[.int .u8 (a.toNat : Int), .int .u8 (b.toNat : Int), .int .u8 (c.toNat : Int), .int .u8 (d.toNat : Int)] 2).run Try.prog w = .ok (.int .u8 (c.toNat : Int)) w := part_u8 w _ 2 _ rfl
theorem key_part3 (w : World) (a b c d : UInt8) : (part 5 #[.int .u8 (a.toNat : Int), .int .u8 (b.toNat : Int), .int .u8 (c.toNat : Int), .int .u8 (d.toNat : Int)] 3).run Try.prog w = .ok (.int .u8 (d.toNat : Int)) w := part_u8 w _ 3 _ rfl
theorem eq_u8 (w : World) (d : Nat) (a b : UInt8) : (Op.equalIn (d + 1) 5 (.int .u8 a.toNat) (.int .u8 b.toNat)).run Try.prog w = .ok (decide (a = b)) w := by
  rw [run_equalIn_int w d _ _ _ _ _ Try.underlying5, u8_eq]
theorem eq_key (w : World) (d : Nat) (x y : K4) : (Op.equalIn (d + 2) 32 x.v y.v).run Try.prog w = .ok (decide (x = y)) w := by
  obtain ⟨i, hi⟩ := info_u8
  obtain ⟨a, b, c, e⟩ := x
  obtain ⟨a', b', c', e'⟩ := y
  simp only [K4.v]
  rw [run_equalIn_array w (d + 1) _ _ Try.underlying32 hi, cells_u8]
  have hr : List.range 4 = [0, 1, 2, 3] := rfl
  simp only [hr, Op.eqItems, Sem.run_bind, Nat.mul_one]
  simp only [key_part0, key_part1, key_part2, key_part3, eq_u8, Result.andThen_ok, Sem.run_ite, Sem.run_bind, Sem.run_pure]
  by_cases h1 : a = a' <;> by_cases h2 : b = b' <;> by_cases h3 : c = c' <;> by_cases h4 : e = e' <;> simp [h1, h2, h3, h4]
theorem ask_key (w : World) (x : K4) : ∀ (es : List MapEntry) (l : List (K4 × Value)) (i : Nat), es.map (fun e => (e.key, e.val)) = l.map (fun p => (K4.v p.1, p.2)) →
    (Instr.findAsking 32 x.v es i).run Try.prog w = .ok (afind x l i) w
  | [], [], _, _ => by simp [Instr.findAsking, afind]
  | [], _ :: _, _, h => by simp at h
  | _ :: _, [], _, h => by simp at h
  | e :: es, p :: l, i, h => by
    simp only [List.map_cons, List.cons.injEq, Prod.mk.injEq] at h
    obtain ⟨⟨h1, h2⟩, h3⟩ := h
    have ih := ask_key w x es l (i + 1) h3
    unfold Instr.findAsking afind
    simp only [Sem.run_bind, Op.equal, Op.maxDepth, h1]
    rw [show (10000 : Nat) = 9998 + 2 from rfl, eq_key]
    by_cases hp : p.1 = x
    · simp [hp, h2]
    · have : ¬ x = p.1 := fun e => hp e.symm
      simp [hp, this, ih]
theorem check_key (b : Bool) (w : World) (x : K4) : (Instr.checkKey b 10000 32 x.v).run Try.prog w = .ok () w := by
  have hs : (sizeOf 5).run Try.prog w = .ok 1 w := Try.sizeOf5 w
  obtain ⟨a, c, d, e⟩ := x
  have hc : ∀ v : UInt8, (Instr.checkKey b 9999 5 (.int .u8 v.toNat)).run Try.prog w = .ok () w := fun v => checkKey_int 9998 Try.underlying5 b w _
  unfold Instr.checkKey
  simp only [Sem.run_bind, run_underlying Try.underlying32, Result.andThen_ok, K4.v]
  simp only [Std.Legacy.Range.forIn_eq_forIn_range', Std.Legacy.Range.size, Nat.sub_zero, Nat.add_one_sub_one, Nat.div_one]
  have hr : List.range' 0 4 = [0, 1, 2, 3] := rfl
  rw [hr]
  simp only [List.forIn_cons, List.forIn_nil, Sem.run_bind, hs, Result.andThen_ok, Nat.mul_one]
  have p0 := part_u8 w #[.int .u8 a.toNat, .int .u8 c.toNat, .int .u8 d.toNat, .int .u8 e.toNat] 0 _ rfl
  have p1 := part_u8 w #[.int .u8 a.toNat, .int .u8 c.toNat, .int .u8 d.toNat, .int .u8 e.toNat] 1 _ rfl
  have p2 := part_u8 w #[.int .u8 a.toNat, .int .u8 c.toNat, .int .u8 d.toNat, .int .u8 e.toNat] 2 _ rfl
  have p3 := part_u8 w #[.int .u8 a.toNat, .int .u8 c.toNat, .int .u8 d.toNat, .int .u8 e.toNat] 3 _ rfl
  simp only [hs, Nat.zero_mul, Nat.one_mul, Nat.mul_one, p0, p1, p2, p3, hc, Result.andThen_ok, Sem.run_pure, Sem.run_bind]
theorem keyK : KeyOK Try.prog 32 K4.v where
  check := check_key
  find := fun w x es l he => by
    have hn : ∀ (es : List MapEntry) (i : Nat), es ≠ [] → Instr.findNow (.array 4 5) x.v es i = none := fun es i h => by
      cases es with
      | nil => exact absurd rfl h
      | cons e es => simp [Instr.findNow, Instr.sameNow]
    cases es with
    | nil =>
      cases l with
      | nil => simp [Instr.findKey, run_underlying Try.underlying32, Instr.findNow, afind]
      | cons _ _ => simp at he
    | cons e es =>
      simp only [Instr.findKey, Sem.run_bind, run_underlying Try.underlying32, Result.andThen_ok, hn (e :: es) 0 (by simp)]
      exact ask_key w x _ l 0 he
  same := fun x => by
    unfold Instr.sameBits
    simp [K4.v, sameBits_int]
theorem eqK (w : World) (x y : K4) : (binOp .eql 32 x.v y.v).run Try.prog w = .ok (.bool (decide (x = y))) w := by
  rw [K4.v, K4.v, run_eql_struct, ← K4.v, ← K4.v, show (10000 : Nat) = 9998 + 2 from rfl, eq_key]; rfl
theorem neK (w : World) (x y : K4) : (binOp .neq 32 x.v y.v).run Try.prog w = .ok (.bool (!decide (x = y))) w := by
  rw [K4.v, K4.v, run_neq_struct, ← K4.v, ← K4.v, show (10000 : Nat) = 9998 + 2 from rfl, eq_key]; rfl
--@@ end
end Go.Proofs.Ytiheoddlknbomaa
