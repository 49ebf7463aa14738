/- The library's stable sort of pairs: exchanges of two stretches, rotation, merging in place. -/
import Derived.Test.YthidbnjijomlmaaPairs
import Derived.Test.YthidbnjijomlmaaSym
import Derived.Shelf.SlSortCmp.KitK
import Derived.Sort.WalkB2
import Derived.Sort.WalkB12
import Derived.Deep.LoopGhost
import Derived.Shelf.RegionOpenPlain
set_option linter.all false
namespace Go.Proofs.Ythidbnjijomlmaa
open Go.RowKit Go.Shelf Go.Lib Go.Sort Go.Proofs
set_option linter.unusedVariables false
set_option linter.unusedSimpArgs false

--@@ slices.stable facts
/-- what the walks ask of a program: their types -/
structure SFacts (P : Program) : Prop where
  mixed : P.follows .mixedOrders = true
  t0 : P.underlying 0 = some (TypeDesc.tuple #[])
  a0 : ∀ w, (isAgg 0).run P w = .ok false w
  z0 : ∀ w, (Go.sizeOf 0).run P w = .ok 1 w
  v0 : ∀ w, (zeroValue 0).run P w = .ok (Value.tuple #[]) w
  t3 : P.underlying 3 = some (TypeDesc.int IntKind.i64)
  a3 : ∀ w, (isAgg 3).run P w = .ok false w
  z3 : ∀ w, (Go.sizeOf 3).run P w = .ok 1 w
  v3 : ∀ w, (zeroValue 3).run P w = .ok (Value.int IntKind.i64 0) w
  t4 : P.underlying 4 = some (TypeDesc.bool)
  a4 : ∀ w, (isAgg 4).run P w = .ok false w
  z4 : ∀ w, (Go.sizeOf 4).run P w = .ok 1 w
  v4 : ∀ w, (zeroValue 4).run P w = .ok (Value.bool false) w
  t38 : P.underlying 38 = some (TypeDesc.slice 54)
  a38 : ∀ w, (isAgg 38).run P w = .ok false w
  z38 : ∀ w, (Go.sizeOf 38).run P w = .ok 1 w
  v38 : ∀ w, (zeroValue 38).run P w = .ok (Value.slice none 0 0) w
  t69 : P.underlying 69 = some (TypeDesc.func #[54, 54] #[3] false)
  a69 : ∀ w, (isAgg 69).run P w = .ok false w
  z69 : ∀ w, (Go.sizeOf 69).run P w = .ok 1 w
  v69 : ∀ w, (zeroValue 69).run P w = .ok (Value.nilFunc) w
  t81 : P.underlying 81 = some (TypeDesc.int IntKind.u64)
  a81 : ∀ w, (isAgg 81).run P w = .ok false w
  z81 : ∀ w, (Go.sizeOf 81).run P w = .ok 1 w
  v81 : ∀ w, (zeroValue 81).run P w = .ok (Value.int IntKind.u64 0) w
theorem sfacts : SFacts Try.prog where
  mixed := by kernel_rfl
  t0 := by kernel_rfl
  a0 := fun w => by kernel_rfl
  z0 := fun w => by kernel_rfl
  v0 := fun w => by kernel_rfl
  t3 := by kernel_rfl
  a3 := fun w => by kernel_rfl
  z3 := fun w => by kernel_rfl
  v3 := fun w => by kernel_rfl
  t4 := by kernel_rfl
  a4 := fun w => by kernel_rfl
  z4 := fun w => by kernel_rfl
  v4 := fun w => by kernel_rfl
  t38 := by kernel_rfl
  a38 := fun w => by kernel_rfl
  z38 := fun w => by kernel_rfl
  v38 := fun w => by kernel_rfl
  t69 := by kernel_rfl
  a69 := fun w => by kernel_rfl
  z69 := fun w => by kernel_rfl
  v69 := fun w => by kernel_rfl
  t81 := by kernel_rfl
  a81 := fun w => by kernel_rfl
  z81 := fun w => by kernel_rfl
  v81 := fun w => by kernel_rfl
--@@ slices.swapRangeCmpFunc
set_option maxHeartbeats 4000000 in
set_option maxRecDepth 1000000 in
theorem swapRange_gen {P : Program} (L : SFacts P) (FG : P.funcs[71]? = some Try.f71) (k : Nat) (aE : ∀ w, (isAgg 54).run P w = .ok true w) (zE : ∀ w, (Go.sizeOf 54).run P w = .ok k w) {α : Type} [Inhabited α] (enc : α → List Value) (cf : Value) (blk off cap a b n : Nat) (d0 d : Array α) (w0 w : World)
    (R : RowK enc k w0 blk off d0) (hs : d0.size = d.size) (S : SWK enc k w0 blk off d w) (ha : a + n ≤ d.size) (hb : b + n ≤ d.size) (hsz : d.size < 4611686018427387904) :
    Calls P 71 #[.slice (some ⟨blk, off, none⟩) d.size cap, .int .i64 a, .int .i64 b, .int .i64 n, cf] w fun e w' => e = .returned (.tuple #[]) ∧ SWK enc k w0 blk off (swapLoop a b n 0 d) w' := by
  have mixed := L.mixed; have t0 := L.t0; have a0 := L.a0; have z0 := L.z0; have v0 := L.v0; have t3 := L.t3; have a3 := L.a3; have z3 := L.z3; have v3 := L.v3; have t4 := L.t4; have a4 := L.a4; have z4 := L.z4; have v4 := L.v4; have t38 := L.t38; have a38 := L.a38; have z38 := L.z38; have v38 := L.v38; have t69 := L.t69; have a69 := L.a69; have z69 := L.z69; have v69 := L.v69; have t81 := L.t81; have a81 := L.a81; have z81 := L.z81; have v81 := L.v81
  have S0 : Aside (SWK enc k w0 blk off d w) := S
  clear S
  go_enter FG, Try.ntmps71
  go_wp2
  go_loopg [10] n (fun kx s10 wr => ∃ (i : Nat) (dk : Array α), s10 = .int .i64 i ∧ i ≤ n ∧ n - i ≤ kx ∧ dk.size = d.size ∧ Aside (SWK enc k w0 blk off dk wr) ∧ swapLoop a b n i dk = swapLoop a b n 0 d)
  case atStart => exact ⟨0, d, rfl, by omega, by omega, rfl, S0, rfl⟩
  case round =>
    clear S0
    obtain ⟨i, dk, rfl, hi, hkx, hds, S1, heq⟩ := hrel
    by_cases hlt : i < n
    · have hltz : (i : Int) < (n : Int) := by omega
      go_wp2_with fail
      have ea1 : ((a : Int) + (i : Int)).toNat = a + i := by omega
      have pa1 : (0 : Int) ≤ (a : Int) + (i : Int) := by omega
      have ba1 : (a : Int) + (i : Int) < (d.size : Int) := by omega
      have ra1 : IntKind.i64.wrap ((a : Int) + (i : Int)) = (a : Int) + (i : Int) := by rw [IntKind.wrap_i64]; omega
      have ec1 : ((b : Int) + (i : Int)).toNat = b + i := by omega
      have pc1 : (0 : Int) ≤ (b : Int) + (i : Int) := by omega
      have bc1 : (b : Int) + (i : Int) < (d.size : Int) := by omega
      have rc1 : IntKind.i64.wrap ((b : Int) + (i : Int)) = (b : Int) + (i : Int) := by rw [IntKind.wrap_i64]; omega
      have S2 : Aside (SWK enc k w0 blk off (swp dk (a + i) (b + i)) ((wr.drew.setCells blk (off + (a + i) * k) (enc dk[b + i]!)).setCells blk (off + (b + i) * k) (enc dk[a + i]!))) := S1.out.swapped R (a + i) (b + i) (by omega) (by omega)
      have l1a := S1.out.ld1 R (by omega) P (a + i) (by omega)
      have l1b := S1.out.ld1 R (by omega) P (b + i) (by omega)
      have s1a := S1.out.st1 R (by omega) P (a + i) (by omega) dk[b + i]!
      have s1b := S1.out.st2 R (by omega) P (a + i) (b + i) (by omega) (by omega) dk[b + i]! dk[a + i]!
      have n1a : (enc dk[a + i]!).length = k := R.hk _
      have n1b : (enc dk[b + i]!).length = k := R.hk _
      generalize enc dk[a + i]! = cI1 at S2 l1a s1b n1a
      generalize enc dk[b + i]! = cJ1 at S2 l1b s1a s1b n1b
      clear S1
      go_wp2_with fail
      go_big_region_o
      clear l1a l1b s1a s1b
      generalize (wr.drew.setCells blk (off + (a + i) * k) cJ1).setCells blk (off + (b + i) * k) cI1 = w2 at S2 ⊢
      go_wp2
      go_roundg (n - (i + 1))
      case measure => omega
      case rel =>
        rw [swapLoop, if_pos hlt] at heq
        exact ⟨i + 1, swp dk (a + i) (b + i), by go_num, by omega, by omega, by rw [size_swp]; exact hds, S2, heq⟩
    · have hnot : ¬ (i : Int) < (n : Int) := by omega
      go_wp2
      go_end0
      refine ⟨rfl, ?_⟩
      rw [swapLoop, if_neg hlt] at heq
      rw [← heq]
      exact S1.out
--@@ slices.rotateCmpFunc
set_option maxHeartbeats 4000000 in
set_option maxRecDepth 1000000 in
theorem rotate_gen {P : Program} (L : SFacts P) (FG : P.funcs[69]? = some Try.f69) (FS : P.funcs[71]? = some Try.f71)
    (k : Nat) (aE : ∀ w, (isAgg 54).run P w = .ok true w) (zE : ∀ w, (Go.sizeOf 54).run P w = .ok k w) {α : Type} [Inhabited α] (enc : α → List Value) (cf : Value) (blk off cap a m b : Nat) (d0 d : Array α) (w0 w : World)
    (R : RowK enc k w0 blk off d0) (hs : d0.size = d.size) (S : SWK enc k w0 blk off d w) (ham : a < m) (hmb : m < b) (hb : b ≤ d.size) (hsz : d.size < 4611686018427387904) :
    Calls P 69 #[.slice (some ⟨blk, off, none⟩) d.size cap, .int .i64 a, .int .i64 m, .int .i64 b, cf] w fun e w' => e = .returned (.tuple #[]) ∧ SWK enc k w0 blk off (rotLoop m (m - a) (b - m) d) w' := by
  have hsw : Hid (∀ (x y n : Nat) (dk : Array α) (w : World), dk.size = d.size → SWK enc k w0 blk off dk w → x + n ≤ d.size → y + n ≤ d.size →
      Calls P 71 #[.slice (some ⟨blk, off, none⟩) d.size cap, .int .i64 x, .int .i64 y, .int .i64 n, cf] w fun e w' => e = .returned (.tuple #[]) ∧ SWK enc k w0 blk off (swapLoop x y n 0 dk) w') := fun x y n dk w h1 h2 h3 h4 => by
    have := swapRange_gen L FS k aE zE enc cf blk off cap x y n d0 dk w0 w R (by omega) h2 (by omega) (by omega) (by omega)
    rw [h1] at this; exact this
  have eS : ∀ args w, (callFunc 71 args).run P w = .ok (.enter 71 args) w := enters_of FS (by kernel_rfl) rfl
  have mixed := L.mixed; have t0 := L.t0; have a0 := L.a0; have z0 := L.z0; have v0 := L.v0; have t3 := L.t3; have a3 := L.a3; have z3 := L.z3; have v3 := L.v3; have t4 := L.t4; have a4 := L.a4; have z4 := L.z4; have v4 := L.v4; have t38 := L.t38; have a38 := L.a38; have z38 := L.z38; have v38 := L.v38; have t69 := L.t69; have a69 := L.a69; have z69 := L.z69; have v69 := L.v69; have t81 := L.t81; have a81 := L.a81; have z81 := L.z81; have v81 := L.v81
  have S0 : Aside (SWK enc k w0 blk off d w) := S
  clear S
  have hwa : IntKind.i64.wrap ((m : Int) - (a : Int)) = ((m - a : Nat) : Int) := by rw [IntKind.wrap_i64]; omega
  have hwb : IntKind.i64.wrap ((b : Int) - (m : Int)) = ((b - m : Nat) : Int) := by rw [IntKind.wrap_i64]; omega
  go_enter FG, Try.ntmps69
  go_wp2
  go_loopg [10, 11] b (fun kx s10 s11 wr => ∃ (i j : Nat) (dk : Array α), s10 = .int .i64 i ∧ s11 = .int .i64 j ∧ 0 < i ∧ 0 < j ∧ i ≤ m ∧ m + j ≤ b ∧ i + j ≤ kx ∧ dk.size = d.size ∧ Aside (SWK enc k w0 blk off dk wr) ∧ Aside (rotLoop m i j dk = rotLoop m (m - a) (b - m) d))
  case atStart => exact ⟨m - a, b - m, d, by first | rfl | go_num, by first | rfl | go_num, by omega, by omega, by omega, by omega, by omega, rfl, S0, rfl⟩
  case round =>
    clear S0
    obtain ⟨i, j, dk, rfl, rfl, hi, hj, him, hjb, hkx, hds, S1, heq⟩ := hrel
    clear hwa hwb
    have hw1 : IntKind.i64.wrap ((m : Int) - (i : Int)) = ((m - i : Nat) : Int) := by rw [IntKind.wrap_i64]; omega
    rcases Nat.lt_trichotomy i j with hlt | hlt | hlt
    · have hne : ¬ (i : Int) = (j : Int) := by omega
      have hng : (i : Int) ≤ (j : Int) := by omega
      have hw2 : (m : Int) + (j : Int) - (i : Int) = ((m + j - i : Nat) : Int) := by omega
      have hw3 : IntKind.i64.wrap ((j : Int) - (i : Int)) = ((j - i : Nat) : Int) := by rw [IntKind.wrap_i64]; omega
      go_wp2_with (go_at_fn 71; refine (hsw.out (m - i) (m + j - i) i dk _ hds S1.out (by omega) (by omega)).mono ?_; rintro e w2 ⟨rfl, S2⟩; have S3 : Aside _ := S2; clear S2)
      go_roundg (i + (j - i))
      case measure => omega
      case rel =>
        have he := heq.out
        rw [rotLoop, if_neg (by omega), if_neg (by omega)] at he
        exact ⟨i, j - i, _, rfl, rfl, hi, by omega, him, by omega, Nat.le_refl _, by rw [size_swapLoop]; exact hds, S3, he⟩
    · subst hlt
      go_wp2_with (go_at_fn 71; refine (hsw.out (m - i) m i dk _ hds S1.out (by omega) (by omega)).mono ?_; rintro e w2 ⟨rfl, S2⟩)
      go_end0
      refine ⟨rfl, ?_⟩
      have he := heq.out
      rw [rotLoop, if_pos (.inl rfl)] at he
      rw [← he]; exact S2
    · have hne : ¬ (i : Int) = (j : Int) := by omega
      have hng : (j : Int) < (i : Int) := by omega
      have hw3 : IntKind.i64.wrap ((i : Int) - (j : Int)) = ((i - j : Nat) : Int) := by rw [IntKind.wrap_i64]; omega
      have hw4 : (i : Int) - (j : Int) = ((i - j : Nat) : Int) := by omega
      go_wp2_with (go_at_fn 71; refine (hsw.out (m - i) m j dk _ hds S1.out (by omega) (by omega)).mono ?_; rintro e w2 ⟨rfl, S2⟩; have S3 : Aside _ := S2; clear S2)
      go_roundg (i - j + j)
      case measure => omega
      case rel =>
        have he := heq.out
        rw [rotLoop, if_neg (by omega), if_pos hlt] at he
        exact ⟨i - j, j, _, rfl, rfl, by omega, hj, by omega, by omega, Nat.le_refl _, by rw [size_swapLoop]; exact hds, S3, he⟩
--@@ end
end Go.Proofs.Ythidbnjijomlmaa
