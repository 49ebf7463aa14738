/- The library's stable sort: blocks of twenty by insertion, then merging in place, doubling. -/
import Derived.Test.YtpfgpbafechncaaGreatM1
set_option linter.all false
namespace Go.Proofs.YtpfgpbafechncaaGreat
open Go.RowKit Go.Shelf Go.Lib Go.Sort Go.Proofs
--@@ slices.stableCmpFunc
set_option maxHeartbeats 8000000 in
set_option maxRecDepth 1000000 in
theorem stableCmp_gen {P : Program} (L : SFacts P) (FG : P.funcs[94]? = some Tryz.f94)
    (eI : ∀ args w, (callFunc 114 args).run P w = .ok (.enter 114 args) w)
    (eM : ∀ args w, (callFunc 115 args).run P w = .ok (.enter 115 args) w)
    (k : Nat) {α : Type} [Inhabited α] (enc : α → List Value) (lt : α → α → Bool) (fv : Value) (blk off cap n : Nat) (d : Array α) (w0 w : World)
    (S : SWK enc k w0 blk off d w) (hn : n ≤ d.size) (hsz : d.size < 1000000000000)
    (hin : Hid (∀ (a b : Nat) (dk : Array α) (w' : World), dk.size = d.size → SWK enc k w0 blk off dk w' → a ≤ b → b ≤ d.size →
      Calls P 114 #[.slice (some ⟨blk, off, none⟩) d.size cap, .int .i64 a, .int .i64 b, fv] w' fun e w'' => e = .returned (.tuple #[]) ∧ SWK enc k w0 blk off (insertionSort lt dk a b) w''))
    (hsy : Hid (∀ (f a m b : Nat) (dk : Array α) (w' : World), dk.size = d.size → SWK enc k w0 blk off dk w' → a < m → m < b → b ≤ d.size → b - a ≤ f →
      Calls P 115 #[.slice (some ⟨blk, off, none⟩) d.size cap, .int .i64 a, .int .i64 m, .int .i64 b, fv] w' fun e w'' => e = .returned (.tuple #[]) ∧ SWK enc k w0 blk off (symM lt f dk a m b) w'')) :
    Calls P 94 #[.slice (some ⟨blk, off, none⟩) d.size cap, .int .i64 n, fv] w fun e w' => e = .returned (.tuple #[]) ∧ SWK enc k w0 blk off (stab lt n d) w' := by
  have mixed := L.mixed; have t0 := L.t0; have a0 := L.a0; have z0 := L.z0; have v0 := L.v0; have t3 := L.t3; have a3 := L.a3; have z3 := L.z3; have v3 := L.v3; have t4 := L.t4; have a4 := L.a4; have z4 := L.z4; have v4 := L.v4; have t38 := L.t38; have a38 := L.a38; have z38 := L.z38; have v38 := L.v38; have t69 := L.t69; have a69 := L.a69; have z69 := L.z69; have v69 := L.v69; have t81 := L.t81; have a81 := L.a81; have z81 := L.z81; have v81 := L.v81
  have S0 : Aside (SWK enc k w0 blk off d w) := S
  clear S
  go_enter FG, Tryz.ntmps94
  go_wp2
  go_loopg [7, 8] n (fun kx sa sb wr => ∃ (a : Nat) (dk : Array α), sa = .int .i64 a ∧ sb = .int .i64 ((a + 20 : Nat) : Int) ∧ a ≤ n ∧ n - a ≤ kx ∧ dk.size = d.size ∧ Aside (SWK enc k w0 blk off dk wr) ∧ Aside (blkLoop lt n a dk = blkLoop lt n 0 d))
  case atStart => exact ⟨0, d, by first | rfl | go_num, by first | rfl | go_num, by omega, by omega, rfl, S0, rfl⟩
  case round =>
    clear S0
    obtain ⟨a, dk, rfl, rfl, han, hkx, hds, S1, heq⟩ := hrel
    by_cases hlt : a + 20 ≤ n
    · have hltz : ((a + 20 : Nat) : Int) ≤ (n : Int) := by omega
      go_wp2_with (go_at_fn 114; refine (hin.out a (a + 20) dk _ hds S1.out (by omega) (by omega)).mono ?_; rintro e w2 ⟨rfl, S2⟩; have S3 : Aside _ := S2; clear S2)
      go_roundg (n - (a + 20))
      case measure => omega
      case rel =>
        have he := heq.out
        rw [blkLoop, if_pos hlt] at he
        exact ⟨a + 20, _, rfl, by first | rfl | go_num | (congr 1; omega), hlt, Nat.le_refl _, by rw [size_insertionSort']; exact hds, S3, he⟩
    · have hltz : (n : Int) < ((a + 20 : Nat) : Int) := by omega
      have he := heq.out
      rw [blkLoop, if_neg hlt] at he
      have HE : Aside (insertionSort lt dk a n = blkLoop lt n 0 d) := he
      clear he heq
      go_wp2_with (go_at_fn 114; refine (hin.out a n dk _ hds S1.out (by omega) hn).mono ?_; rintro e w2 ⟨rfl, S2⟩)
      rw [HE.out] at S2
      have S3 : Aside _ := S2
      clear S2 HE hltz hlt S1 hkx hds
      go_loopg [6, 7, 8, 9] n (fun kx ss sa sb sm wr => ∃ (s : Nat) (dj : Array α), ss = .int .i64 s ∧ 0 < s ∧ s ≤ n + n + 20 ∧ n - s ≤ kx ∧ dj.size = d.size ∧ Aside (SWK enc k w0 blk off dj wr) ∧ Aside (mergeLoop lt n s dj = stab lt n d))
      case atStart => exact ⟨20, blkLoop lt n 0 d, by first | rfl | go_num, by omega, by omega, by omega, size_blkLoop _ _ _ _, S3, rfl⟩
      case round =>
        clear S3
        obtain ⟨s, dj, rfl, hs0, hsn, hkx, hds, S4, heq2⟩ := hrel
        by_cases hlt : s < n
        · have hltz : (s : Int) < (n : Int) := by omega
          have h2s : IntKind.i64.wrap (2 * (s : Int)) = 2 * (s : Int) := by rw [IntKind.wrap_i64]; omega
          go_wp2
          go_loopg [7, 8] n (fun kx sa sb wr => ∃ (a b : Nat) (dk : Array α), sa = .int .i64 a ∧ sb = .int .i64 b ∧ (b ≤ a + 2 * s ∧ a + 2 * s ≤ b) ∧ a ≤ n ∧ n - a ≤ kx ∧ dk.size = d.size ∧ Aside (SWK enc k w0 blk off dk wr) ∧ Aside (mergePass lt s n a dk = mergePass lt s n 0 dj))
          case atStart => exact ⟨0, 2 * s, dj, by first | rfl | go_num, by first | rfl | go_num | (congr 1; omega), by omega, by omega, by omega, hds, S4, rfl⟩
          case round =>
            clear S4
            obtain ⟨a, b, dk, rfl, rfl, hab, han, hkx3, hds3, S5, heq3⟩ := hrel
            obtain ⟨q, hq⟩ : ∃ q : Nat, q = a + s := ⟨_, rfl⟩
            have has : (a : Int) + (s : Int) = (q : Int) := by omega
            have hqs : a + s ≤ q ∧ q ≤ a + s := by omega
            have HQ : Aside (q = a + s) := hq
            clear hq
            have HB : Aside (b = a + 2 * s) := by show _ = _; omega
            by_cases hlt3 : b ≤ n
            · have hltz3 : (b : Int) ≤ (n : Int) := by omega
              go_wp2_with (go_at_fn 115; refine (hsy.out (2 * s) a q b dk _ hds3 S5.out (by omega) (by omega) (by omega) (by omega)).mono ?_; rintro e w2 ⟨rfl, S6⟩; have S7 : Aside _ := S6; clear S6)
              go_roundg (n - b)
              case measure => omega
              case rel =>
                have he := heq3.out
                rw [mergePass, if_pos ⟨hs0, by omega⟩, ← HB.out, ← HQ.out] at he
                exact ⟨b, b + 2 * s, _, rfl, by first | rfl | go_num | (congr 1; omega), by omega, hlt3, Nat.le_refl _, by rw [size_symM]; exact hds3, S7, he⟩
            · have hltz3 : (n : Int) < (b : Int) := by omega
              by_cases hm : q < n
              · have hmz : (q : Int) < (n : Int) := by omega
                go_wp2_with (go_at_fn 115; refine (hsy.out (n - a) a q n dk _ hds3 S5.out (by omega) (by omega) (by omega) (by omega)).mono ?_; rintro e w2 ⟨rfl, S6⟩; have S7 : Aside _ := S6; clear S6)
                go_roundg (n - 2 * s)
                case measure => omega
                case rel =>
                  have he := heq3.out
                  rw [mergePass, if_neg (by omega), ← HQ.out, if_pos hm] at he
                  have he2 := heq2.out
                  rw [mergeLoop, if_pos ⟨hs0, hlt⟩, ← he] at he2
                  exact ⟨2 * s, _, by first | rfl | go_num | (congr 1; omega), by omega, by omega, Nat.le_refl _, by rw [size_symM]; exact hds3, S7, he2⟩
              · have hmz : (n : Int) ≤ (q : Int) := by omega
                go_wp2
                go_roundg (n - 2 * s)
                case measure => omega
                case rel =>
                  have he := heq3.out
                  rw [mergePass, if_neg (by omega), ← HQ.out, if_neg hm] at he
                  have he2 := heq2.out
                  rw [mergeLoop, if_pos ⟨hs0, hlt⟩, ← he] at he2
                  exact ⟨2 * s, _, by first | rfl | go_num | (congr 1; omega), by omega, by omega, Nat.le_refl _, hds3, S5, he2⟩
        · have hltz : (n : Int) ≤ (s : Int) := by omega
          go_wp2
          go_end0
          refine ⟨rfl, ?_⟩
          have he := heq2.out
          rw [mergeLoop, if_neg (fun h => hlt h.2)] at he
          rw [← he]
          exact S4.out
--@@ end
end Go.Proofs.YtpfgpbafechncaaGreat
