/- Merging in place: the library's symMerge. -/
import Derived.Test.YtpcpeoejcnndhaaGreatM1
set_option linter.all false
namespace Go.Proofs.YtpcpeoejcnndhaaGreat
open Go.RowKit Go.Shelf Go.Lib Go.Sort Go.Proofs
--@@ slices.symMergeCmpFunc
set_option maxHeartbeats 32000000 in
set_option maxRecDepth 1000000 in
theorem symMerge1_gen {P : Program} (L : SFacts P) (FG : P.funcs[115]? = some Tryz.f115) (FR : P.funcs[119]? = some Tryz.f119) (FS : P.funcs[120]? = some Tryz.f120)
    (k : Nat) (aE : ∀ w, (isAgg 57).run P w = .ok true w) (zE : ∀ w, (Go.sizeOf 57).run P w = .ok k w) {α : Type} [Inhabited α] (enc : α → List Value) (cf : α → α → Int) (g : Nat) (cb : Array Value) (blk off cap a m b f : Nat) (d0 d : Array α) (w0 w : World)
    (eg : ∀ args w, (callFunc g args).run P w = .ok (.enter g args) w) (hcmp : CmpLays P g cb enc k cf blk off d0.size w0) (R : RowK enc k w0 blk off d0) (hs : d0.size = d.size) (S : SWK enc k w0 blk off d w) (ham : a < m) (hmb : m < b) (hb : b ≤ d.size) (hsz : d.size < 4611686018427387904) (hm1 : m - a = 1) :
    Calls P 115 #[.slice (some ⟨blk, off, none⟩) d.size cap, .int .i64 a, .int .i64 m, .int .i64 b, .func (.func g) #[] cb] w fun e w' => e = .returned (.tuple #[]) ∧ SWK enc k w0 blk off (symM (ltOf cf) (f + 1) d a m b) w' := by
  have mixed := L.mixed; have t0 := L.t0; have a0 := L.a0; have z0 := L.z0; have v0 := L.v0; have t3 := L.t3; have a3 := L.a3; have z3 := L.z3; have v3 := L.v3; have t4 := L.t4; have a4 := L.a4; have z4 := L.z4; have v4 := L.v4; have t38 := L.t38; have a38 := L.a38; have z38 := L.z38; have v38 := L.v38; have t69 := L.t69; have a69 := L.a69; have z69 := L.z69; have v69 := L.v69; have t81 := L.t81; have a81 := L.a81; have z81 := L.z81; have v81 := L.v81
  have u3 := run_underlying L.t3; have u81 := run_underlying L.t81; have u38 := run_underlying L.t38; have u4 := run_underlying L.t4
  have S0 : Aside (SWK enc k w0 blk off d w) := S
  have HC : Aside _ := hcmp
  clear S hcmp
  have hwa : IntKind.i64.wrap ((m : Int) - (a : Int)) = ((m - a : Nat) : Int) := by rw [IntKind.wrap_i64]; omega
  have hwb : IntKind.i64.wrap ((b : Int) - (m : Int)) = ((b - m : Nat) : Int) := by rw [IntKind.wrap_i64]; omega
  have hm1z : ((m - a : Nat) : Int) = 1 := by omega
  obtain ⟨p, hp⟩ : ∃ p : Nat → Bool, p = fun h => ltOf cf d[h]! d[a]! := ⟨_, rfl⟩
  have HP : Aside (p = fun h => ltOf cf d[h]! d[a]!) := hp
  have PQ : Aside (p = fun h => ltOf cf d[h]! d[a]!) := hp
  clear hp
  go_enter FG, Tryz.ntmps115
  go_wp2
  go_loopg [10, 11] (b) (fun kx si sj wr => ∃ (i j : Nat), si = .int .i64 i ∧ sj = .int .i64 j ∧ m ≤ i ∧ i ≤ j ∧ j ≤ b ∧ j - i ≤ kx ∧ Aside (SWK enc k w0 blk off d wr) ∧ Aside (bs p i j = bs p (m) (b)))
  case atStart => exact ⟨m, b, by first | rfl | go_num, by first | rfl | go_num, by omega, by omega, by omega, by omega, S0, rfl⟩
  case round =>
    clear S0
    obtain ⟨i, j, rfl, rfl, hli, hij, hjh, hkx, S1, heq⟩ := hrel
    by_cases hlt : i < j
    · obtain ⟨h, hh⟩ : ∃ h : Nat, h = (i + j) / 2 := ⟨_, rfl⟩
      have hhz : ((i : Int) + (j : Int)) / 2 = (h : Int) := by omega
      have hh1 : i ≤ h := by omega
      have hh2 : h < j := by omega
      have hltz : (i : Int) < (j : Int) := by omega
      have HH : Aside (h = (i + j) / 2) := hh
      clear hh
      have eX : ((h : Int)).toNat = h := by omega
      have pX : (0 : Int) ≤ (h : Int) := by omega
      have bX : (h : Int) < (d.size : Int) := by omega
      have rX : IntKind.i64.wrap ((h : Int)) = (h : Int) := by rw [IntKind.wrap_i64]; omega
      have eY : ((a : Int)).toNat = a := by omega
      have pY : (0 : Int) ≤ (a : Int) := by omega
      have bY : (a : Int) < (d.size : Int) := by omega
      have rY : IntKind.i64.wrap ((a : Int)) = (a : Int) := by rw [IntKind.wrap_i64]; omega
      obtain ⟨x, hx⟩ : ∃ x, x = d[h]! := ⟨_, rfl⟩
      obtain ⟨y, hy⟩ : ∃ x, x = d[a]! := ⟨_, rfl⟩
      have la := S1.out.ld R (by omega) P (h) (by omega)
      have lb := S1.out.ld R (by omega) P (a) (by omega)
      rw [← hx] at la
      rw [← hy] at lb
      cases hlv : ltOf cf d[h]! d[a]! with
      | true =>
        have hc := S1.out.cmp HC.out (by omega) x y
        have hv : cf x y < 0 := by rw [hx, hy]; exact of_decide_eq_true hlv
        have hd : decide (cf x y < 0) = true := decide_eq_true hv
        have HLV : Aside (p h = true) := by show p h = _; rw [HP.out]; simp [hlv]
        clear hx hy hlv
        go_wp2_with fail
        go_quiet_grown (first | (go_at_fn g; refine Calls.grown_of (hc _ _)))
        have S2 : Aside (SWK enc k w0 blk off d (grow (wr.drewN nq) osq)) := S1.out.grown nq osq
        clear la lb hc S1
        generalize grow (wr.drewN nq) osq = w2 at S2 ⊢
        clear nq osq
        go_wp2
        go_roundg (j - (h + 1))
        case measure => omega
        case rel =>
          have he := heq.out
          rw [bs, if_pos hlt, ← HH.out, HLV.out, if_pos rfl] at he
          exact ⟨h + 1, j, by first | rfl | go_num, by first | rfl | go_num, by omega, by omega, by omega, by omega, S2, he⟩
      | false =>
        have hc := S1.out.cmp HC.out (by omega) x y
        have hv : ¬ cf x y < 0 := by rw [hx, hy]; exact of_decide_eq_false hlv
        have hd : decide (cf x y < 0) = false := decide_eq_false hv
        have HLV : Aside (p h = false) := by show p h = _; rw [HP.out]; simp [hlv]
        clear hx hy hlv
        go_wp2_with fail
        go_quiet_grown (first | (go_at_fn g; refine Calls.grown_of (hc _ _)))
        have S2 : Aside (SWK enc k w0 blk off d (grow (wr.drewN nq) osq)) := S1.out.grown nq osq
        clear la lb hc S1
        generalize grow (wr.drewN nq) osq = w2 at S2 ⊢
        clear nq osq
        go_wp2
        go_roundg (h - i)
        case measure => omega
        case rel =>
          have he := heq.out
          rw [bs, if_pos hlt, ← HH.out, HLV.out, if_neg (by simp)] at he
          exact ⟨i, h, by first | rfl | go_num, by first | rfl | go_num, by omega, by omega, by omega, by omega, S2, he⟩
    · obtain rfl : i = j := by omega
      have hltz : ¬ (i : Int) < (i : Int) := by omega
      have HI : Aside (i = bs p (m) (b)) := by show _ = _; rw [← heq.out, bs, if_neg (by omega)]
      clear heq
      have S3 : Aside (SWK enc k w0 blk off d wr) := S1.out
      clear S1
      have hie : IntKind.i64.wrap ((i : Int) - 1) = ((i - 1 : Nat) : Int) := by rw [IntKind.wrap_i64]; omega
      have hie2 : (i : Int) - 1 = ((i - 1 : Nat) : Int) := by omega
      go_wp2
      go_loopg [13] (i) (fun kx sx wr => ∃ (x : Nat) (dk : Array α), sx = .int .i64 x ∧ a ≤ x ∧ (x ≤ i - 1) ∧ i - 1 - x ≤ kx ∧ dk.size = d.size ∧ Aside (SWK enc k w0 blk off dk wr) ∧ Aside (upLoop (i - 1) x dk = upLoop (i - 1) a d))
      case atStart => exact ⟨a, d, rfl, by omega, by omega, by omega, rfl, S3, rfl⟩
      case round =>
        clear S3
        obtain ⟨x, dk, rfl, hax, hxi, hkx2, hds, S4, heq2⟩ := hrel
        by_cases hlt2 : x < i - 1
        · have hltz2 : (x : Int) < ((i - 1 : Nat) : Int) := by omega
          have eA : ((x : Int)).toNat = x := by omega
          have pA : (0 : Int) ≤ (x : Int) := by omega
          have bA : (x : Int) < (d.size : Int) := by omega
          have rA : IntKind.i64.wrap ((x : Int)) = (x : Int) := by rw [IntKind.wrap_i64]; omega
          have eB : ((x : Int) + 1).toNat = x + 1 := by omega
          have pB : (0 : Int) ≤ (x : Int) + 1 := by omega
          have bB : (x : Int) + 1 < (d.size : Int) := by omega
          have rB : IntKind.i64.wrap ((x : Int) + 1) = (x : Int) + 1 := by rw [IntKind.wrap_i64]; omega
          have S5 : Aside (SWK enc k w0 blk off (swp dk (x) (x + 1)) ((wr.drew.setCells blk (off + (x) * k) (enc dk[x + 1]!)).setCells blk (off + (x + 1) * k) (enc dk[x]!))) := S4.out.swapped R (x) (x + 1) (by omega) (by omega)
          have la := S4.out.ld1 R (by omega) P (x) (by omega)
          have lb := S4.out.ld1 R (by omega) P (x + 1) (by omega)
          have sa := S4.out.st1 R (by omega) P (x) (by omega) dk[x + 1]!
          have sb := S4.out.st2 R (by omega) P (x) (x + 1) (by omega) (by omega) dk[x + 1]! dk[x]!
          have na : (enc dk[x]!).length = k := R.hk _
          have nb : (enc dk[x + 1]!).length = k := R.hk _
          generalize enc dk[x]! = cI at S5 la sb na
          generalize enc dk[x + 1]! = cJ at S5 lb sa sb nb
          clear S4
          go_wp2_with fail
          go_big_region_o
          clear la lb sa sb
          generalize (wr.drew.setCells blk (off + (x) * k) cJ).setCells blk (off + (x + 1) * k) cI = w5 at S5 ⊢
          go_wp2
          go_roundg (i - 1 - (x + 1))
          case measure => omega
          case rel =>
            have he := heq2.out
            rw [upLoop, if_pos hlt2] at he
            exact ⟨x + 1, swp dk x (x + 1), by first | rfl | go_num, by omega, by omega, by omega, by rw [size_swp]; exact hds, S5, he⟩
        · have hltz2 : ¬ (x : Int) < ((i - 1 : Nat) : Int) := by omega
          go_wp2
          go_returns
          refine ⟨rfl, ?_⟩
          have he := heq2.out
          rw [upLoop, if_neg hlt2] at he
          rw [symM, if_pos hm1, ← PQ.out, ← HI.out, ← he]
          exact S4.out
set_option maxHeartbeats 32000000 in
set_option maxRecDepth 1000000 in
theorem symMerge2_gen {P : Program} (L : SFacts P) (FG : P.funcs[115]? = some Tryz.f115) (FR : P.funcs[119]? = some Tryz.f119) (FS : P.funcs[120]? = some Tryz.f120)
    (k : Nat) (aE : ∀ w, (isAgg 57).run P w = .ok true w) (zE : ∀ w, (Go.sizeOf 57).run P w = .ok k w) {α : Type} [Inhabited α] (enc : α → List Value) (cf : α → α → Int) (g : Nat) (cb : Array Value) (blk off cap a m b f : Nat) (d0 d : Array α) (w0 w : World)
    (eg : ∀ args w, (callFunc g args).run P w = .ok (.enter g args) w) (hcmp : CmpLays P g cb enc k cf blk off d0.size w0) (R : RowK enc k w0 blk off d0) (hs : d0.size = d.size) (S : SWK enc k w0 blk off d w) (ham : a < m) (hmb : m < b) (hb : b ≤ d.size) (hsz : d.size < 4611686018427387904) (hm1 : ¬ m - a = 1) (hb1 : b - m = 1) :
    Calls P 115 #[.slice (some ⟨blk, off, none⟩) d.size cap, .int .i64 a, .int .i64 m, .int .i64 b, .func (.func g) #[] cb] w fun e w' => e = .returned (.tuple #[]) ∧ SWK enc k w0 blk off (symM (ltOf cf) (f + 1) d a m b) w' := by
  have mixed := L.mixed; have t0 := L.t0; have a0 := L.a0; have z0 := L.z0; have v0 := L.v0; have t3 := L.t3; have a3 := L.a3; have z3 := L.z3; have v3 := L.v3; have t4 := L.t4; have a4 := L.a4; have z4 := L.z4; have v4 := L.v4; have t38 := L.t38; have a38 := L.a38; have z38 := L.z38; have v38 := L.v38; have t69 := L.t69; have a69 := L.a69; have z69 := L.z69; have v69 := L.v69; have t81 := L.t81; have a81 := L.a81; have z81 := L.z81; have v81 := L.v81
  have u3 := run_underlying L.t3; have u81 := run_underlying L.t81; have u38 := run_underlying L.t38; have u4 := run_underlying L.t4
  have S0 : Aside (SWK enc k w0 blk off d w) := S
  have HC : Aside _ := hcmp
  clear S hcmp
  have hwa : IntKind.i64.wrap ((m : Int) - (a : Int)) = ((m - a : Nat) : Int) := by rw [IntKind.wrap_i64]; omega
  have hwb : IntKind.i64.wrap ((b : Int) - (m : Int)) = ((b - m : Nat) : Int) := by rw [IntKind.wrap_i64]; omega
  have hm1z : ((((m - a : Nat) : Int)) == 1) = false := by simp; omega
  have hb1z : ((b - m : Nat) : Int) = 1 := by omega
  obtain ⟨p, hp⟩ : ∃ p : Nat → Bool, p = fun h => !ltOf cf d[m]! d[h]! := ⟨_, rfl⟩
  have HP : Aside (p = fun h => !ltOf cf d[m]! d[h]!) := hp
  have PQ : Aside (p = fun h => !ltOf cf d[m]! d[h]!) := hp
  clear hp
  go_enter FG, Tryz.ntmps115
  go_wp2
  go_loopg [14, 15] (m) (fun kx si sj wr => ∃ (i j : Nat), si = .int .i64 i ∧ sj = .int .i64 j ∧ a ≤ i ∧ i ≤ j ∧ j ≤ m ∧ j - i ≤ kx ∧ Aside (SWK enc k w0 blk off d wr) ∧ Aside (bs p i j = bs p (a) (m)))
  case atStart => exact ⟨a, m, by first | rfl | go_num, by first | rfl | go_num, by omega, by omega, by omega, by omega, S0, rfl⟩
  case round =>
    clear S0
    obtain ⟨i, j, rfl, rfl, hli, hij, hjh, hkx, S1, heq⟩ := hrel
    by_cases hlt : i < j
    · obtain ⟨h, hh⟩ : ∃ h : Nat, h = (i + j) / 2 := ⟨_, rfl⟩
      have hhz : ((i : Int) + (j : Int)) / 2 = (h : Int) := by omega
      have hh1 : i ≤ h := by omega
      have hh2 : h < j := by omega
      have hltz : (i : Int) < (j : Int) := by omega
      have HH : Aside (h = (i + j) / 2) := hh
      clear hh
      have eX : ((h : Int)).toNat = h := by omega
      have pX : (0 : Int) ≤ (h : Int) := by omega
      have bX : (h : Int) < (d.size : Int) := by omega
      have rX : IntKind.i64.wrap ((h : Int)) = (h : Int) := by rw [IntKind.wrap_i64]; omega
      have eY : ((m : Int)).toNat = m := by omega
      have pY : (0 : Int) ≤ (m : Int) := by omega
      have bY : (m : Int) < (d.size : Int) := by omega
      have rY : IntKind.i64.wrap ((m : Int)) = (m : Int) := by rw [IntKind.wrap_i64]; omega
      obtain ⟨x, hx⟩ : ∃ x, x = d[m]! := ⟨_, rfl⟩
      obtain ⟨y, hy⟩ : ∃ x, x = d[h]! := ⟨_, rfl⟩
      have la := S1.out.ld R (by omega) P (m) (by omega)
      have lb := S1.out.ld R (by omega) P (h) (by omega)
      rw [← hx] at la
      rw [← hy] at lb
      cases hlv : ltOf cf d[m]! d[h]! with
      | true =>
        have hc := S1.out.cmp HC.out (by omega) x y
        have hv : cf x y < 0 := by rw [hx, hy]; exact of_decide_eq_true hlv
        have hd : decide (cf x y < 0) = true := decide_eq_true hv
        have HLV : Aside (p h = false) := by show p h = _; rw [HP.out]; simp [hlv]
        clear hx hy hlv
        go_wp2_with fail
        go_quiet_grown (first | (go_at_fn g; refine Calls.grown_of (hc _ _)))
        have S2 : Aside (SWK enc k w0 blk off d (grow (wr.drewN nq) osq)) := S1.out.grown nq osq
        clear la lb hc S1
        generalize grow (wr.drewN nq) osq = w2 at S2 ⊢
        clear nq osq
        go_wp2
        go_roundg (h - i)
        case measure => omega
        case rel =>
          have he := heq.out
          rw [bs, if_pos hlt, ← HH.out, HLV.out, if_neg (by simp)] at he
          exact ⟨i, h, by first | rfl | go_num, by first | rfl | go_num, by omega, by omega, by omega, by omega, S2, he⟩
      | false =>
        have hc := S1.out.cmp HC.out (by omega) x y
        have hv : ¬ cf x y < 0 := by rw [hx, hy]; exact of_decide_eq_false hlv
        have hd : decide (cf x y < 0) = false := decide_eq_false hv
        have HLV : Aside (p h = true) := by show p h = _; rw [HP.out]; simp [hlv]
        clear hx hy hlv
        go_wp2_with fail
        go_quiet_grown (first | (go_at_fn g; refine Calls.grown_of (hc _ _)))
        have S2 : Aside (SWK enc k w0 blk off d (grow (wr.drewN nq) osq)) := S1.out.grown nq osq
        clear la lb hc S1
        generalize grow (wr.drewN nq) osq = w2 at S2 ⊢
        clear nq osq
        go_wp2
        go_roundg (j - (h + 1))
        case measure => omega
        case rel =>
          have he := heq.out
          rw [bs, if_pos hlt, ← HH.out, HLV.out, if_pos rfl] at he
          exact ⟨h + 1, j, by first | rfl | go_num, by first | rfl | go_num, by omega, by omega, by omega, by omega, S2, he⟩
    · obtain rfl : i = j := by omega
      have hltz : ¬ (i : Int) < (i : Int) := by omega
      have HI : Aside (i = bs p (a) (m)) := by show _ = _; rw [← heq.out, bs, if_neg (by omega)]
      clear heq
      have S3 : Aside (SWK enc k w0 blk off d wr) := S1.out
      clear S1
      go_wp2
      go_loopg [17] (m) (fun kx sx wr => ∃ (x : Nat) (dk : Array α), sx = .int .i64 x ∧ i ≤ x ∧ x ≤ m ∧ x ≤ kx ∧ dk.size = d.size ∧ Aside (SWK enc k w0 blk off dk wr) ∧ Aside (dnLoop i x dk = dnLoop i m d))
      case atStart => exact ⟨m, d, rfl, by omega, by omega, by omega, rfl, S3, rfl⟩
      case round =>
        clear S3
        obtain ⟨x, dk, rfl, hax, hxi, hkx2, hds, S4, heq2⟩ := hrel
        by_cases hlt2 : i < x
        · have hltz2 : (i : Int) < (x : Int) := by omega
          have eA : ((x : Int)).toNat = x := by omega
          have pA : (0 : Int) ≤ (x : Int) := by omega
          have bA : (x : Int) < (d.size : Int) := by omega
          have rA : IntKind.i64.wrap ((x : Int)) = (x : Int) := by rw [IntKind.wrap_i64]; omega
          have eB : ((x : Int) - 1).toNat = x - 1 := by omega
          have pB : (0 : Int) ≤ (x : Int) - 1 := by omega
          have bB : (x : Int) - 1 < (d.size : Int) := by omega
          have rB : IntKind.i64.wrap ((x : Int) - 1) = (x : Int) - 1 := by rw [IntKind.wrap_i64]; omega
          have S5 : Aside (SWK enc k w0 blk off (swp dk (x) (x - 1)) ((wr.drew.setCells blk (off + (x) * k) (enc dk[x - 1]!)).setCells blk (off + (x - 1) * k) (enc dk[x]!))) := S4.out.swapped R (x) (x - 1) (by omega) (by omega)
          have la := S4.out.ld1 R (by omega) P (x) (by omega)
          have lb := S4.out.ld1 R (by omega) P (x - 1) (by omega)
          have sa := S4.out.st1 R (by omega) P (x) (by omega) dk[x - 1]!
          have sb := S4.out.st2 R (by omega) P (x) (x - 1) (by omega) (by omega) dk[x - 1]! dk[x]!
          have na : (enc dk[x]!).length = k := R.hk _
          have nb : (enc dk[x - 1]!).length = k := R.hk _
          generalize enc dk[x]! = cI at S5 la sb na
          generalize enc dk[x - 1]! = cJ at S5 lb sa sb nb
          clear S4
          go_wp2_with fail
          go_big_region_o
          clear la lb sa sb
          generalize (wr.drew.setCells blk (off + (x) * k) cJ).setCells blk (off + (x - 1) * k) cI = w5 at S5 ⊢
          go_wp2
          go_roundg (x - 1)
          case measure => omega
          case rel =>
            have he := heq2.out
            rw [dnLoop, if_pos hlt2] at he
            exact ⟨x - 1, swp dk x (x - 1), by first | rfl | go_num | (congr 1; omega), by omega, by omega, by omega, by rw [size_swp]; exact hds, S5, he⟩
        · have hltz2 : (x : Int) ≤ (i : Int) := by omega
          go_wp2
          go_returns
          refine ⟨rfl, ?_⟩
          have he := heq2.out
          rw [dnLoop, if_neg hlt2] at he
          rw [symM, if_neg hm1, if_pos hb1, ← PQ.out, ← HI.out, ← he]
          exact S4.out
--@@ end
end Go.Proofs.YtpcpeoejcnndhaaGreat
