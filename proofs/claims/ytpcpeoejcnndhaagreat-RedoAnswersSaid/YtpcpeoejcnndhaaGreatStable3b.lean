/- Merging in place: symMerge, whole. -/
import Derived.Test.YtpcpeoejcnndhaaGreatStable2
import Derived.Deep.DeepCutAuto
import Derived.Deep.CutBlock
set_option linter.all false
namespace Go.Proofs.YtpcpeoejcnndhaaGreat
open Go.RowKit Go.Shelf Go.Lib Go.Sort Go.Proofs
--@@ slices.symMergeCmpFunc
set_option maxHeartbeats 32000000 in
set_option maxRecDepth 1000000 in
theorem symMerge3b_gen {P : Program} (L : SFacts P) (FG : P.funcs[115]? = some Tryz.f115) (FR : P.funcs[119]? = some Tryz.f119) (FS : P.funcs[120]? = some Tryz.f120)
    (k : Nat) (aE : ∀ w, (isAgg 57).run P w = .ok true w) (zE : ∀ w, (Go.sizeOf 57).run P w = .ok k w) {α : Type} [Inhabited α] (enc : α → List Value) (cf : α → α → Int) (g : Nat) (cb : Array Value) (blk off cap a m b f : Nat) (d0 d : Array α) (w0 w : World)
    (eg : ∀ args w, (callFunc g args).run P w = .ok (.enter g args) w) (hcmp : CmpLays P g cb enc k cf blk off d0.size w0) (R : RowK enc k w0 blk off d0) (hs : d0.size = d.size) (S : SWK enc k w0 blk off d w) (ham : a < m) (hmb : m < b) (hb : b ≤ d.size) (hsz : d.size < 4611686018427387904) (hm1 : ¬ m - a = 1) (hb1 : ¬ b - m = 1) (hf : b - a ≤ f + 1)
    (IH : Hid (∀ (a' m' b' : Nat) (dk : Array α) (w' : World), dk.size = d.size → SWK enc k w0 blk off dk w' → a' < m' → m' < b' → b' ≤ d.size → b' - a' ≤ f →
      Calls P 115 #[.slice (some ⟨blk, off, none⟩) d.size cap, .int .i64 a', .int .i64 m', .int .i64 b', .func (.func g) #[] cb] w' fun e w'' => e = .returned (.tuple #[]) ∧ SWK enc k w0 blk off (symM (ltOf cf) f dk a' m' b') w'')) (hside : ¬ (a + b) / 2 < m) :
    Calls P 115 #[.slice (some ⟨blk, off, none⟩) d.size cap, .int .i64 a, .int .i64 m, .int .i64 b, .func (.func g) #[] cb] w fun e w' => e = .returned (.tuple #[]) ∧ SWK enc k w0 blk off (symM (ltOf cf) (f + 1) d a m b) w' := by
  have mixed := L.mixed; have t0 := L.t0; have a0 := L.a0; have z0 := L.z0; have v0 := L.v0; have t3 := L.t3; have a3 := L.a3; have z3 := L.z3; have v3 := L.v3; have t4 := L.t4; have a4 := L.a4; have z4 := L.z4; have v4 := L.v4; have t38 := L.t38; have a38 := L.a38; have z38 := L.z38; have v38 := L.v38; have t69 := L.t69; have a69 := L.a69; have z69 := L.z69; have v69 := L.v69; have t81 := L.t81; have a81 := L.a81; have z81 := L.z81; have v81 := L.v81
  have u3 := run_underlying L.t3; have u81 := run_underlying L.t81; have u38 := run_underlying L.t38; have u4 := run_underlying L.t4
  have S0 : Aside (SWK enc k w0 blk off d w) := S
  have HC : Aside _ := hcmp
  clear S hcmp
  have hwa : IntKind.i64.wrap ((m : Int) - (a : Int)) = ((m - a : Nat) : Int) := by rw [IntKind.wrap_i64]; omega
  have hwb : IntKind.i64.wrap ((b : Int) - (m : Int)) = ((b - m : Nat) : Int) := by rw [IntKind.wrap_i64]; omega
  have hm1z : ((((m - a : Nat) : Int)) == 1) = false := by simp; omega
  have hb1z : ((((b - m : Nat) : Int)) == 1) = false := by simp; omega
  obtain ⟨mid, hmid⟩ : ∃ mid : Nat, mid = (a + b) / 2 := ⟨_, rfl⟩
  have hmz : ((a : Int) + (b : Int)) / 2 = (mid : Int) := by omega
  obtain ⟨n, hn⟩ : ∃ n : Nat, n = mid + m := ⟨_, rfl⟩
  have hnz : (mid : Int) + (m : Int) = (n : Int) := by omega
  obtain ⟨q, hq⟩ : ∃ q : Nat, q = n - 1 := ⟨_, rfl⟩
  have hqz : (n : Int) - 1 = (q : Int) := by omega
  obtain ⟨p, hp⟩ : ∃ p : Nat → Bool, p = fun c => !ltOf cf d[q - c]! d[c]! := ⟨_, rfl⟩
  have hn1 : n ≤ mid + m ∧ mid + m ≤ n := by omega
  have hq1 : q + 1 = n ∨ False := by omega
  have hmid1 : mid + mid ≤ a + b ∧ a + b ≤ mid + mid + 1 := by omega
  have HM : Aside (mid = (a + b) / 2) := hmid
  have HN : Aside (n = mid + m) := hn
  have HQ : Aside (q = n - 1) := hq
  have PQ : Aside (p = fun c => !ltOf cf d[q - c]! d[c]!) := hp
  clear hmid hn hq hp
  have hmm : ¬ mid < m := by rw [HM.out]; exact hside
  clear hside
  have hmmz : (m : Int) ≤ (mid : Int) := by omega
  go_enter FG, Tryz.ntmps115
  go_wp2
  go_loopg [20, 21] (m) (fun kx si sj wr => ∃ (i j : Nat), si = .int .i64 i ∧ sj = .int .i64 j ∧ a ≤ i ∧ i ≤ j ∧ j ≤ m ∧ j - i ≤ kx ∧ Aside (SWK enc k w0 blk off d wr) ∧ Aside (bs p i j = bs p (a) (m)))
  case atStart => exact ⟨a, m, by first | rfl | go_num, by first | rfl | go_num, by omega, by omega, by omega, by omega, S0, rfl⟩
  case round =>
    clear S0
    obtain ⟨i, j, rfl, rfl, hli, hij, hjh, hkx, S1, heq⟩ := hrel
    by_cases hlt : i < j
    · clear IH
      obtain ⟨h, hh⟩ : ∃ h : Nat, h = (i + j) / 2 := ⟨_, rfl⟩
      have hhz : ((i : Int) + (j : Int)) / 2 = (h : Int) := by omega
      have hh1 : i ≤ h := by omega
      have hh2 : h < j := by omega
      have hltz : (i : Int) < (j : Int) := by omega
      have HH : Aside (h = (i + j) / 2) := hh
      clear hh
      obtain ⟨t, ht⟩ : ∃ t : Nat, t = q - h := ⟨_, rfl⟩
      have htz : (q : Int) - (h : Int) = (t : Int) := by omega
      have ht1 : t < d.size := by omega
      have HT : Aside (t = q - h) := ht
      clear ht
      have eX : ((t : Int)).toNat = t := by omega
      have pX : (0 : Int) ≤ (t : Int) := by omega
      have bX : (t : Int) < (d.size : Int) := by omega
      have rX : IntKind.i64.wrap ((t : Int)) = (t : Int) := by rw [IntKind.wrap_i64]; omega
      have eY : ((h : Int)).toNat = h := by omega
      have pY : (0 : Int) ≤ (h : Int) := by omega
      have bY : (h : Int) < (d.size : Int) := by omega
      have rY : IntKind.i64.wrap ((h : Int)) = (h : Int) := by rw [IntKind.wrap_i64]; omega
      obtain ⟨x, hx⟩ : ∃ x, x = d[t]! := ⟨_, rfl⟩
      obtain ⟨y, hy⟩ : ∃ x, x = d[h]! := ⟨_, rfl⟩
      have la := S1.out.ld R (by omega) P (t) (by omega)
      have lb := S1.out.ld R (by omega) P (h) (by omega)
      rw [← hx] at la
      rw [← hy] at lb
      cases hlv : ltOf cf d[t]! d[h]! with
      | true => as_aux_lemma =>
        have hc := S1.out.cmp HC.out (by omega) x y
        have hv : cf x y < 0 := by rw [hx, hy]; exact of_decide_eq_true hlv
        have hd : decide (cf x y < 0) = true := decide_eq_true hv
        have HLV : Aside (p h = false) := by show p h = _; rw [PQ.out]; simp only [← HT.out]; simp [hlv]
        clear hx hy hlv
        go_wp2_with fail
        go_quiet_grown (first | (go_at_fn g; refine Calls.grown_of (hc _ _)))
        have S2 : Aside (SWK enc k w0 blk off d (grow (wr.drewN nq) osq)) := S1.out.grown nq osq
        clear la lb hc S1
        generalize grow (wr.drewN nq) osq = w2 at S2 ⊢
        clear nq osq
        go_wp2
        go_roundg (h - i)
        case measure => omega
        case rel =>
          have he := heq.out
          rw [bs, if_pos hlt, ← HH.out, HLV.out, if_neg (by simp)] at he
          exact ⟨i, h, by first | rfl | go_num, by first | rfl | go_num, by omega, by omega, by omega, by omega, S2, he⟩
      | false => as_aux_lemma =>
        have hc := S1.out.cmp HC.out (by omega) x y
        have hv : ¬ cf x y < 0 := by rw [hx, hy]; exact of_decide_eq_false hlv
        have hd : decide (cf x y < 0) = false := decide_eq_false hv
        have HLV : Aside (p h = true) := by show p h = _; rw [PQ.out]; simp only [← HT.out]; simp [hlv]
        clear hx hy hlv
        go_wp2_with fail
        go_quiet_grown (first | (go_at_fn g; refine Calls.grown_of (hc _ _)))
        have S2 : Aside (SWK enc k w0 blk off d (grow (wr.drewN nq) osq)) := S1.out.grown nq osq
        clear la lb hc S1
        generalize grow (wr.drewN nq) osq = w2 at S2 ⊢
        clear nq osq
        go_wp2
        go_roundg (j - (h + 1))
        case measure => omega
        case rel =>
          have he := heq.out
          rw [bs, if_pos hlt, ← HH.out, HLV.out, if_pos rfl] at he
          exact ⟨h + 1, j, by first | rfl | go_num, by first | rfl | go_num, by omega, by omega, by omega, by omega, S2, he⟩
    · obtain rfl : i = j := by omega
      have hltz : ¬ (i : Int) < (i : Int) := by omega
      have HI : Aside (i = bs p (a) (m)) := by show _ = _; rw [← heq.out, bs, if_neg (by omega)]
      clear heq
      have S2 : Aside (SWK enc k w0 blk off d wr) := S1.out
      clear S1
      obtain ⟨e, he⟩ : ∃ e : Nat, e = n - i := ⟨_, rfl⟩
      have hez : (n : Int) - (i : Int) = (e : Int) := by omega
      have hme : m ≤ e := by omega
      have hmide : mid ≤ e := by omega
      have heb : e ≤ b := by omega
      have him : i ≤ m := by omega
      have HE : Aside (e = n - i) := he
      clear he
      obtain ⟨d1, hd1⟩ : ∃ d1, d1 = if i < m ∧ m < e then rotLoop m (m - i) (e - m) d else d := ⟨_, rfl⟩
      have hs1 : d1.size = d.size := by
        rw [hd1]; split
        · exact size_rotLoop _ _ _ _
        · rfl
      obtain ⟨d2, hd2⟩ : ∃ d2, d2 = if a < i ∧ i < mid then symM (ltOf cf) f d1 a i mid else d1 := ⟨_, rfl⟩
      have hs2 : d2.size = d.size := by
        rw [hd2]; split
        · rw [size_symM]; exact hs1
        · exact hs1
      have HD1 : Aside (d1 = if i < m ∧ m < e then rotLoop m (m - i) (e - m) d else d) := hd1
      have HD2 : Aside (d2 = if a < i ∧ i < mid then symM (ltOf cf) f d1 a i mid else d1) := hd2
      clear hd1 hd2
      have eR : ∀ args w, (callFunc 119 args).run P w = .ok (.enter 119 args) w := enters_of FR (by kernel_rfl) rfl
      have eM : ∀ args w, (callFunc 115 args).run P w = .ok (.enter 115 args) w := enters_of FG (by kernel_rfl) rfl
      have hrot : Hid (i < m → m < e → Calls P 119 #[.slice (some ⟨blk, off, none⟩) d.size cap, .int .i64 i, .int .i64 m, .int .i64 e, .func (.func g) #[] cb] wr fun r w' => r = .returned (.tuple #[]) ∧ SWK enc k w0 blk off (rotLoop m (m - i) (e - m) d) w') :=
        fun h1 h2 => rotate_gen L FR FS k aE zE enc _ blk off cap i m e d0 d w0 wr R hs S2.out h1 h2 (by omega) hsz
      go_upto_region 39 with (fail)
      go_cut [185] (fun s wx => s = .bool (decide (i < m ∧ m < e)) ∧ wx = wr)
      case first => as_aux_lemma =>
        clear IH hrot
        by_cases h1 : i < m
        · have h1z : (i : Int) < (m : Int) := by omega
          by_cases h2 : m < e
          · have h2z : (m : Int) < (e : Int) := by omega
            have hb : decide (i < m ∧ m < e) = true := decide_eq_true ⟨h1, h2⟩
            go_wp2
            go_meet
            exact ⟨by simp [h1, h2], rfl⟩
          · have h2z : (e : Int) ≤ (m : Int) := by omega
            go_wp2
            go_meet
            exact ⟨by simp [h1, h2], rfl⟩
        · have h1z : (m : Int) ≤ (i : Int) := by omega
          go_wp2
          go_meet
          exact ⟨by simp [h1], rfl⟩
      case rest =>
      obtain ⟨rfl, rfl⟩ := hcut
      go_upto_if 185 with (fail)
      go_cut [] (fun wx => Aside (SWK enc k w0 blk off d1 wx))
      case first => as_aux_lemma =>
        by_cases hr : i < m ∧ m < e
        · have hrb : decide (i < m ∧ m < e) = true := decide_eq_true hr
          go_wp2_with (go_at_fn 119; refine (hrot.out hr.1 hr.2).mono ?_; rintro r w3 ⟨rfl, S3⟩)
          go_meet
          show SWK enc k w0 blk off d1 _
          rw [HD1.out, if_pos hr]; exact S3
        · have hrb : decide (i < m ∧ m < e) = false := decide_eq_false hr
          go_wp2
          go_meet
          show SWK enc k w0 blk off d1 _
          rw [HD1.out, if_neg hr]; exact S2.out
      case rest =>
      clear hrot
      have S4 := hcut
      clear hcut S2 eR
      go_upto_region 41 with (fail)
      go_cut [199] (fun s wx => s = .bool (decide (a < i ∧ i < mid)) ∧ wx = wc)
      case first => as_aux_lemma =>
        clear IH 
        by_cases h1 : a < i
        · have h1z : (a : Int) < (i : Int) := by omega
          by_cases h2 : i < mid
          · have h2z : (i : Int) < (mid : Int) := by omega
            have hb : decide (a < i ∧ i < mid) = true := decide_eq_true ⟨h1, h2⟩
            go_wp2
            go_meet
            exact ⟨by simp [h1, h2], rfl⟩
          · have h2z : (mid : Int) ≤ (i : Int) := by omega
            go_wp2
            go_meet
            exact ⟨by simp [h1, h2], rfl⟩
        · have h1z : (i : Int) ≤ (a : Int) := by omega
          go_wp2
          go_meet
          exact ⟨by simp [h1], rfl⟩
      case rest =>
      obtain ⟨rfl, rfl⟩ := hcut
      go_upto_if 199 with (fail)
      go_cut [] (fun wx => Aside (SWK enc k w0 blk off d2 wx))
      case first => as_aux_lemma =>
        by_cases hr : a < i ∧ i < mid
        · have hrb : decide (a < i ∧ i < mid) = true := decide_eq_true hr
          go_wp2_with (go_at_fn 115; refine (IH.out a i mid d1 _ hs1 S4.out hr.1 hr.2 (by omega) (by omega)).mono ?_; rintro r w3 ⟨rfl, S3⟩)
          go_meet
          show SWK enc k w0 blk off d2 _
          rw [HD2.out, if_pos hr]; exact S3
        · have hrb : decide (a < i ∧ i < mid) = false := decide_eq_false hr
          go_wp2
          go_meet
          show SWK enc k w0 blk off d2 _
          rw [HD2.out, if_neg hr]; exact S4.out
      case rest =>
      have S6 := hcut
      clear hcut S4
      rename World => wd
      go_upto_region 43 with (fail)
      go_cut [213] (fun s wx => s = .bool (decide (mid < e ∧ e < b)) ∧ wx = wd)
      case first => as_aux_lemma =>
        clear IH 
        by_cases h1 : mid < e
        · have h1z : (mid : Int) < (e : Int) := by omega
          by_cases h2 : e < b
          · have h2z : (e : Int) < (b : Int) := by omega
            have hb : decide (mid < e ∧ e < b) = true := decide_eq_true ⟨h1, h2⟩
            go_wp2
            go_meet
            exact ⟨by simp [h1, h2], rfl⟩
          · have h2z : (b : Int) ≤ (e : Int) := by omega
            go_wp2
            go_meet
            exact ⟨by simp [h1, h2], rfl⟩
        · have h1z : (e : Int) ≤ (mid : Int) := by omega
          go_wp2
          go_meet
          exact ⟨by simp [h1], rfl⟩
      case rest =>
      obtain ⟨rfl, rfl⟩ := hcut
      have hfin : Aside (symM (ltOf cf) (f + 1) d a m b = if mid < e ∧ e < b then symM (ltOf cf) f d2 mid e b else d2) := symM_rest (ltOf cf) f d a m b hm1 hb1 mid n i e HM.out HN.out (by
        rw [HI.out, PQ.out, HQ.out]
        first | rw [if_pos hmm, if_pos hmm] | rw [if_neg hmm, if_neg hmm]) HE.out d1 d2 HD1.out HD2.out
      clear HI PQ HQ HE HD1 HD2 HM HN
      by_cases hr : mid < e ∧ e < b
      · have hrb : decide (mid < e ∧ e < b) = true := decide_eq_true hr
        go_wp2_with (go_at_fn 115; refine (IH.out mid e b d2 _ hs2 S6.out hr.1 hr.2 (by omega) (by omega)).mono ?_; rintro r w3 ⟨rfl, S3⟩)
        go_returns
        refine ⟨rfl, ?_⟩
        rw [hfin.out, if_pos hr]; exact S3
      · have hrb : decide (mid < e ∧ e < b) = false := decide_eq_false hr
        go_wp2
        go_returns
        refine ⟨rfl, ?_⟩
        rw [hfin.out, if_neg hr]; exact S6.out
--@@ end
end Go.Proofs.YtpcpeoejcnndhaaGreat
