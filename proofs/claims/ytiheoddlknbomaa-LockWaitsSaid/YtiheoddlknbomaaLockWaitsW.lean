/- LockWaits: the walk. -/
import Derived.Test.YtiheoddlknbomaaLockArgs
set_option linter.all false
namespace Go.Proofs.Ytiheoddlknbomaa.lockWaits
open Go.RowKit Go.Shelf Go.Lib Go.Sort Go.Proofs Go.Proofs.Ytiheoddlknbomaa
set_option linter.unusedVariables false
set_option linter.unusedSimpArgs false

--@@ concordatlaw08.LockWaits
theorem KD.refl (D : Nat → Prop) (w : World) : KD D w w := ⟨rfl, rfl, rfl, Nat.le_refl _, fun _ _ => rfl⟩
theorem KD.drewN {D : Nat → Prop} {a w : World} (h : KD D a w) (n : Nat) : KD D a (w.drewN n) := ⟨h.os, h.tape, h.output, h.size, h.block⟩
theorem KD.drew {D : Nat → Prop} {a w : World} (h : KD D a w) : KD D a w.drew := ⟨h.os, h.tape, h.output, h.size, h.block⟩
def oth (t : Ta) (k : K4) (x : Int) (l : List Int) : Bool := l.any fun y => decide (y ≠ x) && decide (0 < how (t.row k).h y)
theorem oth_snoc (t : Ta) (k : K4) (x y : Int) (l : List Int) : oth t k x (l ++ [y]) = (oth t k x l || (decide (y ≠ x) && decide (0 < how (t.row k).h y))) := by
  unfold oth; rw [List.any_append]; simp
theorem oth_true {t : Ta} {k : K4} {x : Int} {l : List Int} (h : ∃ y ∈ l, y ≠ x ∧ 0 < how (t.row k).h y) : oth t k x l = true := by
  obtain ⟨y, h1, h2, h3⟩ := h
  unfold oth
  rw [List.any_eq_true]
  exact ⟨y, h1, by simp [h2, h3]⟩
set_option maxHeartbeats 8000000 in
set_option maxRecDepth 100000 in
theorem walk (v0 : Value) (cs : List Cl) (w : World) (h0 : SlAt w v0 Cl.ps.length cs.length (cs.flatMap Cl.f)) (_hl : ∀ x ∈ cs, x.ok) (hroom : Roomy v0) :
    Calls Try.prog 6 #[v0] w fun e w' => e = .returned (.bool true) ∧ Kept [] w w' := by
  clear _hl
  obtain ⟨a, cap, rfl, hmax, _, hc⟩ := h0.ex
  obtain ⟨hcap, hnil⟩ := hroom _ _ _ rfl
  have H0 := hid h0
  clear h0 hc hroom
  by_cases hlen : 60 < cs.length
  · have hlenz : (60 : Int) < (cs.length : Int) := by omega
    go_enter Try.func6, Try.ntmps6
    go_wp2_with (go_at_call 9; refine (alive_any _).mono ?_; rintro e wa ⟨rfl, hka⟩)
    go_ret
    exact ⟨rfl, hka⟩
  have hlenz : (cs.length : Int) ≤ 60 := by omega
  go_enter Try.func6, Try.ntmps6
  go_wp2_with (first
    | (go_at_call 9; refine (alive_any _).mono ?_; rintro e wa ⟨rfl, hka⟩)
    | (go_at_call 10; refine Here.mk ?_))
  refine Here.of ?_
  refine (do_any _ cs wa (H0.out.kept hka) (by omega)).mono ?_
  rintro e w1 ⟨A, rfl, hT1, hk1⟩
  have HT1 := hid hT1
  have HK1 := hid (hka.trans hk1 (fun x hx => by cases hx))
  clear hT1 hk1
  obtain ⟨ok0, hrl0, hle0⟩ := doT_ok cs
  obtain ⟨t, ht⟩ : ∃ t, t = doT cs := ⟨_, rfl⟩
  rw [← ht] at HT1 ok0 hrl0 hle0
  clear ht
  have HOK := hid ok0
  have HLE := hid hle0
  have hrl : t.rows.length ≤ 60 := by omega
  clear ok0 hle0 hrl0
  go_wp2_with (go_at_call 11; refine Here.mk ?_)
  refine Here.of ?_
  refine (txs_at HT1.out HLE.out (by omega) (by omega) HOK.out).mono ?_
  rintro e w2 ⟨v, L, rfl, hL, ho, hLl, hk2⟩
  obtain ⟨va, vc, hv⟩ := ownsRow_slice ho
  subst hv
  obtain ⟨D, HD2, HD0, HDV⟩ : ∃ D : Nat → Prop, Hid (TabAt w2 D A t) ∧ Hid (∀ b, b < wa.heap.size → D b) ∧ Hid (∀ x, (Value.slice va L.length vc).ownBlock = some x → D x) :=
    ⟨_, hid (HT1.out.widen hk2 (by simp)), hid (fun b hb => .inl hb), hid (fun x hx => .inr (ho.lt x hx))⟩
  have HO := hid ho
  have HL := hid hL
  have HK2 := hid (HK1.out.trans hk2 (fun x hx => by cases hx))
  have hsa := hka.size
  clear hL ho hk2 hka HT1
  go_wp2_with fail
  go_loopg [5] L.length (fun kx s5 wr => ∃ i : Nat, s5 = .int .i64 i ∧ i ≤ L.length ∧ L.length - i ≤ kx ∧ Aside (TabAt wr D A t) ∧ Aside (KD D w2 wr))
  case atStart => exact ⟨0, by first | rfl | go_num, by omega, by omega, HD2.out, KD.refl _ _⟩
  case round =>
    clear HD2
    obtain ⟨i, rfl, hi, hix, HT, HK⟩ := hrel
    rename World => wo
    by_cases hlt : i < L.length
    · have hltz : (i : Int) < (L.length : Int) := by omega
      have HOI := hid (HK.out.own HO.out HDV.out)
      obtain ⟨g, hg⟩ := own_some HOI.out (by omega)
      subst hg
      have c0 := own_ints HOI.out hlt
      have hLz : (L.length : Int) ≤ 10000000000 := by omega
      have HWT := hid (waits_at HT.out L[i])
      have HLAW := hid (fun k (hk : aget L[i] t.waits = some k) => law_waits HOK.out HL.out hk)
      cases hw : aget L[i] t.waits with
      | none =>
        rw [hw] at HWT
        simp only [keyO, Option.getD_none, Option.isSome_none, K4.v, show (0 : UInt8).toNat = 0 from rfl, Int.natCast_zero] at HWT
        have HW0 := hid hw
        clear hw
        generalize L[i] = x at *
        go_wp2_with (go_at_call 15; refine Here.mk ?_)
        refine Here.of ?_
        refine HWT.out.mono ?_
        rintro e w6 ⟨rfl, hk6⟩
        have HK6 := hid (hk6.alloc (.cells #[.int .u8 0, .int .u8 0, .int .u8 0, .int .u8 0] 32))
        clear hk6 c0
        go_wp2_with fail
        go_roundg (L.length - (i + 1))
        case measure => omega
        case rel => exact ⟨i + 1, by first | rfl | go_num, by omega, Nat.le_refl _, HT.out.kept HK6.out (by simp), HK.out.trans (KD.of HK6.out (D := D) (fun k hk => ⟨HT.out.lt k hk, by simp⟩)) (fun x hx => hx)⟩
      | some k =>
        rw [hw] at HWT
        have HLW := hid (HLAW.out k hw)
        have HNE := hid (fun (n : Nat) (hn : n < L.length) (h : n ≠ i) => (show L[n] ≠ L[i] from fun e => by
          have hp := List.pairwise_iff_getElem.1 HL.out.srt
          rcases Nat.lt_or_ge n i with h1 | h1
          · have := hp n i hn hlt h1; omega
          · have := hp i n hlt hn (by omega); omega))
        have HXI := hid (show L[i]? = some L[i] by simp [hlt])
        clear hw HLAW
        obtain ⟨k1, k2, k3, k4⟩ := k
        simp only [keyO, Option.getD_some, Option.isSome_some, K4.v] at HWT
        obtain ⟨x, hx⟩ : ∃ x, x = L[i] := ⟨_, rfl⟩
        rw [← hx] at HWT HLW c0
        have HXE := hid hx
        simp only [← hx] at HNE
        clear hx HXI
        go_wp2_with (go_at_call 15; refine Here.mk ?_)
        refine Here.of ?_
        refine HWT.out.mono ?_
        rintro e w6 ⟨rfl, hk6⟩
        go_wp2_with fail
        have hk6a := hk6.alloc (.cells #[.int .u8 (k1.toNat : Int), .int .u8 (k2.toNat : Int), .int .u8 (k3.toNat : Int), .int .u8 (k4.toNat : Int)] 32)
        have hs6 := hk6.size
        obtain ⟨E, HE, HED, HEB⟩ : ∃ E : Nat → Prop, Hid (TabAt (w6.alloc (.cells #[.int .u8 (k1.toNat : Int), .int .u8 (k2.toNat : Int), .int .u8 (k3.toNat : Int), .int .u8 (k4.toNat : Int)] 32)) E A t) ∧ Hid (∀ b, D b → E b) ∧ Hid (E w6.heap.size) :=
          ⟨_, hid (HT.out.widen hk6a (by simp)), hid (fun b hb => .inl hb), hid (.inr ⟨hs6, by simp⟩)⟩
        have HKD := hid (HK.out.trans (KD.of hk6a (D := D) (fun k hk => ⟨HT.out.lt k hk, by simp⟩)) (fun x hx => hx))
        have HCK := hid (fun w' (hk : KD E (w6.alloc (.cells #[.int .u8 (k1.toNat : Int), .int .u8 (k2.toNat : Int), .int .u8 (k3.toNat : Int), .int .u8 (k4.toNat : Int)] 32)) w') j u h => hk.cell (new_cell w6 [.int .u8 (k1.toNat : Int), .int .u8 (k2.toNat : Int), .int .u8 (k3.toNat : Int), .int .u8 (k4.toNat : Int)] 32 j u h) HEB.out)
        have HCO := hid (fun w' (hk : KD E (w6.alloc (.cells #[.int .u8 (k1.toNat : Int), .int .u8 (k2.toNat : Int), .int .u8 (k3.toNat : Int), .int .u8 (k4.toNat : Int)] 32)) w') (n : Nat) (hn : n < L.length) => own_ints ((HKD.out.trans hk (fun x hx => HED.out x hx)).own HO.out HDV.out) hn)
        have HX := hid (fun w' (hk : KD E (w6.alloc (.cells #[.int .u8 (k1.toNat : Int), .int .u8 (k2.toNat : Int), .int .u8 (k3.toNat : Int), .int .u8 (k4.toNat : Int)] 32)) w') (n : Nat) (hn : n < L.length) => (show w'.cell? ⟨g, n, none⟩ = some (.int .i64 L[n]) ∧ w'.cell? ⟨w6.heap.size, 0, none⟩ = some (.int .u8 (k1.toNat : Int)) ∧ w'.cell? ⟨w6.heap.size, 1, none⟩ = some (.int .u8 (k2.toNat : Int)) ∧ w'.cell? ⟨w6.heap.size, 2, none⟩ = some (.int .u8 (k3.toNat : Int)) ∧ w'.cell? ⟨w6.heap.size, 3, none⟩ = some (.int .u8 (k4.toNat : Int)) from ⟨HCO.out w' hk n hn, HCK.out w' hk 0 _ rfl, HCK.out w' hk 1 _ rfl, HCK.out w' hk 2 _ rfl, HCK.out w' hk 3 _ rfl⟩))
        have HHH := hid (fun W (hk : Kept [] (w6.alloc (.cells #[.int .u8 (k1.toNat : Int), .int .u8 (k2.toNat : Int), .int .u8 (k3.toNat : Int), .int .u8 (k4.toNat : Int)] 32)) W) (y : Int) => (show Calls Try.prog 13 #[.pointer (some ⟨A, 0, none⟩), .int .i64 y, .agg #[.int .u8 (k1.toNat : Int), .int .u8 (k2.toNat : Int), .int .u8 (k3.toNat : Int), .int .u8 (k4.toNat : Int)]] W fun e w' => e = .returned (.int .i64 (how (t.row ⟨k1, k2, k3, k4⟩).h y)) ∧ Kept [] W w' from holds_at (HE.out.kept hk (by simp)) HLE.out (by omega) y ⟨k1, k2, k3, k4⟩))
        have HK60 := hid (Kept.refl [] (w6.alloc (.cells #[.int .u8 (k1.toNat : Int), .int .u8 (k2.toNat : Int), .int .u8 (k3.toNat : Int), .int .u8 (k4.toNat : Int)] 32)))
        have HLT := hid HE.out.lt
        clear hk6 hk6a c0 HCK HCO hs6
        generalize w6.alloc (.cells #[.int .u8 (k1.toNat : Int), .int .u8 (k2.toNat : Int), .int .u8 (k3.toNat : Int), .int .u8 (k4.toNat : Int)] 32) = wa6 at *
        go_loopg [8, 9] L.length (fun kx s8 s9 wr => ∃ (n : Nat) (b : Bool), s8 = .bool b ∧ s9 = .int .i64 n ∧ n ≤ L.length ∧ L.length - n ≤ kx ∧ Aside (b = oth t ⟨k1, k2, k3, k4⟩ x (L.take n)) ∧ Aside (Kept [] wa6 wr))
        case atStart => exact ⟨0, false, by first | rfl | go_num, by first | rfl | go_num, by omega, by omega, rfl, HK60.out⟩
        case round =>
          clear HK60
          obtain ⟨n, b, rfl, rfl, hn, hnx, HB, HK7⟩ := hrel
          rename World => w7
          by_cases hnl : n < L.length
          · have hnlz : (n : Int) < (L.length : Int) := by omega
            have HSN := hid (show oth t ⟨k1, k2, k3, k4⟩ x (L.take (n + 1)) = (oth t ⟨k1, k2, k3, k4⟩ x (L.take n) || (decide (L[n] ≠ x) && decide (0 < how (t.row ⟨k1, k2, k3, k4⟩).h L[n]))) by rw [List.take_succ_eq_append_getElem hnl, oth_snoc])
            cases b with
            | true =>
              go_wp2_with fail
              go_quiet (fail)
              go_wp2_with fail
              go_roundg (L.length - (n + 1))
              case measure => omega
              case rel => exact ⟨n + 1, true, by first | rfl | go_num, by first | rfl | go_num, by omega, Nat.le_refl _, by show _ = _; rw [HSN.out, ← HB.out]; rfl, HK7.out.drewN _⟩
            | false =>
              by_cases hni : n = i
              · subst hni
                have hnb : ((n : Int) != (n : Int)) = false := by simp
                go_wp2_with fail
                go_quiet (fail)
                go_wp2_with fail
                go_roundg (L.length - (n + 1))
                case measure => omega
                case rel => exact ⟨n + 1, false, by first | rfl | go_num, by first | rfl | go_num, by omega, Nat.le_refl _, by show _ = _; rw [HSN.out, ← HB.out, HXE.out]; simp, HK7.out.drewN _⟩
              · have hnb : ((n : Int) != (i : Int)) = true := by simp; omega
                have hne := HNE.out n hnl hni
                have HXN := hid (fun w' (hk : KD E wa6 w') => HX.out w' hk n hnl)
                have HHN := hid (fun W (hk : Kept [] wa6 W) => HHH.out W hk L[n])
                generalize L[n] = y at *
                have HNEY := hid hne
                obtain ⟨hw, hhw⟩ : ∃ hw, hw = how (t.row ⟨k1, k2, k3, k4⟩).h y := ⟨_, rfl⟩
                rw [← hhw] at HHN HSN
                clear hne hhw
                go_wp2_with fail
                go_region_held3 (fun w' => w'.cell? ⟨g, n, none⟩ = some (.int .i64 y) ∧ w'.cell? ⟨w6.heap.size, 0, none⟩ = some (.int .u8 (k1.toNat : Int)) ∧ w'.cell? ⟨w6.heap.size, 1, none⟩ = some (.int .u8 (k2.toNat : Int)) ∧ w'.cell? ⟨w6.heap.size, 2, none⟩ = some (.int .u8 (k3.toNat : Int)) ∧ w'.cell? ⟨w6.heap.size, 3, none⟩ = some (.int .u8 (k4.toNat : Int)))
                  ((refine HXN.out _ (KD.of (show Kept [] wa6 _ from HK7.out.trans (show Kept [] w7 _ by (repeat (first | assumption | (with_reducible exact Kept.refl _ _) | (with_reducible refine Kept.drew ?_) | (with_reducible refine Kept.alloc ?_ _) | (with_reducible refine Kept.setCell ?_ (by right; simp; try omega) _)))) (fun x hx => by cases hx)) (fun k hk => ⟨HLT.out k hk, by simp⟩))))
                  (first
                    | (go_at_call 13; refine (HHN.out _ (HK7.out.trans (show Kept [] w7 _ by (repeat (first | assumption | (with_reducible exact Kept.refl _ _) | (with_reducible refine Kept.drew ?_) | (with_reducible refine Kept.alloc ?_ _) | (with_reducible refine Kept.setCell ?_ (by right; simp; try omega) _)))) (fun x hx => by cases hx))).mono ?_; clear HHN; rintro e w8 ⟨rfl, hk8'⟩; have hk8 : Kept [] w7 w8 := Kept.trans (show Kept [] w7 _ by (repeat (first | assumption | (with_reducible exact Kept.refl _ _) | (with_reducible refine Kept.drew ?_) | (with_reducible refine Kept.alloc ?_ _) | (with_reducible refine Kept.setCell ?_ (by right; simp; try omega) _)))) hk8' (fun x hx => by cases hx)))
                have HK8 := hid (HK7.out.trans hk8 (fun x hx => by cases hx))
                clear hk8 hk8'
                go_wp2_with fail
                go_roundg (L.length - (n + 1))
                case measure => omega
                case rel => exact ⟨n + 1, decide (0 < hw), by first | rfl | go_num, by first | rfl | go_num, by omega, Nat.le_refl _, by show _ = _; rw [HSN.out, ← HB.out]; simp [HNEY.out], HK8.out⟩
          · obtain rfl : n = L.length := by omega
            have hnlz : ¬ (L.length : Int) < (L.length : Int) := by omega
            obtain ⟨l1, l2, l3⟩ := HLW.out
            rw [List.take_length, oth_true l1] at HB
            obtain rfl := HB.out
            have HXN := hid (fun w' (hk : KD E wa6 w') => HX.out w' hk i hlt)
            rw [← HXE.out] at HXN
            have HHN := hid (fun W (hk : Kept [] wa6 W) => HHH.out W hk x)
            have HASK := hid (fun W (hk : Kept [] wa6 W) => (show Calls Try.prog 18 #[.pointer (some ⟨A, 0, none⟩), .int .i64 x, .agg #[.int .u8 (k1.toNat : Int), .int .u8 (k2.toNat : Int), .int .u8 (k3.toNat : Int), .int .u8 (k4.toNat : Int)], .bool true, .int .i64 0] W fun e w' => e = .returned (.int .i64 17) ∧ TabAt w' E A t ∧ KD E W w' by
              have := ask_at (HE.out.kept hk (by simp)) HLE.out (by omega) x ⟨k1, k2, k3, k4⟩ true 0
              rw [l3] at this
              exact this))
            obtain ⟨hw, hhw⟩ : ∃ hw, hw = how (t.row ⟨k1, k2, k3, k4⟩).h x := ⟨_, rfl⟩
            rw [← hhw] at HHN l2
            have hwb : (hw == 2) = false := by simpa using l2
            clear hhw l1 l2 l3
            go_wp2_with fail
            go_region_held3 (fun w' => w'.cell? ⟨g, i, none⟩ = some (.int .i64 x) ∧ w'.cell? ⟨w6.heap.size, 0, none⟩ = some (.int .u8 (k1.toNat : Int)) ∧ w'.cell? ⟨w6.heap.size, 1, none⟩ = some (.int .u8 (k2.toNat : Int)) ∧ w'.cell? ⟨w6.heap.size, 2, none⟩ = some (.int .u8 (k3.toNat : Int)) ∧ w'.cell? ⟨w6.heap.size, 3, none⟩ = some (.int .u8 (k4.toNat : Int)))
              ((refine HXN.out _ ?_; (first | (refine KD.of (Kept.trans HK7.out ?_ (fun x hx => absurd hx List.not_mem_nil)) (fun k hk => ⟨HLT.out k hk, List.not_mem_nil⟩); (repeat (first | assumption | (with_reducible exact Kept.refl _ _) | (with_reducible refine Kept.drew ?_) | (with_reducible refine Kept.alloc ?_ _) | (with_reducible refine Kept.setCell ?_ (by right; simp; try omega) _))); done) | ((repeat (first | assumption | (with_reducible exact KD.refl _ _) | (with_reducible refine KD.drew ?_) | (with_reducible refine KD.drewN ?_ _))); done))))
              (first
                | (go_at_call 13; refine (HHN.out _ (HK7.out.trans (show Kept [] w7 _ by (repeat (first | assumption | (with_reducible exact Kept.refl _ _) | (with_reducible refine Kept.drew ?_) | (with_reducible refine Kept.alloc ?_ _) | (with_reducible refine Kept.setCell ?_ (by right; simp; try omega) _)))) (fun x hx => by cases hx))).mono ?_; clear HHN; rintro e w8 ⟨rfl, hk8'⟩; have hk8 : Kept [] w7 w8 := Kept.trans (show Kept [] w7 _ by (repeat (first | assumption | (with_reducible exact Kept.refl _ _) | (with_reducible refine Kept.drew ?_) | (with_reducible refine Kept.alloc ?_ _) | (with_reducible refine Kept.setCell ?_ (by right; simp; try omega) _)))) hk8' (fun x hx => by cases hx))
                | (go_at_call 18; refine (HASK.out _ (HK7.out.trans (show Kept [] w7 _ by (repeat (first | assumption | (with_reducible exact Kept.refl _ _) | (with_reducible refine Kept.drew ?_) | (with_reducible refine Kept.alloc ?_ _) | (with_reducible refine Kept.setCell ?_ (by right; simp; try omega) _)))) (fun x hx => by cases hx))).mono ?_; clear HASK; rintro e w9 ⟨rfl, hT9, hK9'⟩; have hK9 : KD E wa6 w9 := (KD.of (show Kept [] wa6 _ from HK7.out.trans (show Kept [] w7 _ by (repeat (first | assumption | (with_reducible exact Kept.refl _ _) | (with_reducible refine Kept.drew ?_) | (with_reducible refine Kept.alloc ?_ _) | (with_reducible refine Kept.setCell ?_ (by right; simp; try omega) _)))) (fun x hx => by cases hx)) (fun k hk => ⟨HLT.out k hk, by simp⟩)).trans hK9' (fun x hx => hx)))
            have HT9 := hid hT9
            have HK9 := hid hK9
            clear hT9 hK9 hK9' hk8 hk8'
            go_wp2_with fail
            go_roundg (L.length - (i + 1))
            case measure => omega
            case rel => exact ⟨i + 1, by first | rfl | go_num, by omega, Nat.le_refl _, HT9.out.less HED.out, HKD.out.trans HK9.out (fun x hx => HED.out x hx)⟩
    · obtain rfl : i = L.length := by omega
      have hltz : ¬ (L.length : Int) < (L.length : Int) := by omega
      go_wp2_with fail
      go_returns
      exact ⟨rfl, KD.then HK2.out HK.out (fun x hx _ => HD0.out x (by omega))⟩
--@@ end
end Go.Proofs.Ytiheoddlknbomaa.lockWaits
