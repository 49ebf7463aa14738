/- LockShares: the walk. -/
import Derived.Test.YtiheoddlknbomaaLockArgs
set_option linter.all false
namespace Go.Proofs.Ytiheoddlknbomaa.lockShares
open Go.RowKit Go.Shelf Go.Lib Go.Sort Go.Proofs Go.Proofs.Ytiheoddlknbomaa
set_option linter.unusedVariables false
set_option linter.unusedSimpArgs false

def keyS7 : K4 := ⟨7, 0, 0, 0⟩
theorem KD.refl (D : Nat → Prop) (w : World) : KD D w w := ⟨rfl, rfl, rfl, Nat.le_refl _, fun _ _ => rfl⟩
theorem KD.drewN {D : Nat → Prop} {a w : World} (h : KD D a w) (n : Nat) : KD D a (w.drewN n) := ⟨h.os, h.tape, h.output, h.size, h.block⟩
theorem KD.drew {D : Nat → Prop} {a w : World} (h : KD D a w) : KD D a w.drew := ⟨h.os, h.tape, h.output, h.size, h.block⟩
def othN (tx : Int) (l : List Int) : Nat := (l.filter fun y => decide (y ≠ tx)).length
theorem othN_snoc (tx y : Int) (l : List Int) : othN tx (l ++ [y]) = othN tx l + if y ≠ tx then 1 else 0 := by
  unfold othN
  rw [List.filter_append, List.length_append]
  congr 1
  by_cases h : y = tx <;> simp [h]
theorem othN_pos {tx : Int} {l : List Int} (h : 0 < othN tx l) : ∃ y ∈ l, y ≠ tx := by
  unfold othN at h
  cases hf : l.filter fun y => decide (y ≠ tx) with
  | nil => rw [hf] at h; simp at h
  | cons y r =>
    have : y ∈ l.filter fun y => decide (y ≠ tx) := by rw [hf]; simp
    rw [List.mem_filter, decide_eq_true_eq] at this
    exact ⟨y, this⟩
theorem othN_zero {tx : Int} {l : List Int} (h : othN tx l = 0) : ∀ y ∈ l, y = tx := fun y hy => Decidable.byContradiction fun hne => by
  have hm : y ∈ l.filter fun y => decide (y ≠ tx) := List.mem_filter.2 ⟨hy, by simpa using hne⟩
  unfold othN at h
  rw [List.eq_nil_of_length_eq_zero h] at hm
  cases hm
--@@ concordatlaw08.LockShares
theorem askS {W : World} {E : Nat → Prop} {A m : Nat} {t : Ta} (h : TabAt W E A t) (hl : t.le m) (hm : m ≤ 100000) (n : Int) (ex : Bool) : Calls Try.prog 18 #[.pointer (some ⟨A, 0, none⟩), .int .i64 n, .agg #[.int .u8 7, .int .u8 0, .int .u8 0, .int .u8 0], .bool ex, .int .i64 0] W fun e w' => e = .returned (.int .i64 (t.ask n keyS7 ex 0).1) ∧ TabAt w' E A (t.ask n keyS7 ex 0).2 ∧ KD E W w' := ask_at h hl hm n keyS7 ex 0
theorem holdsS {W : World} {E : Nat → Prop} {A m : Nat} {t : Ta} (h : TabAt W E A t) (hl : t.le m) (hm : m ≤ 100000) (n : Int) : Calls Try.prog 13 #[.pointer (some ⟨A, 0, none⟩), .int .i64 n, .agg #[.int .u8 7, .int .u8 0, .int .u8 0, .int .u8 0]] W fun e w' => e = .returned (.int .i64 (how (t.row keyS7).h n)) ∧ Kept [] W w' := holds_at h hl hm n keyS7
set_option maxHeartbeats 8000000 in
set_option maxRecDepth 100000 in
theorem walk (v0 : Value) (ls : List Int) (tx : Int) (w : World) (h1 : SlAt w v0 In.ps.length ls.length (ls.flatMap In.f)) (hok : ∀ x ∈ ls, In.ok x) (_o : IntKind.i64.min ≤ tx ∧ tx ≤ IntKind.i64.max) :
    Calls Try.prog 8 #[v0, .int .i64 tx] w fun e w' => e = .returned (.bool true) ∧ Kept [] w w' := by
  clear _o hok
  rw [In.flatMap] at h1
  obtain ⟨a, cap, rfl, hmax, _, hc⟩ := h1.ex
  have HC := hid hc
  clear h1 hc
  by_cases hlen : 60 < ls.length
  · have hlenz : (60 : Int) < (ls.length : Int) := by omega
    go_enter Try.func8, Try.ntmps8
    go_wp2_with (go_at_call 9; refine (alive_any _).mono ?_; rintro e wa ⟨rfl, hka⟩)
    go_ret
    exact ⟨rfl, hka⟩
  have hlenz : (ls.length : Int) ≤ 60 := by omega
  by_cases hf1 : tx < 1
  · go_enter Try.func8, Try.ntmps8
    go_wp2_with (go_at_call 9; refine (alive_any _).mono ?_; rintro e wa ⟨rfl, hka⟩)
    go_ret
    exact ⟨rfl, hka⟩
  by_cases hf2 : 1048576 < tx
  · have hf1' : (1 : Int) ≤ tx := by omega
    clear hf1
    go_enter Try.func8, Try.ntmps8
    go_wp2_with (go_at_call 9; refine (alive_any _).mono ?_; rintro e wa ⟨rfl, hka⟩)
    go_ret
    exact ⟨rfl, hka⟩
  have hf1' : (1 : Int) ≤ tx := by omega
  have hf2' : tx ≤ (1048576 : Int) := by omega
  clear hf1 hf2
  go_enter Try.func8, Try.ntmps8
  go_wp2_with (first
    | (go_at_call 9; refine (alive_any _).mono ?_; rintro e wa ⟨rfl, hka⟩)
    | (go_at_call 19; refine (new5_any wa).mono ?_; rintro e w1 ⟨A, rfl, hT, hk⟩))
  have hsa := hka.size
  obtain ⟨E, HE, HE1, HEK⟩ : ∃ E : Nat → Prop, Hid (TabAt (w1.alloc (.cells #[.int .u8 7, .int .u8 0, .int .u8 0, .int .u8 0] 32)) E A ⟨5, [], []⟩) ∧ Hid (∀ b, b < wa.heap.size → E b) ∧ Hid (E w1.heap.size) :=
    ⟨_, hid (hT.widen ((Kept.refl [] w1).alloc _) (by simp)), hid (fun b hb => .inl hb), hid (.inr ⟨Nat.le_refl _, by simp⟩)⟩
  have HQ0 := hid (fun j u h => new_cell w1 [.int .u8 7, .int .u8 0, .int .u8 0, .int .u8 0] 32 j u h)
  have HKW0 := hid ((hka.trans hk (fun x hx => by cases hx)).alloc (.cells #[.int .u8 7, .int .u8 0, .int .u8 0, .int .u8 0] 32))
  have HSH := hid (show ShIs (⟨5, [], []⟩ : Ta) keyS7 ([] : List Int) [] from ⟨OneRow.nil 5 keyS7, (fun x hx => by cases hx), (fun tx => by simp [has])⟩)
  have HLE0 := hid (show Ta.le 0 ⟨5, [], []⟩ from fun p hp => by cases hp)
  generalize w1.heap.size = KB at *
  generalize w1.alloc (.cells #[.int .u8 7, .int .u8 0, .int .u8 0, .int .u8 0] 32) = w2 at *
  clear hT hk hka
  go_loopg [8, 9] ls.length (fun kx s8 s9 wr => ∃ (i c : Nat) (h : List Wi) (t : Ta), s8 = .int .i64 c ∧ s9 = .int .i64 i ∧ i ≤ ls.length ∧ ls.length - i ≤ kx ∧ c ≤ i ∧ t.rows.length ≤ i ∧ Aside (c = othN tx (ls.take i)) ∧ Aside (TabAt wr E A t) ∧ Aside (ShIs t keyS7 (ls.take i) h) ∧ Aside (t.le i) ∧ Aside (∀ j u, [Value.int .u8 7, .int .u8 0, .int .u8 0, .int .u8 0][j]? = some u → wr.cell? ⟨KB, j, none⟩ = some u) ∧ Aside (Kept [] w wr))
  case atStart => exact ⟨0, 0, [], _, by first | rfl | go_num, by first | rfl | go_num, by omega, by omega, by omega, by simp, rfl, HE.out, HSH.out, HLE0.out, HQ0.out, HKW0.out⟩
  case round =>
    clear HE HSH HLE0 HQ0 HKW0
    obtain ⟨i, c, h, t, rfl, rfl, hi, hix, hci, hrl, HCC, HT, HSH, HLE, HQ, HK⟩ := hrel
    rename World => wo
    by_cases hlt : i < ls.length
    · have hltz : (i : Int) < (ls.length : Int) := by omega
      obtain ⟨b, off, ha, hb, hcs⟩ := HC.out (by omega)
      subst ha
      have HTK := hid (show ls.take (i + 1) = ls.take i ++ [ls[i]] by rw [List.take_succ_eq_append_getElem hlt])
      have HL0 := hid (fun w' (hk : Kept [] w w') => hk.cell (hcs i (.int .i64 ls[i]) (by simp [hlt])) (by simp))
      have hbw : b < w.heap.size := hb
      clear hcs
      generalize ls[i] = n at *
      have c0 := HL0.out wo HK.out
      by_cases hn1 : n < 1
      · go_wp2_with fail
        go_ret
        exact ⟨rfl, HK.out⟩
      have hn1' : (1 : Int) ≤ n := by omega
      clear hn1
      by_cases hn2 : 1048576 < n
      · go_wp2_with fail
        go_ret
        exact ⟨rfl, HK.out⟩
      have hn2' : n ≤ (1048576 : Int) := by omega
      clear hn2
      obtain ⟨a1, h', a2⟩ := sh_ask HSH.out n ⟨hn1', hn2'⟩
      have HASK := hid (fun W (hk : Kept [] wo W) => askS (HT.out.kept hk (by simp)) HLE.out (by omega) n false)
      have HNLE := hid (Ta.le.ask (tx := n) (k := keyS7) HLE.out false 0)
      have hnl := Ta.ask_len (t := t) n keyS7 false 0
      rw [a1] at HASK
      generalize (t.ask n keyS7 false 0).2 = t2 at *
      have HS2 := hid a2
      have hh2 : how (t2.row keyS7).h n = 1 := by rw [← holds_how, a2.one.how, sh_how a2 n, if_pos (by simp)]
      have HHO := hid (fun W (h : TabAt W E A t2) => holdsS h HNLE.out (by omega) n)
      rw [hh2] at HHO
      clear a1 a2 hh2
      have HX := hid (fun w' (hk : KD E wo w') => (show w'.cell? ⟨b, off + i, none⟩ = some (.int .i64 n) ∧ w'.cell? ⟨KB, 0, none⟩ = some (.int .u8 7) ∧ w'.cell? ⟨KB, 1, none⟩ = some (.int .u8 0) ∧ w'.cell? ⟨KB, 2, none⟩ = some (.int .u8 0) ∧ w'.cell? ⟨KB, 3, none⟩ = some (.int .u8 0) from ⟨hk.cell c0 (HE1.out b (by omega)), hk.cell (HQ.out 0 _ rfl) HEK.out, hk.cell (HQ.out 1 _ rfl) HEK.out, hk.cell (HQ.out 2 _ rfl) HEK.out, hk.cell (HQ.out 3 _ rfl) HEK.out⟩))
      have HLT := hid HT.out.lt
      go_wp2_with fail
      go_region_held3 (fun w' => w'.cell? ⟨b, off + i, none⟩ = some (.int .i64 n) ∧ w'.cell? ⟨KB, 0, none⟩ = some (.int .u8 7) ∧ w'.cell? ⟨KB, 1, none⟩ = some (.int .u8 0) ∧ w'.cell? ⟨KB, 2, none⟩ = some (.int .u8 0) ∧ w'.cell? ⟨KB, 3, none⟩ = some (.int .u8 0))
        ((refine HX.out _ ?_; (first | (refine KD.of (S := []) ?_ (fun k hk => ⟨HLT.out k hk, List.not_mem_nil⟩); (repeat (first | assumption | (with_reducible exact Kept.refl _ _) | (with_reducible refine Kept.drew ?_) | (with_reducible refine Kept.alloc ?_ _) | (with_reducible refine Kept.setCell ?_ (by right; simp; try omega) _))); done) | ((repeat (first | assumption | (with_reducible exact KD.refl _ _) | (with_reducible refine KD.drew ?_) | (with_reducible refine KD.drewN ?_ _))); done) | (refine hK4.trans (KD.of (S := []) ?_ (fun k hk => ⟨hT4.lt k hk, List.not_mem_nil⟩)) (fun x hx => hx); (repeat (first | assumption | (with_reducible exact Kept.refl _ _) | (with_reducible refine Kept.drew ?_) | (with_reducible refine Kept.alloc ?_ _) | (with_reducible refine Kept.setCell ?_ (by right; simp; try omega) _))); done))))
        (first
          | (go_at_call 18; refine (HASK.out _ (show Kept [] wo _ by (repeat (first | assumption | (with_reducible exact Kept.refl _ _) | (with_reducible refine Kept.drew ?_) | (with_reducible refine Kept.alloc ?_ _) | (with_reducible refine Kept.setCell ?_ (by right; simp; try omega) _))))).mono ?_; clear HASK; rintro e w4 ⟨rfl, hT4, hK4'⟩; have hK4 : KD E wo w4 := (KD.of (show Kept [] wo _ by (repeat (first | assumption | (with_reducible exact Kept.refl _ _) | (with_reducible refine Kept.drew ?_) | (with_reducible refine Kept.alloc ?_ _) | (with_reducible refine Kept.setCell ?_ (by right; simp; try omega) _)))) (fun k hk => ⟨HLT.out k hk, List.not_mem_nil⟩)).trans hK4' (fun x hx => hx))
          | (go_at_call 13; refine (HHO.out _ (hT4.kept (show Kept [] w4 _ by (repeat (first | assumption | (with_reducible exact Kept.refl _ _) | (with_reducible refine Kept.drew ?_) | (with_reducible refine Kept.alloc ?_ _) | (with_reducible refine Kept.setCell ?_ (by right; simp; try omega) _)))) (by simp))).mono ?_; clear HHO; rintro e w5 ⟨rfl, hk5'⟩; have hk5 : Kept [] w4 w5 := Kept.trans (show Kept [] w4 _ by (repeat (first | assumption | (with_reducible exact Kept.refl _ _) | (with_reducible refine Kept.drew ?_) | (with_reducible refine Kept.alloc ?_ _) | (with_reducible refine Kept.setCell ?_ (by right; simp; try omega) _)))) hk5' (fun x hx => by cases hx)))
      have HT5 := hid (hT4.kept hk5 (by simp))
      have HKD5 := hid (hK4.trans (KD.of hk5 (D := E) (fun k hk => ⟨hT4.lt k hk, by simp⟩)) (fun x hx => hx))
      have HK5 := hid (show Kept [] w w5 from KD.then HK.out HKD5.out (fun x hx _ => HE1.out x (by omega)))
      have HQ5 := hid (show ∀ j u, [Value.int .u8 7, .int .u8 0, .int .u8 0, .int .u8 0][j]? = some u → w5.cell? ⟨KB, j, none⟩ = some u from fun j u h => HKD5.out.cell (HQ.out j u h) HEK.out)
      have c5 := HL0.out w5 HK5.out
      clear hT4 hK4 hK4' hk5 hk5' c0 HX
      have HON := hid (show othN tx (ls.take (i + 1)) = othN tx (ls.take i) + if n ≠ tx then 1 else 0 by rw [HTK.out, othN_snoc])
      by_cases hnt : n = tx
      · subst hnt
        have hnb : (n != n) = false := by simp
        go_wp2_with fail
        go_roundg (ls.length - (i + 1))
        case measure => omega
        case rel => exact ⟨i + 1, c, h', t2, by first | rfl | go_num, by first | rfl | go_num, by omega, Nat.le_refl _, by omega, by omega, by show _ = _; rw [HON.out, ← HCC.out]; simp, HT5.out, by show ShIs _ _ _ _; rw [HTK.out]; exact HS2.out, HNLE.out, HQ5.out, HK5.out⟩
      · have hnb : (n != tx) = true := by simpa using hnt
        have HNT := hid hnt
        clear hnt
        go_wp2_with fail
        go_roundg (ls.length - (i + 1))
        case measure => omega
        case rel => exact ⟨i + 1, c + 1, h', t2, by first | rfl | go_num, by first | rfl | go_num, by omega, Nat.le_refl _, by omega, by omega, by show _ = _; rw [HON.out, ← HCC.out, if_pos HNT.out], HT5.out, by show ShIs _ _ _ _; rw [HTK.out]; exact HS2.out, HNLE.out, HQ5.out, HK5.out⟩
    · obtain rfl : i = ls.length := by omega
      have hltz : ¬ (ls.length : Int) < (ls.length : Int) := by omega
      rw [List.take_length] at HCC HSH
      have HASK := hid (askS HT.out HLE.out (by omega) tx true)
      have HNLE := hid (Ta.le.ask (tx := tx) (k := keyS7) HLE.out true 0)
      have q0 := HQ.out 0 _ rfl
      have q1 := HQ.out 1 _ rfl
      have q2 := HQ.out 2 _ rfl
      have q3 := HQ.out 3 _ rfl
      by_cases hc0 : c = 0
      · have hcz : ¬ (0 : Int) < (c : Int) := by omega
        obtain ⟨a1, a2⟩ := sh_alone HSH.out tx ⟨hf1', hf2'⟩ (othN_zero (HCC.out.symm.trans hc0))
        rw [a1] at HASK
        rw [holds_how] at a2
        generalize (t.ask tx keyS7 true 0).2 = t2 at *
        have HA2 := hid a2
        clear a1 a2 hc0
        go_wp2_with (go_at_call 18; refine Here.mk ?_)
        refine Here.of ?_
        refine HASK.out.mono ?_
        rintro e w3 ⟨rfl, hT3, hK3⟩
        have HT3 := hid hT3
        have HK3 := hid (KD.then HK.out hK3 (fun x hx _ => HE1.out x (by omega)))
        have hq := fun j u h => hK3.cell (HQ.out j u h) HEK.out
        clear q0 q1 q2 q3 hT3 hK3
        have q0 := hq 0 _ rfl
        have q1 := hq 1 _ rfl
        have q2 := hq 2 _ rfl
        have q3 := hq 3 _ rfl
        clear hq
        go_wp2_with (go_at_call 13; refine Here.mk ?_)
        refine Here.of ?_
        refine (holdsS HT3.out HNLE.out (by omega) tx).mono ?_
        rw [HA2.out]
        rintro e w4 ⟨rfl, hk4⟩
        go_wp2_with fail
        go_returns
        exact ⟨rfl, HK3.out.trans hk4 (fun x hx => by cases hx)⟩
      · have hcz : (0 : Int) < (c : Int) := by omega
        obtain ⟨y, hy, hyt⟩ := othN_pos (show 0 < othN tx ls by rw [← HCC.out]; omega)
        obtain ⟨a1, a2⟩ := sh_wait HSH.out tx ⟨hf1', hf2'⟩ y hy hyt
        rw [a1] at HASK
        rw [holds_how] at a2
        generalize (t.ask tx keyS7 true 0).2 = t2 at *
        have HA2 := hid a2
        clear a1 a2 hc0 hy hyt
        go_wp2_with (go_at_call 18; refine Here.mk ?_)
        refine Here.of ?_
        refine HASK.out.mono ?_
        rintro e w3 ⟨rfl, hT3, hK3⟩
        have HT3 := hid hT3
        have HK3 := hid (KD.then HK.out hK3 (fun x hx _ => HE1.out x (by omega)))
        have hq := fun j u h => hK3.cell (HQ.out j u h) HEK.out
        clear q0 q1 q2 q3 hT3 hK3
        have q0 := hq 0 _ rfl
        have q1 := hq 1 _ rfl
        have q2 := hq 2 _ rfl
        have q3 := hq 3 _ rfl
        clear hq
        go_wp2_with (go_at_call 13; refine Here.mk ?_)
        refine Here.of ?_
        refine (holdsS HT3.out HNLE.out (by omega) tx).mono ?_
        rintro e w4 ⟨rfl, hk4⟩
        have ha2 := HA2.out
        generalize how (t2.row keyS7).h tx = hw at *
        go_wp2_with fail
        go_returns
        exact ⟨rfl, HK3.out.trans hk4 (fun x hx => by cases hx)⟩
--@@ end
end Go.Proofs.Ytiheoddlknbomaa.lockShares
