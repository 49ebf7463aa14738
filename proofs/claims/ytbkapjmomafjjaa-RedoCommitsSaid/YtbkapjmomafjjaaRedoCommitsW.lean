/- RedoCommits: the walk. -/
import Derived.Test.YtbkapjmomafjjaaM10
set_option linter.all false
namespace Go.Proofs.Ytbkapjmomafjjaa.redoCommits
open Go.RowKit Go.Shelf Go.Lib Go.Sort Go.Proofs Go.Proofs.Ytbkapjmomafjjaa
set_option linter.unusedVariables false
set_option linter.unusedSimpArgs false

def allR (l : List Rc) (tx : Int) (ps : List Pr) : List Rc := l ++ (endR tx :: writesR tx ps)
theorem allR_snoc (l : List Rc) (tx : Int) (ps : List Pr) (p : Pr) : allR l tx (ps ++ [p]) = allR l tx ps ++ [⟨1, tx, 0, p.key, V.zero, p.val⟩] := by simp [allR, writesR]
theorem allR_len (l : List Rc) (tx : Int) (ps : List Pr) : (allR l tx ps).length = l.length + 1 + ps.length := by simp [allR, writesR]; omega
theorem allR_yes (l : List Rc) (tx : Int) (ps : List Pr) (m : Nat) : allR l tx ps ++ [yesR tx m] = l ++ (endR tx :: (writesR tx ps ++ [yesR tx m])) := by simp [allR]
theorem allR_com (l : List Rc) (tx : Int) (ps : List Pr) (m : Nat) : (allR l tx ps ++ [yesR tx m]) ++ [comR tx] = l ++ (endR tx :: (writesR tx ps ++ [yesR tx m, comR tx])) := by simp [allR]
theorem allR_ms (l : List Rc) (tx : Int) (ps : List Pr) (m : Nat) (hm : m ≤ 65535) (hl : ∀ r ∈ l, r.mask ≤ 65535) : ∀ r ∈ (allR l tx ps ++ [yesR tx m]) ++ [comR tx], r.mask ≤ 65535 := fun r hr => by
  simp only [allR, List.mem_append, List.mem_cons, writesR, List.mem_map, List.not_mem_nil, or_false] at hr
  rcases hr with ((h | h | ⟨p, _, h⟩) | h) | h
  · exact hl r h
  · subst h; exact Nat.zero_le _
  · subst h; exact Nat.zero_le _
  · subst h; exact hm
  · subst h; exact Nat.zero_le _
--@@ concordatlaw11.RedoCommits
set_option maxHeartbeats 8000000 in
set_option maxRecDepth 100000 in
theorem walk (v0 : Value) (l : List Rc) (tx mk : Int) (v3 : Value) (ps : List Pr) (w : World) (h0 : SlAt w v0 Rc.ps.length l.length (l.flatMap Rc.f)) (hok : ∀ x ∈ l, x.ok) (_ht : IntKind.i64.min ≤ tx ∧ tx ≤ IntKind.i64.max) (hmk : IntKind.u16.min ≤ mk ∧ mk ≤ IntKind.u16.max) (h3 : SlAt w v3 Pr.ps.length ps.length (ps.flatMap Pr.f)) (_ho3 : ∀ x ∈ ps, x.ok) :
    Calls Try.prog 6 #[v0, .int .i64 tx, .int .u16 mk, v3] w fun e w' => e = .returned (.bool true) ∧ Kept [] w w' := by
  have hm0 : (0 : Int) ≤ mk := hmk.1
  have hm1 : mk ≤ (65535 : Int) := hmk.2
  obtain ⟨m, rfl⟩ : ∃ m : Nat, mk = (m : Int) := ⟨mk.toNat, by omega⟩
  clear _ht hmk _ho3 hm0
  have H0 := hid (show SlAt w v0 11 l.length (l.flatMap Rc.f) from h0)
  have H3 := hid (show SlAt w v3 6 ps.length (ps.flatMap Pr.f) from h3)
  obtain ⟨a, cap, rfl, hmax, _, hc⟩ := h0.ex
  obtain ⟨a3, cap3, rfl, hmax3, _, hc3⟩ := h3.ex
  have HC := hid hc
  have HC3 := hid hc3
  clear h0 hc h3 hc3
  by_cases hlen : 100 < l.length
  · have hlenz : (100 : Int) < (l.length : Int) := by omega
    clear hok
    go_enter Try.func6, Try.ntmps6
    go_wp2_with (go_at_call 9; refine (alive11_any _).mono ?_; rintro e wa ⟨rfl, hka⟩)
    go_ret
    exact ⟨rfl, hka⟩
  have hlenz : (l.length : Int) ≤ 100 := by omega
  by_cases hlen3 : 30 < ps.length
  · have hlenz3 : (30 : Int) < (ps.length : Int) := by omega
    clear hok
    go_enter Try.func6, Try.ntmps6
    go_wp2_with (go_at_call 9; refine (alive11_any _).mono ?_; rintro e wa ⟨rfl, hka⟩)
    go_ret
    exact ⟨rfl, hka⟩
  have hlenz3 : (ps.length : Int) ≤ 30 := by omega
  by_cases ht1 : tx < 1
  · clear hok
    go_enter Try.func6, Try.ntmps6
    go_wp2_with (go_at_call 9; refine (alive11_any _).mono ?_; rintro e wa ⟨rfl, hka⟩)
    go_ret
    exact ⟨rfl, hka⟩
  have htx1 : (1 : Int) ≤ tx := by omega
  by_cases ht2 : 1048576 < tx
  · clear ht1 hok
    go_enter Try.func6, Try.ntmps6
    go_wp2_with (go_at_call 9; refine (alive11_any _).mono ?_; rintro e wa ⟨rfl, hka⟩)
    go_ret
    exact ⟨rfl, hka⟩
  have htx2 : tx ≤ (1048576 : Int) := by omega
  clear ht1 ht2
  by_cases hmz : m = 0
  · subst hmz
    clear hok
    go_enter Try.func6, Try.ntmps6
    go_wp2_with (go_at_call 9; refine (alive11_any _).mono ?_; rintro e wa ⟨rfl, hka⟩)
    go_ret
    exact ⟨rfl, hka⟩
  have hmb : ((m : Int) == 0) = false := by simpa using hmz
  have HRE := hid (fun W (hK : Kept [] w W) => replay_any _ l W (H0.out.kept hK) (by omega) hok)
  have hms := allR_ms l tx ps m (by omega) hok
  have HRD := hid (fun W v (h : SlAt W v 11 (allR l tx ps ++ [yesR tx m]).length ((allR l tx ps ++ [yesR tx m]).flatMap Rc.f)) => replay_anyF v (allR l tx ps ++ [yesR tx m]) W h (by simp [allR_len]; omega) (fun r hr => hms r (List.mem_append_left _ hr)))
  have HRA := hid (fun W v (h : SlAt W v 11 ((allR l tx ps ++ [yesR tx m]) ++ [comR tx]).length (((allR l tx ps ++ [yesR tx m]) ++ [comR tx]).flatMap Rc.f)) => replay_any v ((allR l tx ps ++ [yesR tx m]) ++ [comR tx]) W h (by simp [allR_len]; omega) hms)
  have HLAW := hid (law_commits l tx ⟨htx1, htx2⟩ m hmz ps)
  have hsz := st_sizes l hok
  have hszD := st_sizes (allR l tx ps ++ [yesR tx m]) (fun r hr => hms r (List.mem_append_left _ hr))
  have hszA := st_sizes ((allR l tx ps ++ [yesR tx m]) ++ [comR tx]) hms
  rw [← allR_yes, ← allR_com] at HLAW
  have hlD : (allR l tx ps ++ [yesR tx m]).length ≤ 200 := by simp [allR_len]; omega
  have hlA : ((allR l tx ps ++ [yesR tx m]) ++ [comR tx]).length ≤ 200 := by simp [allR_len]; omega
  obtain ⟨S, hS⟩ : ∃ S, S = replayP l := ⟨_, rfl⟩
  obtain ⟨SD, hSD⟩ : ∃ S, S = replayP (allR l tx ps ++ [yesR tx m]) := ⟨_, rfl⟩
  obtain ⟨SA, hSA⟩ : ∃ S, S = replayP ((allR l tx ps ++ [yesR tx m]) ++ [comR tx]) := ⟨_, rfl⟩
  rw [← hS] at HRE HLAW hsz
  rw [← hSD] at HRD HLAW hszD
  rw [← hSA] at HRA HLAW hszA
  have hb1 : S.base.length ≤ 200 := by omega
  have hb2 : S.txs.length ≤ 200 := by omega
  have HX := hid (show ∀ x ∈ S.txs, x.ws.length ≤ 20000 from fun x hx => by have := hsz.2.2 x hx; omega)
  have hbD1 : SD.base.length ≤ 200 := by omega
  have hbD2 : SD.txs.length ≤ 200 := by omega
  have HXD := hid (show ∀ x ∈ SD.txs, x.ws.length ≤ 20000 from fun x hx => by have := hszD.2.2 x hx; omega)
  have hbA1 : SA.base.length ≤ 200 := by omega
  have hbA2 : SA.txs.length ≤ 200 := by omega
  have HXA := hid (show ∀ x ∈ SA.txs, x.ws.length ≤ 20000 from fun x hx => by have := hszA.2.2 x hx; omega)
  clear hS hSD hSA hok hsz hszD hszA hms hlD hlA hmz
  go_enter Try.func6, Try.ntmps6
  go_wp2_with (go_at_call 9; refine (alive11_any _).mono ?_; rintro e wa ⟨rfl, hka⟩; have HKA := hid hka; clear hka)
  go_loopg [9] l.length (fun kx s9 wr => ∃ i : Nat, s9 = .int .i64 i ∧ i ≤ l.length ∧ l.length - i ≤ kx ∧ wr = wa)
  case atStart => exact ⟨0, by first | rfl | go_num, by omega, by omega, rfl⟩
  case round =>
    obtain ⟨i, rfl, hi, hix, rfl⟩ := hrel
    by_cases hlt : i < l.length
    · have hltz : (i : Int) < (l.length : Int) := by omega
      obtain ⟨b, off, rfl, _, d1⟩ := HC.out (by omega)
      obtain ⟨q0, _⟩ := rec_cells (fun j u hu => HKA.out.cell (d1 j u hu) (by simp)) hlt
      clear d1
      generalize l[i] = r at *
      obtain ⟨kind, rtx, mask, ky, o, n⟩ := r
      dsimp only at q0
      by_cases h8 : kind = 8
      · subst h8
        go_wp2
        go_returns
        exact ⟨rfl, HKA.out⟩
      have b8 : (kind == 8) = false := by simpa using h8
      clear h8
      go_wp2
      go_roundg (l.length - (i + 1))
      case measure => omega
      case rel => exact ⟨i + 1, by first | rfl | go_num, by omega, Nat.le_refl _, rfl⟩
    · obtain rfl : i = l.length := by omega
      have hltz : ¬ (l.length : Int) < (l.length : Int) := by omega
      rename World => wa
      go_wp2_with (first
        | (go_at_call 15; refine (HRE.out _ HKA.out).mono ?_; clear HRE; rintro e w1 ⟨bv, tv, rfl, hst, hk1⟩; obtain ⟨xa, xc, ya, yc, rfl, rfl⟩ := hst.slices; have HST := hid hst; have HK1 := hid (HKA.out.trans hk1 (fun x hx => .inl hx)); clear hst hk1)
        | (at_builtin; refine Here.mk ?_))
      have HKB := hid (HK1.out.alloc (.cells #[.slice xa S.base.length xc, .slice ya S.txs.length yc] 32))
      have HBB := hid (fun W (hK : Kept [] (w1.alloc (.cells #[.slice xa S.base.length xc, .slice ya S.txs.length yc] 32)) W) => blk2 hK)
      have HSB := hid (HST.out.kept ((Kept.refl [] w1).alloc (.cells #[.slice xa S.base.length xc, .slice ya S.txs.length yc] 32)))
      clear HST HK1
      have hwz : (w1.alloc (.cells #[.slice xa S.base.length xc, .slice ya S.txs.length yc] 32)).heap.size = w1.heap.size + 1 := World.size_alloc _ _
      generalize w1.heap.size = BX at *
      generalize w1.alloc (.cells #[.slice xa S.base.length xc, .slice ya S.txs.length yc] 32) = wb at *
      rw [← hwz]
      clear hwz
      refine Here.of ?_
      refine wpList_append_rc rfl _ _ rfl wb.heap.size _ [] rfl (recs_made0 wb wb.heap.size (Nat.le_refl _)) _ l rfl (H0.out.kept (HKB.out.alloc _)) (by simp; omega) (by simp) ?_
      intro u1 x1 hown1 hgr1 hnn1
      have HO1 := hid (show x1.ownsRow wb.heap.size 43 11 u1 l.length (l.flatMap Rc.f) from hown1)
      have HKx1 := hid (((Kept.refl [] wb).alloc (.cells #[] 43)).grown_own (recs_made0 wb wb.heap.size (Nat.le_refl _)) hgr1 (Nat.le_refl _))
      clear hown1 hgr1 hnn1
      go_wp2_with (at_builtin; refine Here.mk ?_)
      refine Here.of ?_
      refine wpList_append_rc rfl _ _ rfl wb.heap.size _ l rfl (ownsRow_kept HO1.out ((Kept.refl [] x1).alloc _) (by simp)) _ [⟨6, tx, 0, ⟨0, 0, 0, 0⟩, V.zero, V.zero⟩] rfl (SlAt.rec1 x1 ⟨6, tx, 0, ⟨0, 0, 0, 0⟩, V.zero, V.zero⟩) (by simp; omega) (by have := HKx1.out.size; simp; omega) ?_
      intro u2 x2 hown2 hgr2 hnn2
      have HO2 := hid (show x2.ownsRow wb.heap.size 43 11 u2 (allR l tx []).length ((allR l tx []).flatMap Rc.f) from hown2)
      have HKx2 := hid ((HKx1.out.alloc _).grown_own (ownsRow_kept HO1.out ((Kept.refl [] x1).alloc _) (by simp)) hgr2 (Nat.le_refl _))
      clear hown2 hgr2 hnn2 HO1 HKx1
      go_wp2_with fail
      go_loopg [11, 12] ps.length (fun kx s11 s12 wr => ∃ k : Nat, s12 = .int .i64 k ∧ k ≤ ps.length ∧ ps.length - k ≤ kx ∧ Aside (wr.ownsRow wb.heap.size 43 11 s11 (allR l tx (ps.take k)).length ((allR l tx (ps.take k)).flatMap Rc.f)) ∧ Aside (Kept [] wb wr) ∧ Aside (∀ p ∈ ps.take k, p.val.right = true))
      case atStart => exact ⟨0, by first | rfl | go_num, by omega, by omega, HO2.out, HKx2.out, fun p hp => by simp at hp⟩
      case round =>
        clear HO2 HKx2
        obtain ⟨k, rfl, hk, hkx, HO, HK, HN⟩ := hrel
        rename World => wq
        by_cases hlt2 : k < ps.length
        · have hltz2 : (k : Int) < (ps.length : Int) := by omega
          obtain ⟨b, off, rfl, _, d1⟩ := HC3.out (by omega)
          have HS := hid (fun W (hK : Kept [] wb W) => pair_cells (fun j u hu => (HKB.out.trans hK (fun x hx => .inl hx)).cell (d1 j u hu) (by simp)) hlt2)
          have HT := hid (show ps.take (k + 1) = ps.take k ++ [ps[k]] by rw [List.take_succ_eq_append_getElem hlt2])
          have HLL := hid (show (allR l tx (ps.take k)).length ≤ 200 by rw [allR_len, List.length_take]; omega)
          clear d1
          generalize ps[k] = p at *
          obtain ⟨⟨x1, x2, x3, x4⟩, ⟨x5, x6⟩⟩ := p
          dsimp only at HS
          obtain ⟨_, _, _, _, q4, q5⟩ := HS.out _ HK.out
          have HRV := hid (rright_any ⟨x5, x6⟩)
          simp only [V.v] at HRV
          cases hvr : (⟨x5, x6⟩ : V).right with
          | false =>
            rw [hvr] at HRV
            have HKW := hid (HKB.out.trans HK.out (fun x hx => .inl hx))
            go_wp2_with (go_at_call 19; refine (HRV.out _).mono ?_; rintro e w4 ⟨rfl, hk4⟩)
            go_returns
            exact ⟨rfl, HKW.out.trans hk4 (fun x hx => .inl hx)⟩
          | true =>
            rw [hvr] at HRV
            have HNN := hid (show ∀ p ∈ ps.take (k + 1), p.val.right = true from fun p hp => by
              rw [HT.out] at hp
              rcases List.mem_append.1 hp with hp | hp
              · exact HN.out p hp
              · rw [List.mem_singleton] at hp; subst hp; exact hvr)
            have HTA := hid (show allR l tx (ps.take (k + 1)) = allR l tx (ps.take k) ++ [⟨1, tx, 0, ⟨x1, x2, x3, x4⟩, V.zero, ⟨x5, x6⟩⟩] by rw [HT.out, allR_snoc])
            clear hvr HN HT
            go_wp2_with (go_at_call 19; refine (HRV.out _).mono ?_; rintro e w4 ⟨rfl, hk4⟩)
            have HK4 := hid (HK.out.trans hk4 (fun x hx => .inl hx))
            have HO4 := hid (ownsRow_kept HO.out hk4 (by simp))
            clear hk4 HO HK q4 q5 HRV
            have hkd := HK4.out.drew
            have HSD := hid (HO4.out)
            go_region_held3 (fun w' => w'.cell? ⟨b, off + k * 6, none⟩ = some (.int .u8 (x1.toNat : Int)) ∧ w'.cell? ⟨b, off + k * 6 + 1, none⟩ = some (.int .u8 (x2.toNat : Int)) ∧ w'.cell? ⟨b, off + k * 6 + 2, none⟩ = some (.int .u8 (x3.toNat : Int)) ∧ w'.cell? ⟨b, off + k * 6 + 3, none⟩ = some (.int .u8 (x4.toNat : Int)) ∧ w'.cell? ⟨b, off + k * 6 + 4, none⟩ = some (.bool x5) ∧ w'.cell? ⟨b, off + k * 6 + 5, none⟩ = some (.int .i64 x6))
              ((refine HS.out _ ?_; first | exact hk5 | exact hkd | (repeat (first | assumption | (with_reducible exact Kept.refl _ _) | (with_reducible refine Kept.drew ?_) | (with_reducible refine Kept.alloc ?_ _) | (with_reducible refine Kept.setCell ?_ (by right; simp; try omega) _)))))
              ((refine wp_append_rc _ _ rfl wb.heap.size _ _ rfl (ownsRow_kept HO4.out (((Kept.refl [] w4).drew).alloc _) (by simp)) _ [⟨1, tx, 0, ⟨x1, x2, x3, x4⟩, V.zero, ⟨x5, x6⟩⟩] rfl (SlAt.rec1 w4.drew ⟨1, tx, 0, ⟨x1, x2, x3, x4⟩, V.zero, ⟨x5, x6⟩⟩) (by have := HLL.out; simp; omega) (by have := HK4.out.size; simp; omega) ?_; intro v5 w5 hown5 hgr5 _; have hk5 := (hkd.alloc (.cells (Rc.f ⟨1, tx, 0, ⟨x1, x2, x3, x4⟩, V.zero, ⟨x5, x6⟩⟩).toArray 43)).grown_own (ownsRow_kept HO4.out (((Kept.refl [] w4).drew).alloc _) (by simp)) hgr5 (Nat.le_refl _)))
            have HK5 := hid hk5
            have HO5 := hid hown5
            clear hown5 hgr5 hk5 hkd
            go_wp2_with fail
            go_roundg (ps.length - (k + 1))
            case measure => omega
            case rel => exact ⟨k + 1, by first | rfl | go_num, by omega, Nat.le_refl _, by show World.ownsRow _ _ _ _ _ _ _; rw [HTA.out]; exact HO5.out, HK5.out, HNN.out⟩
        · obtain rfl : k = ps.length := by omega
          have hltz2 : ¬ (ps.length : Int) < (ps.length : Int) := by omega
          have hn := HN.out
          have ho := HO.out
          rw [List.take_length] at hn ho
          obtain ⟨hlw1, hlw2⟩ := HLAW.out hn
          have HO2 := hid ho
          have HL1 := hid hlw1
          have HL2 := hid hlw2
          have hqs := HK.out.size
          have hal := allR_len l tx ps
          have hal2 : (allR l tx ps).length ≤ 200 := by omega
          clear hn ho HO HN HLAW hlw1 hlw2 hal hkx
          go_wp2_with (at_builtin; refine Here.mk ?_)
          refine Here.of ?_
          refine wpList_append_rc rfl _ _ rfl wb.heap.size _ (allR l tx ps) rfl (ownsRow_kept HO2.out ((Kept.refl [] wq).alloc _) (by simp)) _ [⟨2, tx, m, ⟨0, 0, 0, 0⟩, V.zero, V.zero⟩] rfl (SlAt.rec1 wq ⟨2, tx, m, ⟨0, 0, 0, 0⟩, V.zero, V.zero⟩) (by simp; omega) (by simp; omega) ?_
          intro u4 x4 hown4 hgr4 hnn4
          have HO4 := hid (show x4.ownsRow wb.heap.size 43 11 u4 (allR l tx ps ++ [yesR tx m]).length ((allR l tx ps ++ [yesR tx m]).flatMap Rc.f) from hown4)
          have HKx4 := hid ((HK.out.alloc _).grown_own (ownsRow_kept HO2.out ((Kept.refl [] wq).alloc _) (by simp)) hgr4 (Nat.le_refl _))
          clear hown4 hgr4 hnn4 HO2
          go_wp2_with (first
            | (go_at_call 15; refine (HRD.out _ _ (SlAt.of_own HO4.out)).mono ?_; clear HRD; rintro e w5 ⟨bv5, tv5, rfl, hst5, hk5⟩; obtain ⟨xa5, xc5, ya5, yc5, rfl, rfl⟩ := hst5.st.slices)
            | (at_builtin; refine Here.mk ?_))
          have HKx5 := hid (HKx4.out.trans hk5 (fun x hx => .inl hx))
          have HO5 := hid (ownsRow_kept HO4.out hk5 (by simp))
          have HS5 := hid hst5
          have hx4s := hk5.size
          have HLT4 := hid (fun x (hx : u4.ownBlock = some x) => show x < x4.heap.size from (HO4.out.lt x hx).2)
          have HB5 := hid (fun T (hT : w5.heap.size ∉ T) W (hK : Kept T (w5.alloc (.cells #[.slice xa5 SD.base.length xc5, .slice ya5 SD.txs.length yc5] 32)) W) => show W.cell? ⟨w5.heap.size, 0, none⟩ = some (.slice xa5 SD.base.length xc5) ∧ W.cell? ⟨w5.heap.size, 1, none⟩ = some (.slice ya5 SD.txs.length yc5) from
            ⟨hK.cell (new_cell w5 [.slice xa5 SD.base.length xc5, .slice ya5 SD.txs.length yc5] 32 0 _ rfl) hT, hK.cell (new_cell w5 [.slice xa5 SD.base.length xc5, .slice ya5 SD.txs.length yc5] 32 1 _ rfl) hT⟩)
          have HK5d := hid (HKx5.out.alloc (.cells #[.slice xa5 SD.base.length xc5, .slice ya5 SD.txs.length yc5] 32))
          have HO5d := hid (ownsRow_kept HO5.out ((Kept.refl [] w5).alloc (.cells #[.slice xa5 SD.base.length xc5, .slice ya5 SD.txs.length yc5] 32)) (by simp))
          have HS5d := hid (HS5.out.kept_of ((Kept.refl [] w5).alloc (.cells #[.slice xa5 SD.base.length xc5, .slice ya5 SD.txs.length yc5] 32)) (by simp))
          have hwz : (w5.alloc (.cells #[.slice xa5 SD.base.length xc5, .slice ya5 SD.txs.length yc5] 32)).heap.size = w5.heap.size + 1 := World.size_alloc _ _
          clear hst5 hk5 HO4 HO5 HS5 HKx5 HKx4
          generalize w5.heap.size = BY at *
          generalize w5.alloc (.cells #[.slice xa5 SD.base.length xc5, .slice ya5 SD.txs.length yc5] 32) = d5 at *
          rw [← hwz]
          clear hwz
          refine Here.of ?_
          refine wpList_append_rc rfl _ _ rfl wb.heap.size _ (allR l tx ps ++ [yesR tx m]) rfl (ownsRow_kept HO5d.out ((Kept.refl [] d5).alloc _) (by simp)) _ [⟨4, tx, 0, ⟨0, 0, 0, 0⟩, V.zero, V.zero⟩] rfl (SlAt.rec1 d5 ⟨4, tx, 0, ⟨0, 0, 0, 0⟩, V.zero, V.zero⟩) (by simp; omega) (by have := HK5d.out.size; simp; omega) ?_
          intro u6 x6 hown6 hgr6 hnn6
          have hgr6 := (show World.grownBy _ x6 u4.ownBlock from hgr6)
          have HO6 := hid (SlAt.of_own (show x6.ownsRow wb.heap.size 43 11 u6 ((allR l tx ps ++ [yesR tx m]) ++ [comR tx]).length (((allR l tx ps ++ [yesR tx m]) ++ [comR tx]).flatMap Rc.f) from hown6))
          have HK6 := hid ((HK5d.out.alloc _).grown_own (ownsRow_kept HO5d.out ((Kept.refl [] d5).alloc _) (by simp)) hgr6 (Nat.le_refl _))
          have hk6r := Kept.trans (T := u4.ownBlock.toList) (((Kept.refl [] d5).alloc _).mono (T := u4.ownBlock.toList) (by simp)) (Kept.of_grown hgr6 _ (fun k hk => by simpa using hk)) (fun x hx => .inl hx)
          have HB6 := hid (fun W (hK : Kept [] x6 W) => HB5.out u4.ownBlock.toList (fun hx => by have := HLT4.out _ (by simpa using hx); omega) W (hk6r.trans hK (fun x hx => by cases hx)))
          have HS6 := hid (HS5d.out.kept_of hk6r (fun x hx => HLT4.out x (by simpa using hx))).st
          clear hown6 hgr6 hnn6 hk6r HO5d HS5d HB5 HLT4 hx4s HK5d
          have HOA := hid (fun W (hK : Kept [] wb W) => stof_any _ _ S W (HSB.out.kept hK).r (by omega) (by omega) HX.out)
          have HOB := hid (fun W (hK : Kept [] x6 W) => stof_any _ _ SD W (HS6.kept hK).r (by omega) (by omega) HXD.out)
          have HOC := hid (fun W bv tv (h : StAt W bv tv SA) => stof_any _ _ SA W h.r (by omega) (by omega) HXA.out)
          have HSP := hid (fun W v1 v2 (h1 : SlAt W v1 6 SD.base.length (SD.base.flatMap Pr.f)) (h2 : SlAt W v2 6 S.base.length (S.base.flatMap Pr.f)) => by
            have := samePairs_any v1 v2 SD.base S.base W h1 h2
            rw [decide_eq_true HL1.out] at this
            exact this)
          have HSQ := hid (fun W v1 v2 (h1 : SlAt W v1 6 SA.base.length (SA.base.flatMap Pr.f)) (h2 : SlAt W v2 6 (sortP (S.base ++ ps)).length ((sortP (S.base ++ ps)).flatMap Pr.f)) => by
            have := samePairs_any v1 v2 SA.base (sortP (S.base ++ ps)) W h1 h2
            rw [decide_eq_true HL2.out] at this
            exact this)
          have HOV := hid (fun W v1 (h1 : SlAt W v1 6 S.base.length (S.base.flatMap Pr.f)) (hK : Kept [] w W) => rover_any v1 _ S.base ps W h1 (H3.out.kept hK) (by omega) (by omega))
          have hfd := field_base
          have HKW6 := hid (HKB.out.trans HK6.out (fun x hx => .inl hx))
          go_wp2_with (first
            | (go_at_call 15; refine (HRA.out _ _ HO6.out).mono ?_; clear HRA; rintro e w7 ⟨bv7, tv7, rfl, hst7, hk7⟩; obtain ⟨xa7, xc7, ya7, yc7, rfl, rfl⟩ := hst7.slices; have HK7 := hid (hk7.alloc (.cells #[.slice xa7 SA.base.length xc7, .slice ya7 SA.txs.length yc7] 32)); have HST7 := hid (hst7.kept ((Kept.refl [] w7).alloc (.cells #[.slice xa7 SA.base.length xc7, .slice ya7 SA.txs.length yc7] 32))); clear hst7 hk7; obtain ⟨a0, a1⟩ := HBB.out _ (HK6.out.trans HK7.out (fun x hx => .inl hx)))
            | (go_at_call 18; refine (HOA.out _ (HK6.out.trans HK7.out (fun x hx => .inl hx))).mono ?_; clear HOA; rintro e y1 ⟨ba1, ta1, rfl, hs1, hk1⟩; obtain ⟨oa1, oc1, pa1, pc1, rfl, rfl⟩ := hs1.slices; have HS1 := hid hs1; have HKY1 := hid hk1; have HK71 := hid (HK7.out.trans hk1 (fun x hx => .inl hx)); clear hs1 hk1 a0 a1; obtain ⟨b0, b1⟩ := HB6.out _ HK71.out)
            | (go_at_call 18; refine (HOB.out _ HK71.out).mono ?_; clear HOB; rintro e y2 ⟨ba2, ta2, rfl, hs2, hk2⟩; obtain ⟨oa2, oc2, pa2, pc2, rfl, rfl⟩ := hs2.slices; have HS2 := hid hs2; have HS1' := hid (HS1.out.kept hk2); have HKY2 := hid (HKY1.out.trans hk2 (fun x hx => .inl hx)); clear hs2 hk2 b0 b1)
            | (go_at_call 17; refine (HSP.out _ _ _ HS2.out.base.at' HS1'.out.base.at').mono ?_; clear HSP; rintro e y3 ⟨rfl, hk3⟩; have HS3 := hid (HS1'.out.kept hk3); have HKY3 := hid (HKY2.out.trans hk3 (fun x hx => .inl hx)); clear hk3; obtain ⟨c0, c1⟩ := blk2 HKY3.out)
            | (go_at_call 18; refine (HOC.out _ _ _ (HST7.out.kept HKY3.out)).mono ?_; clear HOC; rintro e y4 ⟨ba4, ta4, rfl, hs4, hk4⟩; obtain ⟨oa4, oc4, pa4, pc4, rfl, rfl⟩ := hs4.slices; have HS4 := hid hs4; have HS5 := hid (HS3.out.kept hk4); have HKY4 := hid ((HKW6.out.trans HK7.out (fun x hx => .inl hx)).trans (HKY3.out.trans hk4 (fun x hx => .inl hx)) (fun x hx => .inl hx)); clear hs4 hk4 c0 c1)
            | (go_at_call 20; refine (HOV.out _ _ HS5.out.base.at' HKY4.out).mono ?_; clear HOV; rintro e y5 ⟨v5, rfl, ho5, _, hk5⟩; obtain ⟨qa5, qc5, rfl⟩ := ownsRow_slice ho5; have HS6' := hid (HS4.out.kept hk5); have HO5 := hid (SlAt.of_own ho5); have HKY5 := hid (HKY4.out.trans hk5 (fun x hx => .inl hx)); clear ho5 hk5)
            | (go_at_call 17; refine (HSQ.out _ _ _ HS6'.out.base.at' HO5.out).mono ?_; clear HSQ; rintro e y6 ⟨rfl, hk6⟩))
          go_returns
          exact ⟨rfl, HKY5.out.trans hk6 (fun x hx => .inl hx)⟩
--@@ end
end Go.Proofs.Ytbkapjmomafjjaa.redoCommits
