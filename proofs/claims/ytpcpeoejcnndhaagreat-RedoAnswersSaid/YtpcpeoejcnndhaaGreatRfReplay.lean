/- The reference's replay: the walk. -/
import Derived.Test.YtpcpeoejcnndhaaGreatM11
import Derived.Test.YtpcpeoejcnndhaaGreatRfOne2
import Derived.Test.YtpcpeoejcnndhaaGreatR4Right
import Derived.Test.YtpcpeoejcnndhaaGreatM2
set_option linter.all false
namespace Go.Proofs.YtpcpeoejcnndhaaGreat
open Go.RowKit Go.Shelf Go.Lib Go.Sort Go.Proofs
def oV : Option Nat → Int
  | none => -1
  | some m => (m : Int)
--@@ concordatref11.Replay
set_option maxHeartbeats 8000000 in
set_option maxRecDepth 100000 in
theorem rreplay_any (v : Value) (l : List Rc) (w : World) (h : SlAt w v 11 l.length (l.flatMap Rc.f)) (hl : l.length ≤ 1000) (hm : ∀ r ∈ l, r.mask ≤ 65535) :
    Calls Tryz.prog 12 #[v] w fun e w' => ∃ bv tv, e = .returned (.agg #[bv, tv]) ∧ StAt w' bv tv (rReplay l) ∧ Kept [] w w' := by
  have HV := hid h
  have HMM := hid hm
  obtain ⟨a, c, rfl, _⟩ := h.ex
  have HK0 := hid ((Kept.refl [] w).alloc (.cells #[.slice none 0 0, .slice none 0 0] 26))
  have HRB := hid (heap_alloc_new w (.cells #[.slice none 0 0, .slice none 0 0] 26))
  clear h hm
  go_enter Tryz.func12, Tryz.ntmps12
  go_wp2
  have hRs : (w.alloc (.cells #[.slice none 0 0, .slice none 0 0] 26)).heap.size = w.heap.size + 1 := by simp
  generalize w.alloc (.cells #[.slice none 0 0, .slice none 0 0] 26) = WR at *
  have HRS := hid hRs
  clear hRs
  have HO0 := hid (recs_made0 WR WR.heap.size (Nat.le_refl _))
  have HKR := hid ((Kept.refl [] WR).alloc (.cells #[] 55))
  go_loopg [3, 4] l.length (fun kx s3 s4 wr => ∃ (i : Nat) (M : List Rc), s4 = .int .i64 i ∧ i ≤ l.length ∧ l.length - i ≤ kx ∧ Aside (wr.ownsRow WR.heap.size 55 11 s3 M.length (M.flatMap Rc.f)) ∧ Aside (M = (l.take i).filter Rc.right) ∧ Aside (Kept [] WR wr))
  case atStart => exact ⟨0, [], by first | rfl | go_num, by omega, by omega, (show World.ownsRow _ _ _ _ _ _ _ from by rw [← HRS.out]; exact HO0.out), rfl, HKR.out⟩
  case round =>
    clear HO0 HKR
    obtain ⟨i, M, rfl, hi, hix, HO, HM, HK⟩ := hrel
    have hsz := HK.out.size
    by_cases hlt : i < l.length
    · have hltz : (i : Int) < (l.length : Int) := by omega
      have hml : M.length ≤ l.length := by rw [HM.out]; exact Nat.le_trans (List.length_filter_le _ _) (by simp; omega)
      have HVR := hid (HV.out.kept (HK0.out.trans HK.out (fun x hx => .inl hx)))
      obtain ⟨_, _, e, _, _, hcs⟩ := HVR.out.ex
      cases e
      obtain ⟨b, off, rfl, _, hcs⟩ := hcs (by omega)
      have HX := hid (fun (W : World) (hW : Kept [] wr W) => rec_cells (fun j u hj => hW.cell (hcs j u hj) (by simp)) hlt)
      obtain ⟨q0, q1, q2, q3, q4, q5, q6, q7, q8, q9, q10⟩ := HX.out wr (Kept.refl [] wr)
      have HRT := hid (r4right_all l[i])
      clear hcs HVR
      obtain ⟨rt, hrt⟩ : ∃ rt, rt = (l[i]).right := ⟨_, rfl⟩
      have HM2 := hid (show M ++ (if rt = true then [l[i]] else []) = (l.take (i + 1)).filter Rc.right from by
        rw [List.take_succ_eq_append_getElem hlt, List.filter_append, ← HM.out, hrt, List.filter_cons, List.filter_nil])
      rw [← hrt] at HRT
      clear hrt
      generalize l[i] = r at *
      have HRR := hid (show r = r from rfl)
      obtain ⟨kind, tx, mask, ⟨k1, k2, k3, k4⟩, ⟨o1, o2⟩, ⟨n1, n2⟩⟩ := r
      dsimp only at HX q0 q1 q2 q3 q4 q5 q6 q7 q8 q9 q10
      simp only [Rc.v, Rc.f] at HRT
      cases rt with
      | false =>
        go_wp2_with (go_at_call 32; refine (HRT.out _).mono ?_; clear HRT; rintro e w5 ⟨rfl, hk5⟩; have HK5 := hid (HK.out.trans hk5 (fun x hx => .inl hx)); have HO5 := hid (ownK_kept HO.out hk5 (fun _ _ => List.not_mem_nil)); clear hk5)
        go_roundg (l.length - (i + 1))
        case measure => omega
        case rel => exact ⟨i + 1, M, by first | rfl | go_num, by omega, Nat.le_refl _, HO5.out, (show M = _ from by have := HM2.out; simpa using this), HK5.out⟩
      | true =>
        go_wp2_with (first
          | (go_at_call 32; refine (HRT.out _).mono ?_; clear HRT q0 q1 q2 q3 q4 q5 q6 q7 q8 q9 q10; rintro e w5 ⟨rfl, hk5⟩; have HK5 := hid (HK.out.trans hk5 (fun x hx => .inl hx)); have HO5 := hid (ownK_kept HO.out hk5 (fun _ _ => List.not_mem_nil)); obtain ⟨q0, q1, q2, q3, q4, q5, q6, q7, q8, q9, q10⟩ := HX.out w5 hk5; clear hk5)
          | (at_builtin; refine Here.mk ?_))
        refine Here.of ?_
        refine wpList_append_rc rfl _ _ rfl WR.heap.size _ M rfl (ownK_kept HO5.out ((Kept.refl [] w5).alloc _) (fun _ _ => List.not_mem_nil)) _ [⟨kind, tx, mask, ⟨k1, k2, k3, k4⟩, ⟨o1, o2⟩, ⟨n1, n2⟩⟩] rfl (SlAt.rec1 w5 ⟨kind, tx, mask, ⟨k1, k2, k3, k4⟩, ⟨o1, o2⟩, ⟨n1, n2⟩⟩) (by simp; omega) (by have := HK5.out.size; simp; omega) ?_
        intro v6 w6 hown6 hgr6 hnn6
        have HK6 := hid ((HK5.out.alloc (.cells (Rc.f ⟨kind, tx, mask, ⟨k1, k2, k3, k4⟩, ⟨o1, o2⟩, ⟨n1, n2⟩⟩).toArray 55)).grown_own (ownK_kept HO5.out ((Kept.refl [] w5).alloc _) (fun _ _ => List.not_mem_nil)) hgr6 (Nat.le_refl _))
        have HO6 := hid hown6
        clear hown6 hgr6 hnn6 q0 q1 q2 q3 q4 q5 q6 q7 q8 q9 q10
        go_wp2
        go_roundg (l.length - (i + 1))
        case measure => omega
        case rel => exact ⟨i + 1, M ++ [(⟨kind, tx, mask, ⟨k1, k2, k3, k4⟩, ⟨o1, o2⟩, ⟨n1, n2⟩⟩ : Rc)], by first | rfl | go_num, by omega, Nat.le_refl _, HO6.out, (show M ++ _ = _ from by have := HM2.out; simpa using this), HK6.out⟩
    · obtain rfl : i = l.length := by omega
      have hltz : ¬ (l.length : Int) < (l.length : Int) := by omega
      have hM := HM.out
      rw [List.take_length] at hM
      have HNS := hid (show ((rPlay ⟨[], []⟩ M).txs.map (·.n)).Nodup ∧ ∀ x ∈ (rPlay ⟨[], []⟩ M).txs, 1 ≤ x.n by
        rw [hM]
        obtain ⟨_, rfl, h⟩ := ref_state l
        exact h)
      have hML : M.length ≤ l.length := by rw [hM]; exact List.length_filter_le _ _
      have HR := hid (show rReplay l = rOut (rPlay ⟨[], []⟩ M) by rw [hM]; rfl)
      have HMS := hid (fun r (h : r ∈ M) => HMM.out r (by rw [hM] at h; exact (List.mem_filter.1 h).1))
      have HSM := hid (SlAt.of_own HO.out)
      have HWR := hid (HK0.out.trans HK.out (fun x hx => .inl hx))
      have hMl : M.length ≤ 1000 := by omega
      obtain ⟨ma, mc, rfl⟩ := ownsRow_slice HO.out
      have HRB2 := hid ((HK.out.block w.heap.size (by have := HRS.out; omega) (by simp)).trans HRB.out)
      have hRlt : w.heap.size < wr.heap.size := by have := HRS.out; omega
      clear hM HM HO HMM hix hltz hML hsz hi HV HK0 HK HRB HRS
      rename World => w2
      have HAT0 := hid (RfAt.new (PrAt.nil w2))
      have hBs := (Kept.refl [] w2).alloc (.cells #[.slice none 0 0, .slice none 0 0] 26)
      have HKS := hid (KeD.of hBs (D := fun b => b < w2.heap.size) (fun k hk => ⟨hk, by simp⟩))
      clear hBs
      go_wp2
      go_loopg [6] M.length (fun kx s6 wr => ∃ (i : Nat) (s : Stp), s6 = .int .i64 i ∧ i ≤ M.length ∧ M.length - i ≤ kx ∧ Aside (RfAt wr (fun b => b < w2.heap.size) w2.heap.size s) ∧ Aside (KeD (fun b => b < w2.heap.size) w2 wr) ∧ Aside (Bnd M.length s i) ∧ Aside (rPlay s (M.drop i) = rPlay ⟨[], []⟩ M))
      case atStart => exact ⟨0, ⟨[], []⟩, by first | rfl | go_num, by omega, by omega, HAT0.out, HKS.out, Bnd.zero _, (show rPlay _ _ = _ by rw [List.drop_zero])⟩
      case round =>
        clear HAT0 HKS
        obtain ⟨i, s, rfl, hi, hix, HAT, HKD, HB, HP⟩ := hrel
        have hsz := HKD.out.size
        by_cases hlt : i < M.length
        · have hltz : (i : Int) < (M.length : Int) := by omega
          have HVR := hid (HSM.out.kept HKD.out.kept)
          obtain ⟨_, _, e, _, _, hcs⟩ := HVR.out.ex
          cases e
          obtain ⟨b, off, rfl, _, hcs⟩ := hcs (by omega)
          obtain ⟨q0, q1, q2, q3, q4, q5, q6, q7, q8, q9, q10⟩ := rec_cells hcs hlt
          clear hcs
          have hPA := rPlay_at (s := s) hlt
          by_cases hk8 : M[i].kind = 8
          · have hb8 : (M[i].kind == 8) = true := by simpa using hk8
            rw [if_pos hk8] at hPA
            have HCK := hid (rcheck_any _ M i wr HVR.out (by omega) hlt (HMS.out _ (List.getElem_mem hlt)))
            have HBS := hid (HB.out.start M[i].mask (l := M.drop (i + 1)) (by rw [List.length_drop]; omega))
            have HPA := hid (hPA.symm.trans HP.out)
            clear hPA hk8
            unfold rStart at HBS HPA
            cases hck : rCheck M[i].mask (M.drop (i + 1)) with
            | none =>
              rw [hck] at HCK HBS HPA
              clear hck
              go_wp2_with (go_at_call 33; refine HCK.out.mono ?_; rintro e w3 ⟨hck, hk3⟩; obtain rfl : e = _ := hck; have HAT3 := hid (HAT.out.kept hk3); have HK3 := hid (HKD.out.trans (KeD.of hk3 (D := fun b => b < w2.heap.size) (fun k hk => ⟨by omega, by simp⟩)) (fun _ h => h)); clear hk3)
              go_roundg (M.length - (i + 1))
              case measure => omega
              case rel => exact ⟨i + 1, s, by first | rfl | go_num, by omega, Nat.le_refl _, HAT3.out, HK3.out, HBS.out, HPA.out⟩
            | some bs =>
              rw [hck] at HCK HBS HPA
              clear hck
              go_wp2_with (go_at_call 33; refine HCK.out.mono ?_; rintro e w3 ⟨hck, hk3⟩; obtain ⟨v3, rfl, ho3⟩ := hck; obtain ⟨a3, c3, rfl⟩ := ownsRow_slice ho3; have HO3 := hid ho3; obtain ⟨bv, tv, L, HAT3⟩ := HAT.out.kept hk3; have HK3 := hid (HKD.out.trans (KeD.of hk3 (D := fun b => b < w2.heap.size) (fun k hk => ⟨by omega, by simp⟩)) (fun _ h => h)); obtain ⟨y0, y1, z0, z1⟩ := cell2 HAT3.is.g.blk; have HAT3 := hid HAT3; clear hk3 ho3)
              obtain ⟨h1, h2⟩ := HAT3.out.reset (PrAt.of_own HO3.out rfl)
              have H1 := hid h1
              have H2 := hid (HK3.out.trans h2 (fun _ h => h))
              clear h1 h2
              go_roundg (M.length - (i + 1))
              case measure => omega
              case rel => exact ⟨i + 1, _, by first | rfl | go_num, by omega, Nat.le_refl _, H1.out, H2.out, HBS.out, HPA.out⟩
          · have hb8 : (M[i].kind == 8) = false := by simpa using hk8
            rw [if_neg hk8] at hPA
            have HON := hid (rone_any HAT.out M[i] (by have := HB.out.tx; omega) (by have := HB.out.base; omega) (by have := HB.out.get M[i].tx; omega))
            have HBS := hid (HB.out.one M[i])
            have HPA := hid (hPA.symm.trans HP.out)
            clear hPA hk8 HVR
            generalize M[i] = r at *
            have HRR := hid (show r = r from rfl)
            obtain ⟨kind, tx, mask, ⟨k1, k2, k3, k4⟩, ⟨o1, o2⟩, ⟨n1, n2⟩⟩ := r
            dsimp only at q0 q1 q2 q3 q4 q5 q6 q7 q8 q9 q10 hb8
            simp only [Rc.v, Rc.f] at HON
            go_wp2_with (go_at_call 34; refine HON.out.mono ?_; rintro e w3 ⟨rfl, h3, hk3⟩; have HAT3 := hid h3; have HK3 := hid (HKD.out.trans hk3 (fun _ h => h)); clear h3 hk3)
            go_roundg (M.length - (i + 1))
            case measure => omega
            case rel => exact ⟨i + 1, _, by first | rfl | go_num, by omega, Nat.le_refl _, HAT3.out, HK3.out, HBS.out, HPA.out⟩
        · obtain rfl : i = M.length := by omega
          have hltz : ¬ (M.length : Int) < (M.length : Int) := by omega
          have hP : s = rPlay ⟨[], []⟩ M := by have := HP.out; rw [List.drop_length] at this; exact this
          rw [← hP] at HR HNS
          have HBT := hid HB.out.tx
          have hTl : s.txs.length ≤ 1000 := by have := HBT.out; omega
          obtain ⟨bv, tv, L, hD⟩ := HAT.out
          obtain ⟨ba, bc, rfl, _⟩ := hD.is.b.at'.ex
          have hll := hD.len
          obtain ⟨ta, tc, rfl⟩ := ownsRow_slice hD.is.g.own
          rw [hll] at hD
          obtain ⟨c0, c1, _, _⟩ := cell2 hD.is.g.blk
          have HD := hid hD
          have HK3 := hid HKD.out.kept
          have HL := hid hll
          rename World => w3
          have HO0 := hid (RfAt.new hD.is.b)
          have hB0 := (Kept.refl [] w3).alloc (.cells #[.slice ba s.base.length bc, .slice none 0 0] 26)
          have HKB := hid (KeD.of hB0 (D := fun b => b < w3.heap.size) (fun k hk => ⟨hk, by simp⟩))
          clear hP HP HB HAT hD hll HKD HMS HSM hix hltz hi hB0
          go_wp2
          go_loopg [10] (rOut s).txs.length (fun kx s10 wq => ∃ (last : Int), s10 = .int .i64 last ∧ Aside ((rOut s).txs.length - ((rOut s).txs.filter fun x => decide (x.n ≤ last)).length ≤ kx) ∧ Aside (RfAt wq (fun b => b < w3.heap.size) w3.heap.size ⟨s.base, (rOut s).txs.filter fun x => decide (x.n ≤ last)⟩) ∧ Aside (KeD (fun b => b < w3.heap.size) w3 wq))
          case atStart =>
            have hF : (rOut s).txs.filter (fun x => decide (x.n ≤ 0)) = [] := List.filter_eq_nil_iff.2 fun x hx => by
              have := HNS.out.2 x ((rOut_mem (b := s.base) HNS.out.1).1 hx).1
              simp; omega
            exact ⟨0, by first | rfl | go_num, (show _ ≤ _ by omega), (show RfAt _ _ _ _ by rw [hF]; exact HO0.out), HKB.out⟩
          case round =>
            clear HO0 HKB c0 c1
            obtain ⟨last, rfl, HX, HO, HKO⟩ := hrel
            rename World => wq
            obtain ⟨F, hF⟩ : ∃ F, F = (rOut s).txs.filter (fun x => decide (x.n ≤ last)) := ⟨_, rfl⟩
            rw [← hF] at HX HO
            have HF := hid hF
            have HFL := hid (show F.length ≤ s.txs.length from by rw [hF]; exact Nat.le_trans (List.length_filter_le _ _) (rOut_len s))
            clear hF
            go_wp2
            go_loopg [11, 12] s.txs.length (fun kx s11 s12 wi => ∃ (i : Nat) (o : Option Nat), s11 = .int .i64 (oV o) ∧ s12 = .int .i64 i ∧ i ≤ s.txs.length ∧ s.txs.length - i ≤ kx ∧ Aside (Least s.txs last i o) ∧ Aside (Kept [] wq wi))
            case atStart => exact ⟨0, none, by first | rfl | go_num, by first | rfl | go_num, by omega, by omega, Least.zero _ _, Kept.refl _ _⟩
            case round =>
              obtain ⟨i, o, rfl, rfl, hi, hix, HLE, HKI⟩ := hrel
              rename World => wi
              have HKW := hid (HKO.out.kept.trans HKI.out (fun x hx => .inl hx))
              have HDI := hid (HD.out.kept HKW.out)
              by_cases hlt : i < s.txs.length
              · have hltz : (i : Int) < (s.txs.length : Int) := by omega
                obtain ⟨g, c, hg, _, _⟩ := own_pos HDI.out.is.g.own (by rw [HL.out]; omega)
                obtain ⟨rfl, hgl, rfl⟩ := Value.slice.inj hg
                clear hgl hg
                obtain ⟨hi', qa, qc, hq⟩ := HDI.out.at hlt
                have hF := (show RfD wi _ _ _ (.slice (some ⟨g, 0, none⟩) L.length tc) L s by rw [HL.out]; exact HDI.out).facts hi' hq
                rw [HL.out] at hF
                have c1 := hF.c1
                have e0 := hF.e0
                have e1 := hF.e1
                clear hF hq hi'
                by_cases hc1 : last < s.txs[i].n
                · by_cases hm : s.txs[i].mask = 0
                  · have hmb : ((s.txs[i].mask : Int) != 0) = false := by simpa using hm
                    have HL2 := hid (HLE.out.skip hlt (fun h => h.2 hm))
                    clear hm
                    go_wp2
                    go_quiet (fail)
                    go_wp2
                    go_roundg (s.txs.length - (i + 1))
                    case measure => omega
                    case rel => exact ⟨i + 1, o, rfl, by first | rfl | go_num, by omega, Nat.le_refl _, HL2.out, HKI.out.drewN _⟩
                  · have hmb : ((s.txs[i].mask : Int) != 0) = true := by simpa using hm
                    cases o with
                    | none =>
                      have HL2 := hid (HLE.out.take hlt ⟨hc1, hm⟩ (fun m h => by cases h))
                      clear hm
                      simp only [oV]
                      go_wp2
                      go_quiet (fail)
                      go_wp2
                      go_roundg (s.txs.length - (i + 1))
                      case measure => omega
                      case rel => exact ⟨i + 1, some i, by first | rfl | go_num, by first | rfl | go_num, by omega, Nat.le_refl _, HL2.out, HKI.out.drewN _⟩
                    | some m =>
                      have hml := HLE.out.lt
                      have hmz : (m : Int) < (s.txs.length : Int) := by omega
                      have hm0 : ¬ (m : Int) < 0 := by omega
                      obtain ⟨hm', qa', qc', hq'⟩ := HDI.out.at hml
                      have hF := (show RfD wi _ _ _ (.slice (some ⟨g, 0, none⟩) L.length tc) L s by rw [HL.out]; exact HDI.out).facts hm' hq'
                      have e2 := hF.e0
                      clear hF hq' hm'
                      simp only [oV]
                      by_cases hc4 : s.txs[i].n < s.txs[m].n
                      · have HL2 := hid (HLE.out.take hlt ⟨hc1, hm⟩ (fun m' h _ => by cases h; exact hc4))
                        clear hm
                        go_wp2
                        go_quiet (fail)
                        go_wp2
                        go_roundg (s.txs.length - (i + 1))
                        case measure => omega
                        case rel => exact ⟨i + 1, some i, by first | rfl | go_num, by first | rfl | go_num, by omega, Nat.le_refl _, HL2.out, HKI.out.drewN _⟩
                      · have HL2 := hid (HLE.out.keep hlt hml hc4)
                        clear hm
                        go_wp2
                        go_quiet (fail)
                        go_wp2
                        go_roundg (s.txs.length - (i + 1))
                        case measure => omega
                        case rel => exact ⟨i + 1, some m, by first | rfl | go_num, by first | rfl | go_num, by omega, Nat.le_refl _, HL2.out, HKI.out.drewN _⟩
                · have HL2 := hid (HLE.out.skip hlt (fun h => hc1 h.1))
                  have hcd : decide (s.txs[i].n > last) = false := decide_eq_false hc1
                  have hcd2 : s.txs[i].n ≤ last := by omega
                  go_wp2
                  go_quiet (fail)
                  go_wp2
                  go_roundg (s.txs.length - (i + 1))
                  case measure => omega
                  case rel => exact ⟨i + 1, o, rfl, by first | rfl | go_num, by omega, Nat.le_refl _, HL2.out, HKI.out.drewN _⟩
              · obtain rfl : i = s.txs.length := by omega
                have hltz : ¬ (s.txs.length : Int) < (s.txs.length : Int) := by omega
                obtain ⟨bv', tv', L', hB⟩ := HO.out.kept HKI.out
                obtain ⟨ob, obc, rfl, _⟩ := hB.is.b.at'.ex
                obtain ⟨oa, oc, rfl⟩ := ownsRow_slice hB.is.g.own
                obtain ⟨b0, b1, _, z1⟩ := cell2 hB.is.g.blk
                have hLF := hB.len
                dsimp only at hLF
                have HBO := hid hB
                obtain ⟨_, c1, _, _⟩ := cell2 HDI.out.is.g.blk
                cases o with
                | none =>
                  have hrb := ((HK3.out.trans HKW.out (fun x hx => .inl hx)).block w.heap.size hRlt (by simp)).trans HRB2.out
                  obtain ⟨r0, r1, y0, y1⟩ := cell2 hrb
                  have HST := hid (hB.st (R := w.heap.size) (show w.heap.size < w3.heap.size by have := HK3.out.size; omega) hrb (.slice ob s.base.length obc) (.slice oa L'.length oc))
                  have HRF := hid (show rOut s = ⟨s.base, F⟩ by
                    have := HLE.out.last (b := s.base) HNS.out.1
                    rw [HF.out]
                    exact congrArg (Stp.mk s.base) this.symm)
                  have HKE := hid ((HWR.out.trans HK3.out (fun x hx => .inl hx)).trans HKW.out (fun x hx => .inl hx))
                  have p1 : (wi.setCell ⟨w.heap.size, 0, none⟩ (.slice ob s.base.length obc)).heap[w.heap.size]? = some (.cells #[.slice ob s.base.length obc, .slice none 0 0] 26 (0, 0)) := heap_put hrb 0 _
                  have p2 : ((wi.setCell ⟨w.heap.size, 0, none⟩ (.slice ob s.base.length obc)).setCell ⟨w.heap.size, 1, none⟩ (.slice oa L'.length oc)).heap[w.heap.size]? = some (.cells #[.slice ob s.base.length obc, .slice oa L'.length oc] 26 (0, 0)) := heap_put p1 1 _
                  have f1 := (cell2 p1).1
                  obtain ⟨f2, f3, _, _⟩ := cell2 p2
                  clear hB hrb hLF HO HBO p1 p2
                  simp only [oV]
                  go_wp2
                  generalize (wi.setCell ⟨w.heap.size, 0, none⟩ (.slice ob s.base.length obc)).setCell ⟨w.heap.size, 1, none⟩ (.slice oa L'.length oc) = we at *
                  refine bodyPost_ret (by simp [results, Tryz.results12, go_sem, f2, f3]; rfl) rfl ?_
                  refine ⟨_, _, rfl, ?_, ?_⟩
                  · rw [HR.out, HRF.out]
                    exact HST.out.1
                  · exact HKE.out.trans HST.out.2 (fun x hx => .inr (by simp at hx; omega))
                | some m =>
                  obtain ⟨hml, hgt, hnx⟩ := HLE.out.next (b := s.base) HNS.out.1
                  have HNX := hid (show ((rOut s).txs.filter fun x => decide (x.n ≤ s.txs[m].n)) = F ++ [s.txs[m]] by rw [HF.out]; exact hnx)
                  have hlf : (F ++ [s.txs[m]]).length ≤ (rOut s).txs.length := by rw [← HNX.out]; exact List.length_filter_le _ _
                  have hmz : (m : Int) < (s.txs.length : Int) := by omega
                  have hm0 : ¬ (m : Int) < 0 := by omega
                  obtain ⟨g, c, hg, _, hglt⟩ := own_pos HDI.out.is.g.own (by rw [HL.out]; omega)
                  obtain ⟨rfl, hgl, rfl⟩ := Value.slice.inj hg
                  clear hgl hg hnx hgt
                  obtain ⟨hm', qa, qc, hq⟩ := HDI.out.at hml
                  have HMI := hid hm'
                  have HQE := hid hq
                  have HDL := hid (show RfD w3 _ _ _ (.slice (some ⟨g, 0, none⟩) L.length tc) L s by rw [HL.out]; exact HD.out)
                  have hown : ∀ k, (Value.slice oa L'.length oc).ownBlock = some k → w3.heap.size < k := fun k hk => by
                    have := (hB.is.g.own.lt k hk).1
                    omega
                  have HW3 := hid (fun W (hW : Kept (Value.slice oa L'.length oc).ownBlock.toList wi W) => HKW.out.trans hW (fun k hk => .inr (by have := hown k (by simpa using hk); omega)))
                  have HFA := hid (fun W (hW : Kept [] w3 W) => by
                    have := (HDL.out.kept hW).facts HMI.out HQE.out
                    rw [HL.out] at this
                    exact this)
                  have hBl := hB.ltA
                  have HPX := hid ((HFA.out _ HKW.out).pr)
                  have HNB := hid (show notBlkG (.slice qa s.txs[m].ws.length qc) (Value.slice oa L'.length oc).ownBlock from fun a n cc hv hn e => by
                    have h0 := (HDL.out.is.g.prs L[m] (List.getElem_mem HMI.out)).2.2
                    have h1 := h0 a n cc ((congrArg Prod.snd HQE.out).trans hv) hn
                    have h2 := hown _ e
                    omega)
                  have hL1 : L'.length ≤ 1000 := by have := HFL.out; omega
                  obtain ⟨x, hx⟩ : ∃ x, x = s.txs[m] := ⟨_, rfl⟩
                  rw [← hx] at HNX HFA HPX HNB hlf
                  have HLX := hid hlf
                  have HC := hid (fun W (hW : Kept (Value.slice oa L'.length oc).ownBlock.toList wi W) => show W.cell? ⟨w3.heap.size, 1, none⟩ = some (.slice oa L'.length oc) ∧ W.cell? ⟨w2.heap.size, 1, none⟩ = some (.slice (some ⟨g, 0, none⟩) s.txs.length tc) ∧ W.cell? ⟨g, m * 4, none⟩ = some (.int .i64 x.n) ∧ W.cell? ⟨g, m * 4 + 1, none⟩ = some (.int .u16 (x.mask : Int)) ∧ W.cell? ⟨g, m * 4 + 2, none⟩ = some (.bool x.com) ∧ W.cell? ⟨g, m * 4 + 3, none⟩ = some (.slice qa x.ws.length qc) from by
                    have h1 := HFA.out _ (HW3.out W hW)
                    have h2 := cell2 ((hW.block _ hBl (fun hk => by have := hown _ (by simpa using hk); omega)).trans HBO.out.is.g.blk)
                    exact ⟨h2.2.1, h1.c1, h1.e0, h1.e1, h1.e2, h1.e3⟩)
                  have HBK := hid (fun W (hW : Kept (Value.slice oa L'.length oc).ownBlock.toList wi W) => (hW.block _ hBl (fun hk => by have := hown _ (by simpa using hk); omega)).trans HBO.out.is.g.blk)
                  have hlx := HFL.out
                  clear hB hx hq hown b0 b1 z1 HO hlf hLF
                  simp only [oV]
                  go_wp2
                  -- [rows r26]
                  refine wp_region_chain [(109, .pointer (some ⟨w3.heap.size, 1, none⟩)), (110, .slice oa L'.length oc), (111, .pointer (some ⟨w2.heap.size, 1, none⟩)), (112, .slice (some ⟨g, 0, none⟩) s.txs.length tc), (113, .int .i64 (m : Int)), (114, .pointer (some ⟨g, m * 4, none⟩)), (115, .agg #[.int .i64 x.n, .int .u16 (x.mask : Int), .bool x.com, .slice qa x.ws.length qc]), (118, .pointer (some ⟨w3.heap.size, 1, none⟩))] [(5, .pointer (some ⟨w2.heap.size, 0, none⟩)), (9, .pointer (some ⟨w3.heap.size, 0, none⟩)), (11, .int .i64 (m : Int))] (fun w' => w'.cell? ⟨w3.heap.size, 1, none⟩ = some (.slice oa L'.length oc) ∧ w'.cell? ⟨w2.heap.size, 1, none⟩ = some (.slice (some ⟨g, 0, none⟩) s.txs.length tc) ∧ w'.cell? ⟨g, m * 4, none⟩ = some (.int .i64 x.n) ∧ w'.cell? ⟨g, m * 4 + 1, none⟩ = some (.int .u16 (x.mask : Int)) ∧ w'.cell? ⟨g, m * 4 + 2, none⟩ = some (.bool x.com) ∧ w'.cell? ⟨g, m * 4 + 3, none⟩ = some (.slice qa x.ws.length qc)) [7, 8, 10] [[8, 7], [10, 8]] true [false, false, false, false, false, false, false, false, false, false, false, false, false, false, false, false, false, false, false, false, false, false, false, false, false, false, false, false, false, false, false, false, false, false, false, false, false, false, false, false, false, false, false, false, false, false, false, false, false, false, false, false, false, false, false, false, false, false, false, false, false, false, false, false, false, false, false, false, false, false, false, false, false, false, false, false, false, false, false, false, false, false, false, false, false, false, false, false, false, false, false, false, false, false, false, false, false, false, false, false, false, false, false, false, false, false, false, false, false, true, true, true, true, true, true, true, false, false, true, false, false, false, false, false, false] (by kernel_rfl) (by kernel_rfl) (by simp) (HC.out _ ((Kept.refl [] wi).drew.mono (by simp))) ?_ ?_
                  · refine ⟨.inr ?_, .inr ?_, .inr ?_, .inr ?_, .inr ?_, .inr ?_, .inr ?_, .inl rfl, .inl rfl, .inr ?_, .inl rfl, trivial⟩
                    all_goals
                      intro a w' hC hF hO
                      simp only [List.forall_mem_cons, List.forall_mem_nil, and_true, List.not_mem_nil, false_implies, implies_true] at hF hO
                      obtain ⟨f109, f110, f111, f112, f113, f114, f115, f118⟩ := hF
                      obtain ⟨o5, o9, o11⟩ := hO
                      obtain ⟨y1, y2, y3, y4, y5, y6⟩ := hC
                    all_goals first | ((first | rw [if_pos (wanted_none rfl)] | rw [if_pos (wanted_some rfl (yielded_of (o := _) rfl rfl (by assumption)))]); refine pure_q _ rfl ?_; go_simp; done)
                  · intro us hF
                    simp only [List.forall_mem_cons, List.forall_mem_nil, and_true, List.not_mem_nil, false_implies, implies_true] at hF
                    obtain ⟨f109, f110, f111, f112, f113, f114, f115, f118⟩ := hF
                    simp only [merge, Nat.reduceAdd, List.drop_succ_cons, List.drop_zero, f109, f110, f111, f112, f113, f114, f115, f118]
                    clear f109 f110 f111 f112 f113 f114 f115 f118
                    obtain ⟨W0, hW0⟩ : ∃ W0, W0 = wi.drew := ⟨_, rfl⟩
                    have hk0 : Kept [] wi W0 := by rw [hW0]; exact (Kept.refl [] wi).drew
                    rw [← hW0]
                    clear hW0
                    refine wpE_one 7 _ (by kernel_rfl) rfl rfl ?_
                    go_simp
                    obtain ⟨W1, hW1⟩ : ∃ W1, W1 = W0.alloc (.cells (txF (x, .slice qa x.ws.length qc)).toArray 61) := ⟨_, rfl⟩
                    have hc1 : ∀ j u, (txF (x, .slice qa x.ws.length qc))[j]? = some u → W1.cell? ⟨W0.heap.size, j, none⟩ = some u := by rw [hW1]; exact new_cell W0 (txF (x, .slice qa x.ws.length qc)) 61
                    have hs1 : Kept [] W0 W1 := by rw [hW1]; exact (Kept.refl [] _).alloc _
                    simp only [txF] at hW1
                    obtain ⟨g1, hg1⟩ : ∃ g1, g1 = W0.heap.size := ⟨_, rfl⟩
                    rw [← hg1] at hc1
                    rw [← hW1, ← hg1]
                    clear hW1 hg1
                    have hk1 := hk0.trans hs1 (fun x hx => .inl hx)
                    refine ⟨HC.out _ (hk1.mono (by simp)), ?_⟩
                    refine wpE_one 8 _ (by kernel_rfl) rfl rfl ?_
                    refine wp_append_ow (.tmp 110) (.tmp 116) 24 rfl 61 (.agg #[.int .i64 0, .int .u16 0, .bool false, .slice none 0 0]) 4 40 Tryz.underlying24 txInfoOf rfl (by decide) (by decide) (w3.heap.size + 1) (.slice oa L'.length oc) L'.length (L'.flatMap txF) rfl (ownK_kept HBO.out.is.g.own hk1 (fun _ _ => List.not_mem_nil)) ⟨g1, 0, none⟩ 1 1 (txF (x, .slice qa x.ws.length qc)) rfl rfl (fun j u h => by rw [Addr.add_lit, Nat.zero_add]; exact hc1 j u h) (by simp [txF, Value.oneCell']) (by decide) (by omega) (by have := hk1.size; omega) ?_
                    intro g5 gc5 w5 hown5 hgr5 hwh5
                    have hk5 : Kept (Value.slice oa L'.length oc).ownBlock.toList wi w5 := (hk1.mono (by simp)).trans (Kept.of_grown hgr5 _ (fun k hk => by simpa using hk)) (fun x hx => .inl hx)
                    refine ⟨_, rfl, .inr (HC.out _ hk5), ?_⟩
                    obtain ⟨hp, hkp⟩ := HBO.out.push (q := (x, .slice qa x.ws.length qc)) HPX.out HNB.out hk1 hown5 hgr5 hwh5
                    have HP5 := hid hp
                    have HKP := hid hkp
                    obtain ⟨_, y5, _, z5⟩ := cell2 (HBK.out _ hk5)
                    clear hp hkp hown5 hgr5 hwh5 hk5 hk1 hk0 hs1 hc1
                    refine wpE_one 10 _ (by kernel_rfl) rfl rfl ?_
                    go_simp
                    refine wpE_end ?_
                  -- [end rows]
                    have HKO6 := hid ((HKO.out.trans (KeD.of HKI.out (D := fun b => b < w3.heap.size) (fun k hk => ⟨by have := HKO.out.size; omega, by simp⟩)) (fun _ h => h)).trans HKP.out (fun _ h => h))
                    have hF6 := HFA.out _ HKO6.out.kept
                    have c6 := hF6.c1
                    have e6 := hF6.e0
                    clear hF6 y5 z5 c1
                    generalize w5.setCell ⟨w3.heap.size, 1, none⟩ (.slice (some ⟨g5, 0, none⟩) (L'.length + 1) gc5) = W6 at *
                    go_wp2
                    go_roundg ((rOut s).txs.length - (F ++ [x]).length)
                    case measure =>
                      have h1 : (rOut s).txs.length - F.length ≤ _ := HX
                      have h2 := HLX.out
                      rw [List.length_append, List.length_singleton] at h2 ⊢
                      omega
                    case rel => exact ⟨x.n, by first | rfl | go_num, (show _ - _ ≤ _ by rw [HNX.out]; exact Nat.le_refl _), (show RfAt _ _ _ _ by rw [HNX.out]; exact HP5.out), HKO6.out⟩
--@@ end
end Go.Proofs.YtpcpeoejcnndhaaGreat
