/- The reference: the records that come to a state. -/
import Derived.Test.YtpcpeoejcnndhaaGreatRfRight
import Derived.Test.YtpcpeoejcnndhaaGreatM11
import Derived.Test.YtpcpeoejcnndhaaGreatM4
import Derived.Test.YtpcpeoejcnndhaaGreatM2
set_option linter.all false
namespace Go.Proofs.YtpcpeoejcnndhaaGreat
open Go.RowKit Go.Shelf Go.Lib Go.Sort Go.Proofs
theorem own_ne_box {w : World} {lo size n b : Nat} {e t : TypeId} {v : Value} {xs : List Value} {arr : Array Value} (h : w.ownsRow lo e size v n xs) (hb : w.heap[b]? = some (.cells arr t (0, 0))) (ht : t ≠ e) : ∀ g, v.ownBlock = some g → g ≠ b := fun g hg e' => by
  subst e'
  rcases h.2 with ⟨h1, _⟩ | ⟨g', cap, cur, h1, h2, h3, _⟩
  · subst h1; cases hg
  · subst h1
    have hgg : g' = g := by simpa [Value.ownBlock] using hg
    subst hgg
    rw [hb] at h3
    have := Option.some.inj h3
    injection this with _ h5
    exact ht h5
theorem grown_block {w w' : World} {v : Value} {b : Nat} {o : Obj} (hg : w.grownBy w' v.ownBlock) (hb : w.heap[b]? = some o) (hn : ∀ g, v.ownBlock = some g → g ≠ b) : w'.heap[b]? = some o :=
  ((Kept.of_grown hg v.ownBlock.toList (fun k hk => by simpa using hk)).block b (Array.getElem?_eq_some_iff.1 hb).1 (fun hm => hn b (by simpa using hm) rfl)).trans hb
theorem cell4 {w : World} {b : Nat} {a0 a1 a2 a3 : Value} {t : TypeId} (h : w.heap[b]? = some (.cells #[a0, a1, a2, a3] t (0, 0))) : w.cell? ⟨b, 0, none⟩ = some a0 ∧ w.cell? ⟨b, 1, none⟩ = some a1 ∧ w.cell? ⟨b, 2, none⟩ = some a2 ∧ w.cell? ⟨b, 3, none⟩ = some a3 := by
  simp [World.cell?, h]
--@@ concordatref11.Recs
set_option maxHeartbeats 8000000 in
set_option maxRecDepth 100000 in
theorem refrecs_any (bv tv : Value) (s : Stp) (w : World) (h : RSt w bv tv s) (hb : s.base.length ≤ 1000) (hx : ∀ x ∈ s.txs, x.ws.length ≤ 1000) (hl : (recsS s).length ≤ 100000) :
    Calls Tryz.prog 8 #[.agg #[bv, tv]] w fun e w' => ∃ v, e = .returned (.tuple #[v, .bool s.right]) ∧ (s.right = true → w'.ownsRow w.heap.size 55 11 v (recsS s).length ((recsS s).flatMap Rc.f)) ∧ (s.right = false → v = .slice none 0 0) ∧ Kept [] w w' := by
  have HRT := hid (fun W (hK : Kept [] w W) => rfright_any bv tv s W (h.kept hK) hb hx)
  have HRX := hid (fun (e : s.right = true) x => ref_recs e x)
  obtain ⟨base, txs⟩ := s
  obtain ⟨L, hL, hS, hP⟩ := h.txs.ex
  have hbase := h.base
  obtain ⟨ba, bc, rfl, _, _, hbc⟩ := h.base.ex
  obtain ⟨ta, tc, rfl, htm, _, htc⟩ := hS.ex
  dsimp only at hL hb hx hbase hbc HRX ⊢
  have HB := hid (fun W (hK : Kept [] (w.alloc (.cells #[.slice ba base.length bc, .slice ta L.length tc] 26)) W) => blk2 hK)
  have HX := hid ((Kept.refl [] w).alloc (.cells #[.slice ba base.length bc, .slice ta L.length tc] 26))
  have HBC := hid hbc
  have HTC := hid htc
  have HP := hid hP
  have HL := hid hL
  have HBA := hid hbase
  have HLEN := hid hl
  have HWX := hid hx
  clear h hS hP hbc htc hL hbase hl hx
  obtain ⟨rt, hrt⟩ : ∃ rt, rt = Stp.right ⟨base, txs⟩ := ⟨_, rfl⟩
  rw [← hrt] at HRT HRX ⊢
  cases rt with
  | false =>
    clear hrt HRX
    go_enter Tryz.func8, Tryz.ntmps8
    go_wp2_with (go_at_call 23; refine (HRT.out _ HX.out).mono ?_; clear HRT; rintro e w2 ⟨rfl, hk2⟩)
    go_returns
    exact ⟨_, rfl, (fun h => by cases h), (fun _ => rfl), HX.out.trans hk2 (fun x hx => .inl hx)⟩
  | true =>
    have hb64 : base.length ≤ 64 := by
      unfold Stp.right at hrt
      have := hrt.symm
      simp only [Bool.and_eq_true, decide_eq_true_eq] at this
      exact this.1.1.1
    have HRY := hid (show ∀ x : Txp, recsP x.n base x.ws = x.ws.map fun p => (⟨1, x.n, 0, p.key, findP base p.key, p.val⟩ : Rc) from fun x => by first | exact HRX.out rfl x | exact HRX.out trivial x)
    clear HRX
    have hwr : IntKind.u16.wrap (base.length : Int) = (base.length : Int) := by
      have : IntKind.u16.wrap (base.length : Int) = (base.length : Int) % 65536 := rfl
      rw [this]; omega
    clear hrt
    have HRS := hid (show (w.alloc (.cells #[.slice ba base.length bc, .slice ta L.length tc] 26)).heap.size = w.heap.size + 1 by simp)
    go_enter Tryz.func8, Tryz.ntmps8
    go_wp2_with (go_at_call 23; refine (HRT.out _ HX.out).mono ?_; clear HRT; rintro e w2 ⟨rfl, hk2⟩; obtain ⟨z0, z1⟩ := HB.out w2 hk2; have HK2 := hid hk2; clear hk2)
    generalize w.alloc (.cells #[.slice ba base.length bc, .slice ta L.length tc] 26) = W0 at *
    have HO0 := hid (ownsRow_new w2 (Rc.f (startR base)) 55 11 1 W0.heap.size HK2.out.size (by decide) rfl)
    have HK3 := hid (HK2.out.alloc (.cells #[.int .i64 8, .int .i64 0, .int .u16 (base.length : Int), .int .u8 0, .int .u8 0, .int .u8 0, .int .u8 0, .bool false, .int .i64 0, .bool false, .int .i64 0] 55))
    clear z0 z1
    go_loopg [4, 5] base.length (fun kx s4 s5 wr => ∃ k : Nat, s5 = .int .i64 k ∧ k ≤ base.length ∧ base.length - k ≤ kx ∧ Aside (wr.ownsRow W0.heap.size 55 11 s4 (startR base :: baseR (base.take k)).length ((startR base :: baseR (base.take k)).flatMap Rc.f)) ∧ Aside (Kept [] W0 wr))
    case atStart => exact ⟨0, by first | rfl | go_num, by omega, by omega, (show World.ownsRow _ _ _ _ _ _ _ from by
      have h : (startR base :: baseR (base.take 0)).flatMap Rc.f = Rc.f (startR base) := (by simp [baseR])
      rw [h]
      exact HO0.out), HK3.out⟩
    case round =>
      clear HO0 HK3 HK2
      obtain ⟨k, rfl, hk, hkx, HO, HK⟩ := hrel
      have HKW := hid (HX.out.trans HK.out (fun x hx => .inl hx))
      obtain ⟨z0, z1⟩ := HB.out wr HK.out
      have hsz := HK.out.size
      by_cases hlt : k < base.length
      · have hltz : (k : Int) < (base.length : Int) := by omega
        obtain ⟨b, off, rfl, hbl, hcs⟩ := HBC.out (by omega)
        have hln : (startR base :: baseR (base.take k)).length = k + 1 := by rw [List.length_cons, baseR_len, List.length_take]; omega
        have HLN := hid hln
        have HT := hid (show startR base :: baseR (base.take (k + 1)) = (startR base :: baseR (base.take k)) ++ baseR [base[k]] by rw [List.take_succ_eq_append_getElem hlt]; unfold baseR; rw [List.map_append]; rfl)
        have HXC := hid (fun (W : World) (hW : Kept [] w W) => pair_cells (fun j u hj => hW.cell (hcs j u hj) (by simp)) hlt)
        clear hcs hln
        generalize base[k] = x at *
        obtain ⟨⟨x1, x2, x3, x4⟩, ⟨x5, x6⟩⟩ := x
        dsimp only at HXC
        have HS := hid (fun W (hK : Kept [] W0 W) => show W.cell? ⟨w.heap.size, 0, none⟩ = some (.slice (some ⟨b, off, none⟩) base.length bc) ∧ W.cell? ⟨b, off + k * 6, none⟩ = some (.int .u8 (x1.toNat : Int)) ∧ W.cell? ⟨b, off + k * 6 + 1, none⟩ = some (.int .u8 (x2.toNat : Int)) ∧ W.cell? ⟨b, off + k * 6 + 2, none⟩ = some (.int .u8 (x3.toNat : Int)) ∧ W.cell? ⟨b, off + k * 6 + 3, none⟩ = some (.int .u8 (x4.toNat : Int)) ∧ W.cell? ⟨b, off + k * 6 + 4, none⟩ = some (.bool x5) ∧ W.cell? ⟨b, off + k * 6 + 5, none⟩ = some (.int .i64 x6) from ⟨(HB.out W hK).1, HXC.out W (HX.out.trans hK (fun x hx => .inl hx))⟩)
        have hkd := HK.out.drew
        go_wp2
        clear z0 z1
        go_region_held3 (fun w' => w'.cell? ⟨w.heap.size, 0, none⟩ = some (.slice (some ⟨b, off, none⟩) base.length bc) ∧ w'.cell? ⟨b, off + k * 6, none⟩ = some (.int .u8 (x1.toNat : Int)) ∧ w'.cell? ⟨b, off + k * 6 + 1, none⟩ = some (.int .u8 (x2.toNat : Int)) ∧ w'.cell? ⟨b, off + k * 6 + 2, none⟩ = some (.int .u8 (x3.toNat : Int)) ∧ w'.cell? ⟨b, off + k * 6 + 3, none⟩ = some (.int .u8 (x4.toNat : Int)) ∧ w'.cell? ⟨b, off + k * 6 + 4, none⟩ = some (.bool x5) ∧ w'.cell? ⟨b, off + k * 6 + 5, none⟩ = some (.int .i64 x6))
          ((first | exact HS.out _ hkd | exact HS.out _ (hkd.alloc _)))
          (((first | skip | rw [if_pos (by rfl)]); refine wp_append_rc _ _ rfl W0.heap.size _ (startR base :: baseR (base.take k)) rfl ((ownK_kept HO.out (Kept.refl [] wr).drew (fun _ _ => List.not_mem_nil)).alloc _) _ [⟨7, 0, 0, ⟨x1, x2, x3, x4⟩, V.zero, ⟨x5, x6⟩⟩] rfl (SlAt.rec1 wr.drew ⟨7, 0, 0, ⟨x1, x2, x3, x4⟩, V.zero, ⟨x5, x6⟩⟩) (by have := HLN.out; simp only [List.length_singleton]; omega) (by have := hkd.size; simp; omega) ?_; intro v9 w9 hown9 hgr9 _; have hkd := (hkd.alloc (.cells (Rc.f ⟨7, 0, 0, ⟨x1, x2, x3, x4⟩, V.zero, ⟨x5, x6⟩⟩).toArray 55)).grown_own ((ownK_kept HO.out (Kept.refl [] wr).drew (fun _ _ => List.not_mem_nil)).alloc _) hgr9 (Nat.le_refl _)))
        have HO9 := hid hown9
        have HK9 := hid hkd
        clear hown9 hgr9 hkd
        go_wp2
        go_roundg (base.length - (k + 1))
        case measure => omega
        case rel => exact ⟨k + 1, by first | rfl | go_num, by omega, Nat.le_refl _, (show World.ownsRow _ _ _ _ _ _ _ from by rw [HT.out]; exact HO9.out), HK9.out⟩
      · obtain rfl : k = base.length := by omega
        have hltz : ¬ (base.length : Int) < (base.length : Int) := by omega
        have ho2 := HO.out
        rw [List.take_length] at ho2
        have HO2 := hid ho2
        clear ho2 HO hkx hk hwr
        go_wp2
        go_loopg [4, 6] L.length (fun kx s4 s6 wr => ∃ k : Nat, s6 = .int .i64 k ∧ k ≤ L.length ∧ L.length - k ≤ kx ∧ Aside (wr.ownsRow W0.heap.size 55 11 s4 (recW base txs k).length ((recW base txs k).flatMap Rc.f)) ∧ Aside (Kept [] W0 wr))
        case atStart => exact ⟨0, by first | rfl | go_num, by omega, by omega, (show World.ownsRow _ _ _ _ _ _ _ from by rw [recW_zero]; exact HO2.out), HK.out⟩
        case round =>
          clear HO2 HK HKW hsz z0 z1
          obtain ⟨k, rfl, hk, hkx, HO, HK⟩ := hrel
          have HKW := hid (HX.out.trans HK.out (fun x hx => .inl hx))
          have hsz := HK.out.size
          obtain ⟨z0, z1⟩ := HB.out wr HK.out
          have hll : txs.length = L.length := by rw [← HL.out, List.length_map]
          by_cases hlt : k < L.length
          · have hltz : (k : Int) < (L.length : Int) := by omega
            obtain ⟨b, off, rfl, _, d1⟩ := HTC.out (by omega)
            obtain ⟨e0, e1, e2, e3⟩ := tx_cells (fun j u hu => HKW.out.cell (d1 j u hu) (by simp)) hlt
            have hq1 : txs[k]'(by omega) = L[k].1 := by simp [← HL.out]
            have HT := hid (show recW base txs (k + 1) = recW base txs k ++ recsT base L[k].1 by rw [recW_succ base txs (by omega), hq1])
            have hle := recW_le base txs (k + 1)
            rw [HT.out, List.length_append] at hle
            have HSZ := hid (Nat.le_trans hle HLEN.out)
            have HQ := hid (HP.out _ (List.getElem_mem hlt))
            have hwl : L[k].1.ws.length ≤ 1000 := HWX.out _ (by rw [← HL.out]; exact List.mem_map_of_mem (List.getElem_mem hlt))
            clear d1 hq1 hll hle
            generalize L[k] = q at *
            obtain ⟨x, qv⟩ := q
            dsimp only at e0 e1 e2 e3 HT HSZ HQ hwl
            obtain ⟨qa, qc, rfl, _⟩ := HQ.out.ex
            have HRC := hid (fun W (hK : Kept [] w W) => rrecs_any x.n _ _ base x.ws W (HBA.out.kept hK) (HQ.out.kept hK) hwl)
            have HT2 := hid (show recsT base x = (recsP x.n base x.ws ++ [yesR x.n x.mask]) ++ (if x.com = true then [comR x.n] else []) by
              rw [HRY.out x]
              unfold recsT yesR comR
              split <;> simp)
            have hrl : (recsP x.n base x.ws).length = x.ws.length := by simp [recsP]
            have HRL := hid hrl
            have HB0 := hid (heap_alloc_new wr (.cells #[.int .i64 x.n, .int .u16 (x.mask : Int), .bool x.com, .slice qa x.ws.length qc] 61))
            have HWB := hid ((Kept.refl [] wr).alloc (.cells #[.int .i64 x.n, .int .u16 (x.mask : Int), .bool x.com, .slice qa x.ws.length qc] 61))
            obtain ⟨_, z1'⟩ := HB.out _ (HK.out.trans HWB.out (fun x hx => .inl hx))
            obtain ⟨z0', _⟩ := HB.out _ (HK.out.trans HWB.out (fun x hx => .inl hx))
            have HLE := hid (show (recW base txs k).length + ((recsP x.n base x.ws).length + 2) ≤ 110000 from by
              have h1 := HSZ.out
              have h2 := recsT_ge base x
              have h3 := HRL.out
              omega)
            clear hrl HSZ
            go_wp2_with (first
              | (go_at_call 24; refine (HRC.out _ (HKW.out.trans HWB.out (fun x hx => .inl hx))).mono ?_; clear HRC; rintro e w2 ⟨v2, rfl, ho2, hk2⟩; have HO2 := hid ho2; have HK2 := hid (HWB.out.trans hk2 (fun x hx => .inl hx)); have HB2 := hid ((hk2.block _ (Array.getElem?_eq_some_iff.1 HB0.out).1 (by simp)).trans HB0.out); clear hk2 ho2)
              | (at_builtin; refine Here.mk ?_))
            refine Here.of ?_
            refine wpList_append_rc rfl _ _ rfl W0.heap.size _ (recW base txs k) rfl (ownK_kept HO.out HK2.out (fun _ _ => List.not_mem_nil)) _ (recsP x.n base x.ws) rfl (SlAt.of_own HO2.out) (by have := HLE.out; omega) (Nat.le_trans hsz HK2.out.size) ?_
            intro v3 w3 hown3 hgr3 _
            have HK3 := hid ((HK.out.trans HK2.out (fun x hx => .inl hx)).grown_own (ownK_kept HO.out HK2.out (fun _ _ => List.not_mem_nil)) hgr3 (Nat.le_refl _))
            have HB3 := hid (grown_block hgr3 HB2.out (own_ne_box (ownK_kept HO.out HK2.out (fun _ _ => List.not_mem_nil)) HB2.out (by decide)))
            have HO3 := hid hown3
            obtain ⟨b0, b1, b2, b3⟩ := cell4 HB3.out
            clear hown3 hgr3 z0 z1 z0' z1' e0 e1 e2 e3
            go_wp2_with (at_builtin; refine Here.mk ?_)
            refine Here.of ?_
            refine wpList_append_rc rfl _ _ rfl W0.heap.size _ (recW base txs k ++ recsP x.n base x.ws) rfl (ownK_kept HO3.out ((Kept.refl [] w3).alloc _) (fun _ _ => List.not_mem_nil)) _ [yesR x.n x.mask] rfl (SlAt.rec1 w3 (yesR x.n x.mask)) (by have := HLE.out; simp only [List.length_append, List.length_singleton]; omega) (by have := HK3.out.size; simp; omega) ?_
            intro v4 w4 hown4 hgr4 _
            have HK4 := hid ((HK3.out.alloc (.cells (Rc.f (yesR x.n x.mask)).toArray 55)).grown_own (ownK_kept HO3.out ((Kept.refl [] w3).alloc _) (fun _ _ => List.not_mem_nil)) hgr4 (Nat.le_refl _))
            have hb3 := (((Kept.refl [] w3).alloc (.cells (Rc.f (yesR x.n x.mask)).toArray 55)).block _ (Array.getElem?_eq_some_iff.1 HB3.out).1 (by simp)).trans HB3.out
            have HB4 := hid (grown_block hgr4 hb3 (own_ne_box (ownK_kept HO3.out ((Kept.refl [] w3).alloc _) (fun _ _ => List.not_mem_nil)) hb3 (by decide)))
            have HO4 := hid hown4
            clear hown4 hgr4 b0 b1 b2 b3 hb3
            obtain ⟨b0, b1, b2, b3⟩ := cell4 HB4.out
            obtain ⟨xn, xm, xc, xw⟩ := x
            dsimp only at b0 b1 b2 b3
            cases xc with
            | false =>
              have HT3 := hid (show recW base txs (k + 1) = recW base txs k ++ recsP xn base xw ++ [yesR xn xm] by rw [HT.out, HT2.out]; simp)
              clear HT HT2
              go_wp2
              go_roundg (L.length - (k + 1))
              case measure => omega
              case rel => exact ⟨k + 1, by first | rfl | go_num, by omega, Nat.le_refl _, (show World.ownsRow _ _ _ _ _ _ _ from by rw [HT3.out]; exact HO4.out), HK4.out⟩
            | true =>
              have HT3 := hid (show recW base txs (k + 1) = recW base txs k ++ recsP xn base xw ++ [yesR xn xm] ++ [comR xn] by rw [HT.out, HT2.out]; simp)
              clear HT HT2
              go_wp2_with (at_builtin; refine Here.mk ?_)
              refine Here.of ?_
              refine wpList_append_rc rfl _ _ rfl W0.heap.size _ (recW base txs k ++ recsP xn base xw ++ [yesR xn xm]) rfl (ownK_kept HO4.out ((Kept.refl [] w4).alloc _) (fun _ _ => List.not_mem_nil)) _ [comR xn] rfl (SlAt.rec1 w4 (comR xn)) (by have := HLE.out; simp only [List.length_append, List.length_singleton]; omega) (by have := HK4.out.size; simp; omega) ?_
              intro v5 w5 hown5 hgr5 _
              have HK5 := hid ((HK4.out.alloc (.cells (Rc.f (comR xn)).toArray 55)).grown_own (ownK_kept HO4.out ((Kept.refl [] w4).alloc _) (fun _ _ => List.not_mem_nil)) hgr5 (Nat.le_refl _))
              have HO5 := hid hown5
              clear hown5 hgr5 b0 b1 b2 b3
              go_wp2
              go_roundg (L.length - (k + 1))
              case measure => omega
              case rel => exact ⟨k + 1, by first | rfl | go_num, by omega, Nat.le_refl _, (show World.ownsRow _ _ _ _ _ _ _ from by rw [HT3.out]; exact HO5.out), HK5.out⟩
          · obtain rfl : k = L.length := by omega
            have hltz : ¬ (L.length : Int) < (L.length : Int) := by omega
            have ho2 := HO.out
            rw [recW_all base txs (by omega)] at ho2
            have HO2 := hid ho2
            clear ho2 HO
            go_wp2
            go_returns
            exact ⟨_, rfl, ownsRow_base HO2.out (by have := HRS.out; omega), HKW.out⟩
--@@ end
end Go.Proofs.YtpcpeoejcnndhaaGreat
