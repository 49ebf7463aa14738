/- Replay: what records come to. -/
import Derived.Test.YtpcpeoejcnndhaaGreatRedoOne2
import Derived.Test.YtpcpeoejcnndhaaGreatRedoRec2
import Derived.Test.YtpcpeoejcnndhaaGreatM1
import Derived.Test.YtpcpeoejcnndhaaGreatM2
set_option linter.all false
namespace Go.Proofs.YtpcpeoejcnndhaaGreat
open Go.RowKit Go.Shelf Go.Lib Go.Sort Go.Proofs
theorem PlayAt.kept {w w' : World} {n0 A : Nat} {p : Pl} (h : PlayAt w n0 A p) (hk : Kept [] w w') : PlayAt w' n0 A p := by
  obtain ⟨m, bv, tv, lo, ws, H⟩ := h
  exact ⟨m, bv, tv, lo, ws, H.kept hk⟩
--@@ redo.Replay
theorem works_look {w : World} {m : Nat} {ws : List (Int × Wo)} (hM : MapIs w m (Value.int .i64) (wsP ws)) {tx : Int} {x : Wo} (hx : aget tx ws = some x) :
    (Instr.lookup 69 (.map (some m)) (.int .i64 tx) false).run Tryz.prog w = .ok (.pointer (some ⟨x.b, 0, none⟩)) w := by
  have := hM.run_lookup (KeyOK.int (k := .i64) Tryz.underlying3) Tryz.underlying69 (zeroWork w) tx false
  rw [wsP_get, hx] at this
  exact this
theorem txInfo : (Tryz.prog.info? 59).map (fun i => (i.zero, i.size, i.bytes)) = some (some (.agg #[.int .i64 0, .int .u16 0, .bool false, .slice none 0 0]), 4, 40) := by kernel_rfl
structure StF (lo : Nat) (w : World) (bv tv : Value) (s : Stp) : Prop where
  base : PrF lo w bv s.base
  txs : ∃ L : List (Txp × Value), L.map (·.1) = s.txs ∧ SlAt w tv 4 L.length (L.flatMap txF) ∧ (∀ a n c, tv = .slice (some a) n c → 0 < n → lo ≤ a.block) ∧ ∀ q ∈ L, PrF lo w q.2 q.1.ws
theorem StF.st {lo : Nat} {w : World} {bv tv : Value} {s : Stp} (h : StF lo w bv tv s) : StAt w bv tv s := by
  obtain ⟨L, h1, h2, _, h3⟩ := h.txs
  exact ⟨h.base.toPrAt, ⟨L, h1, h2, fun q hq => (h3 q hq).toPrAt⟩⟩
theorem slAt_kept_of {S : List Nat} {w w' : World} {size n : Nat} {v : Value} {xs : List Value} (h : SlAt w v size n xs) (hk : Kept S w w') (hS : ∀ a m c, v = .slice (some a) m c → 0 < m → a.block ∉ S) : SlAt w' v size n xs := by
  obtain ⟨a, cap, h1, h2, h3, h4⟩ := h.ex
  refine ⟨a, cap, h1, h2, h3, fun hn => ?_⟩
  obtain ⟨b, off, h5, h6, h7⟩ := h4 hn
  subst h5
  exact ⟨b, off, rfl, Nat.lt_of_lt_of_le h6 hk.size, fun j u hu => hk.cell (h7 j u hu) (hS _ _ _ h1 hn)⟩
theorem StF.kept_of {S : List Nat} {lo : Nat} {w w' : World} {bv tv : Value} {s : Stp} (h : StF lo w bv tv s) (hk : Kept S w w') (hS : ∀ x ∈ S, x < lo) : StF lo w' bv tv s := by
  obtain ⟨L, h1, h2, h3, h4⟩ := h.txs
  exact ⟨h.base.kept_of hk (fun a n c hv hn hb => by have := h.base.fr a n c hv hn; have := hS _ hb; omega), L, h1, slAt_kept_of h2 hk (fun a n c hv hn hb => by have := h3 a n c hv hn; have := hS _ hb; omega), h3, fun q hq => (h4 q hq).kept_of hk (fun a n c hv hn hb => by have := (h4 q hq).fr a n c hv hn; have := hS _ hb; omega)⟩
def notBlk (v : Value) (g : Option Nat) : Prop := ∀ a n c, v = .slice (some a) n c → 0 < n → g ≠ some a.block
structure OutIs (w : World) (lo BO : Nat) (bv tv : Value) (L : List (Txp × Value)) : Prop where
  blk : w.heap[BO]? = some (.cells #[bv, tv] 32 (0, 0))
  own : w.ownsRow lo 59 4 tv L.length (L.flatMap txF)
  prs : ∀ q ∈ L, PrAt w q.2 q.1.ws ∧ notBlk q.2 tv.ownBlock ∧ ∀ a n c, q.2 = .slice (some a) n c → 0 < n → a.block < w.heap.size
  hi : lo ≤ w.heap.size
  bo : BO < lo
  frs : ∀ q ∈ L, ∀ a n c, q.2 = .slice (some a) n c → 0 < n → lo ≤ a.block
theorem OutIs.step {wr w4 w5 W : World} {lo BO g c : Nat} {bv tv : Value} {L : List (Txp × Value)} {q : Txp × Value} (H : OutIs wr lo BO bv tv L) (hk4 : Kept [] wr w4) (hp : PrAt w4 q.2 q.1.ws) (hf : ∀ a n c, q.2 = .slice (some a) n c → 0 < n → wr.heap.size ≤ a.block)
    (hW : Kept [] w4 W) (hown : w5.ownsRow lo 59 4 (.slice (some ⟨g, 0, none⟩) (L.length + 1) c) (L.length + 1) (L.flatMap txF ++ txF q)) (hgr : W.grownBy w5 tv.ownBlock) (hwh : tv.ownBlock = some g ∨ g = W.heap.size) :
    OutIs (w5.setCell ⟨BO, 1, none⟩ (.slice (some ⟨g, 0, none⟩) (L.length + 1) c)) lo BO bv (.slice (some ⟨g, 0, none⟩) (L.length + 1) c) (L ++ [q]) ∧ Kept (BO :: tv.ownBlock.toList) wr (w5.setCell ⟨BO, 1, none⟩ (.slice (some ⟨g, 0, none⟩) (L.length + 1) c)) := by
  have hk5 : Kept tv.ownBlock.toList W w5 := Kept.of_grown hgr _ (fun k hk => by simpa using hk)
  have hkW : Kept [] wr W := hk4.trans hW (fun x hx => .inl hx)
  have hkr : Kept tv.ownBlock.toList wr w5 := (hkW.mono (by simp)).trans hk5 (fun x hx => .inl hx)
  have ho : ∀ x, tv.ownBlock = some x → lo ≤ x ∧ x < wr.heap.size := fun x hx => H.own.lt x hx
  have hbo := H.bo
  have hBr := (Array.getElem?_eq_some_iff.1 H.blk).1
  have hB5 : w5.heap[BO]? = some (.cells #[bv, tv] 32 (0, 0)) := (hkr.block BO hBr (fun hx => by have := ho BO (by simpa using hx); omega)).trans H.blk
  have hk6 : Kept [BO] w5 (w5.setCell ⟨BO, 1, none⟩ (.slice (some ⟨g, 0, none⟩) (L.length + 1) c)) := (Kept.refl _ w5).setCell (.inl (by simp)) _
  have hsm := small_cells hB5 (by simp)
  have hgl : lo ≤ g := by
    rcases hown.2 with ⟨h, _⟩ | ⟨g', cap, cur, h, hb, _⟩
    · cases h
    · cases h; exact hb
  have s1 := hkW.size
  have s2 := hk5.size
  have s3 := hW.size
  have s4 := hk4.size
  have pr6 : ∀ v l, PrAt w5 v l → PrAt (w5.setCell ⟨BO, 1, none⟩ (.slice (some ⟨g, 0, none⟩) (L.length + 1) c)) v l := fun v l h => h.kept_of hk6 fun a n cc hv hn hb => by
    simp only [List.mem_singleton] at hb
    exact h.far hsm a n cc hv hn hb
  have hset : (w5.setCell ⟨BO, 1, none⟩ (.slice (some ⟨g, 0, none⟩) (L.length + 1) c)).heap.size = w5.heap.size := by simp [World.setCell]
  refine ⟨⟨heap_put hB5 1 _, ?_, fun r hr => ?_, ?_, hbo, fun r hr => by
    rcases List.mem_append.1 hr with hr | hr
    · exact H.frs r hr
    · rw [List.mem_singleton] at hr
      subst hr
      exact fun a n cc hv hn => Nat.le_trans H.hi (hf a n cc hv hn)⟩, ?_⟩
  · have := ownK_kept hown hk6 (fun x hx hb => by
      simp only [List.mem_singleton] at hb
      have hx' : g = x := by simpa [Value.ownBlock] using hx
      omega)
    simpa using this
  · rw [hset]
    rcases List.mem_append.1 hr with hr | hr
    · obtain ⟨h1, h2, h3⟩ := H.prs r hr
      refine ⟨pr6 _ _ (h1.kept_of hkr fun a n cc hv hn hb => h2 a n cc hv hn (by simpa using hb)), fun a n cc hv hn e => ?_, fun a n cc hv hn => by have := h3 a n cc hv hn; omega⟩
      have h4 := h3 a n cc hv hn
      have e' : g = a.block := by simpa [Value.ownBlock] using e
      rcases hwh with h | h
      · exact h2 a n cc hv hn (h.trans (by rw [e']))
      · omega
    · rw [List.mem_singleton] at hr
      subst hr
      have h4 := hp.lt
      refine ⟨pr6 _ _ ((hp.kept hW).kept_of hk5 fun a n cc hv hn hb => ?_), fun a n cc hv hn e => ?_, fun a n cc hv hn => by have := h4 a n cc hv hn; omega⟩
      · have := hf a n cc hv hn
        have := ho a.block (by simpa using hb)
        omega
      · have h5 := hf a n cc hv hn
        have h6 := h4 a n cc hv hn
        have e' : g = a.block := by simpa [Value.ownBlock] using e
        rcases hwh with h | h
        · have := ho g h; omega
        · omega
  · rw [hset]; have := H.hi; omega
  · exact (hkr.mono (T := BO :: tv.ownBlock.toList) (fun x hx => List.mem_cons_of_mem _ hx)).trans hk6 (fun x hx => .inl (by simp at hx; simp [hx]))
theorem take_txs {f : Int → Option Txp} {ks : List Int} {j : Nat} (hj : j < ks.length) : (ks.take (j + 1)).filterMap f = (ks.take j).filterMap f ++ (f ks[j]).toList := by
  rw [List.take_succ_eq_append_getElem hj, List.filterMap_append]
  congr 1
set_option maxHeartbeats 8000000 in
set_option maxRecDepth 100000 in
theorem replay_anyF (v : Value) (l : List Rc) (w : World) (h : SlAt w v 11 l.length (l.flatMap Rc.f)) (hl : l.length ≤ 10000) (hm : ∀ r ∈ l, r.mask ≤ 65535) :
    Calls Tryz.prog 11 #[v] w fun e w' => ∃ bv tv, e = .returned (.agg #[bv, tv]) ∧ StF w.heap.size w' bv tv (replayP l) ∧ Kept [] w w' := by
  obtain ⟨a, cap, rfl, m1, _, hc⟩ := h.ex
  have HC := hid hc
  have HLE := hid (fun k => play_le PlLe.zero (l.take k) (fun r hr => hm r (List.mem_of_mem_take hr)))
  have HM := hid hm
  have hmm := @run_makeMap Tryz.prog
  obtain ⟨st, hst⟩ : ∃ st, st = replayP l := ⟨_, rfl⟩
  rw [← hst]
  have HST := hid hst
  clear h hc hm hst
  go_enter Tryz.func11, Tryz.ntmps11
  go_upto_region 1 with (fail)
  go_cut [2, 3] (fun s2 s3 wx => s2 = .pointer (some ⟨w.heap.size, 0, none⟩) ∧ s3 = .pointer (some ⟨w.heap.size + 2, 0, none⟩) ∧ Aside (PlayAt wx (w.heap.size + 1) (w.heap.size + 2) p0) ∧ Aside (Kept [] w wx) ∧ Aside (wx.heap[w.heap.size]? = some (.cells #[.slice none 0 0, .slice none 0 0] 32 (0, 0))) ∧ w.heap.size + 1 ≤ wx.heap.size)
  case first =>
    go_wp2
    go_meet
    have e1 : ((w.alloc (.cells #[.slice none 0 0, .slice none 0 0] 32)).alloc (.map #[] 0)).heap.size = w.heap.size + 2 := by simp
    have hk := (((Kept.refl [] w).alloc (.cells #[.slice none 0 0, .slice none 0 0] 32)).alloc (.map #[] 0)).alloc (.cells #[.slice none 0 0, .map (some (w.heap.size + 1)), .int .i64 (-1), .slice none 0 0] 71)
    have hA := heap_alloc_new ((w.alloc (.cells #[.slice none 0 0, .slice none 0 0] 32)).alloc (.map #[] 0)) (.cells #[.slice none 0 0, .map (some (w.heap.size + 1)), .int .i64 (-1), .slice none 0 0] 71)
    rw [e1] at hA
    have hM := ((MapIs.made (w.alloc (.cells #[.slice none 0 0, .slice none 0 0] 32)) (Value.int .i64)).alloc (.cells #[.slice none 0 0, .map (some (w.heap.size + 1)), .int .i64 (-1), .slice none 0 0] 71))
    have hB := heap_alloc_new w (.cells #[.slice none 0 0, .slice none 0 0] 32)
    have hk2 := (((Kept.refl [] (w.alloc (.cells #[.slice none 0 0, .slice none 0 0] 32))).alloc (.map #[] 0)).alloc (.cells #[.slice none 0 0, .map (some (w.heap.size + 1)), .int .i64 (-1), .slice none 0 0] 71))
    refine ⟨rfl, rfl, ⟨w.heap.size + 1, .slice none 0 0, .slice none 0 0, 0, [], ⟨hA, ⟨PrAt.nil _, fun a n c hv => (by cases hv)⟩, fun h => absurd h (by decide), by simpa [wsP] using hM, fun x hx => (by cases hx), rfl, by simp [playBs], fun b hb => (by simp [playBs] at hb; omega), List.nodup_nil⟩⟩, hk, (hk2.block _ (by simp) (by simp)).trans hB, Nat.le_trans (by simp) hk2.size⟩
  case rest =>
  obtain ⟨rfl, rfl, H1, HK1, HB1, hs1⟩ := hcut
  rename World => w1
  clear hmm
  go_wp2
  go_loopw [15] (fun i wr => ∃ k : Nat, k ≤ l.length ∧ i = .int .i64 k ∧ Aside (PlayAt wr (w.heap.size + 1) (w.heap.size + 2) (playP p0 (l.take k))) ∧ Aside (Below (w.heap.size + 1) w1 wr)) (fun i _ => l.length - (intOf i).toNat)
  case atStart => exact ⟨0, Nat.zero_le _, rfl, H1, ⟨rfl, rfl, rfl, Nat.le_refl _, fun _ _ => rfl⟩⟩
  case round =>
    obtain ⟨k, hk, rfl, HP, HB⟩ := hrel
    by_cases hlt : k < l.length
    · obtain ⟨b, off, rfl, hbl, d1⟩ := HC.out (by omega)
      have hle := HLE.out k
      obtain ⟨q0, q1, q2, q3, q4, q5, q6, q7, q8, q9, q10⟩ := rec_cells (fun j u hu => ((HB.out.cell (p := ⟨b, off + j, none⟩) (by dsimp only; omega)).trans (HK1.out.cell (d1 j u hu) (by simp)))) hlt
      have HT := hid (play_take (p := p0) hlt)
      have HMR := hid (HM.out l[k] (List.getElem_mem hlt))
      generalize l[k] = r at *
      have HPL := hid HP.out
      have HBL := hid HB.out
      have hn0 : w.heap.size + 1 ≤ wr.heap.size := by have := HB.out.size; omega
      have hpl := hle
      rw [Nat.zero_add, List.length_take] at hpl
      have HLEK := hid hpl
      clear HP HB hle hpl
      generalize playP p0 (l.take k) = pk at *
      have HRR := hid (recright_any r)
      have HBX := hid (fun W (hK : Kept [] (wr.alloc (.cells r.f.toArray 55)) W) => box_cells r hK (by simp))
      have HON := hid (fun W (h : PlayAt W (w.heap.size + 1) (w.heap.size + 2) pk) => one_any r W h HMR.out (by have := HLEK.out.base; omega) (fun q hq => by have := HLEK.out.work q hq; omega) (by have := HLEK.out.t; omega) (by have := HLEK.out.l; omega))
      by_cases hr : r.right = true
      · rw [hr] at HRR
        have HR := hid hr
        clear hr
        unfold stepP at HT
        rw [if_pos HR.out] at HT
        generalize oneP pk r = pk1 at *
        obtain ⟨kind, tx, mask, ⟨k1, k2, k3, k4⟩, ⟨o1, o2⟩, ⟨n1, n2⟩⟩ := r
        dsimp only at q0 q1 q2 q3 q4 q5 q6 q7 q8 q9 q10
        simp only [Rc.v, Rc.f] at HRR HBX HON
        go_wp2_with (first
          | (go_at_call 27; refine (HRR.out _).mono ?_; clear HRR; rintro e w2 ⟨rfl, hk2⟩; obtain ⟨y0, y1, y2, y3, y4, y5, y6, y7, y8, y9, y10⟩ := HBX.out w2 hk2; have HK2 := hid (((Kept.refl [] wr).alloc _).trans hk2 (fun x hx => .inl hx)); clear hk2 q0 q1 q2 q3 q4 q5 q6 q7 q8 q9 q10)
          | (go_at_call 28; refine (HON.out _ (HPL.out.kept HK2.out)).mono ?_; clear HON; rintro e w3 ⟨rfl, hP3, hB3⟩))
        go_roundw
        case rel => exact ⟨k + 1, by omega, by go_num, by show PlayAt _ _ _ _; rw [HT.out]; exact hP3, HBL.out.trans ((HK2.out.below hn0 (by simp)).trans hB3)⟩
        case measure => simp [intOf]; omega
      · have hr' : r.right = false := by simpa using hr
        rw [hr'] at HRR
        unfold stepP at HT
        rw [if_neg hr] at HT
        clear hr hr' HON
        obtain ⟨kind, tx, mask, ⟨k1, k2, k3, k4⟩, ⟨o1, o2⟩, ⟨n1, n2⟩⟩ := r
        dsimp only at q0 q1 q2 q3 q4 q5 q6 q7 q8 q9 q10
        simp only [Rc.v, Rc.f] at HRR HBX
        go_wp2_with (first
          | (go_at_call 27; refine (HRR.out _).mono ?_; clear HRR; rintro e w2 ⟨rfl, hk2⟩; have HK2 := hid (((Kept.refl [] wr).alloc _).trans hk2 (fun x hx => .inl hx)); clear hk2 q0 q1 q2 q3 q4 q5 q6 q7 q8 q9 q10))
        go_roundw
        case rel => exact ⟨k + 1, by omega, by go_num, by show PlayAt _ _ _ _; rw [HT.out]; exact HPL.out.kept HK2.out, HBL.out.trans (HK2.out.below hn0 (by simp))⟩
        case measure => simp [intOf]; omega
    · obtain rfl : k = l.length := by omega
      have hltz : ¬ (l.length : Int) < (l.length : Int) := by omega
      rw [List.take_length] at HP
      have HLEL := hid (HLE.out l.length)
      rw [List.take_length] at HLEL
      have HPOK := hid (play_ok PlOk.zero l)
      have HKW := hid ((HK1.out.then_below HB.out (by omega)))
      have HB0 := hid ((HB.out.block w.heap.size (by omega)).trans HB1.out)
      obtain ⟨m, bv, tv, lo, ws, HP⟩ := HP.out
      have HPS := hid HP
      have hsW : w.heap.size + 1 ≤ wr.heap.size := by have := HB.out.size; omega
      clear HP HLE HM HC HB H1 HK1 HB1
      unfold replayP at HST
      generalize playP p0 l = pf at *
      rename World => wa
      have hn0 := HPS.out.n0_le
      obtain ⟨ba, bc, rfl, _⟩ := HPS.out.base.at'.ex
      obtain ⟨a0, a1, a2, a3⟩ := HPS.out.cells
      have hAlt := HPS.out.lt (w.heap.size + 2) (by simp [playBs])
      clear a2 a3
      go_upto_region 8 with (fail)
      go_cut [6] (fun s6 wx => s6 = .pointer (some ⟨wa.heap.size, 0, none⟩) ∧ Aside (Kept [] wa wx) ∧ Aside (wx.heap[wa.heap.size]? = some (.cells #[.slice ba pf.base.length bc, .slice none 0 0] 32 (0, 0))))
      case first =>
        go_wp2
        go_meet
        exact ⟨rfl, (Kept.refl [] wa).alloc _, heap_alloc_new wa _⟩
      case rest =>
      obtain ⟨rfl, HKA, HBO⟩ := hcut
      rename World => wb
      have HPB := hid (HPS.out.kept HKA.out)
      obtain ⟨a0', a1', a2', a3'⟩ := HPB.out.cells
      have hsb := HKA.out.size
      have hBO := (Array.getElem?_eq_some_iff.1 HBO.out).1
      clear a0 a1 a0' a2' a3'
      have hkn : (wsP ws).map (·.1) = pf.works.map (·.1) := by rw [HPB.out.eq]; simp [wsP, wsK, List.map_map, Function.comp_def]
      have hll : (wsP ws).length ≤ 10000000 := by
        have h1 := HLEL.out.n
        rw [HPB.out.eq] at h1
        simp only [wsK, List.length_map] at h1
        simp only [wsP, List.length_map]
        omega
      obtain ⟨D, hown, hperm, hsize⟩ := HPB.out.map.owns (k := 3) Tryz.underlying3 (by rw [hkn]; exact HPOK.out.kn) (fun q hq => by
        have hm : q.1 ∈ pf.works.map (·.1) := by rw [← hkn]; exact List.mem_map.2 ⟨q, hq, rfl⟩
        obtain ⟨z, hz, hzq⟩ := List.mem_map.1 hm
        have := HPOK.out.wk z hz
        rw [hzq] at this
        simp [Lit.wf, IntKind.min, IntKind.max, IntKind.signed, IntKind.bits]; omega) (by unfold maxLen; omega)
      rw [hkn] at hperm
      have HKK := hid (Tryz.maps_Keys_30 (some m) wb)
      have HSS := hid (Tryz.slices_Sorted_keys_29_30 m _ D anyR wb hown (by rw [hsize]; unfold maxLen; omega) (by rw [hsize]; omega))
      have HPE := hid hperm
      clear hperm hsize hown hkn hll
      go_wp2_with (first
        | (go_at_call 30; refine (callsIn_wide.1 HKK.out).mono ?_; rintro e w1' ⟨rfl, rfl⟩)
        | (go_at_call 29; refine (callsIn_wide.1 HSS.out).mono ?_; rintro e wc ⟨kv, ss, rfl, hS, hrow, hnil, hbc⟩; obtain ⟨ka, kc, rfl⟩ := ownsRow_slice hrow))
      obtain ⟨ks, hks⟩ : ∃ ks, srtI (pf.works.map (·.1)) = ks := ⟨_, rfl⟩
      have hse : (ss.mergeSort fun x y => decide (x ≤ y)) = ks := (srtI_permeq (hS.trans HPE.out)).trans hks
      have hlen : ss.length = ks.length := by rw [← hse]; exact (List.mergeSort_perm ss _).length_eq.symm
      have hkm : ∀ n, n ∈ ks → n ∈ pf.works.map (·.1) := fun n hn => by rw [← hks, (srtI_perm _).mem_iff] at hn; exact hn
      rw [hse, hlen] at hrow
      rw [hlen]
      have HKC := hid ((HKA.out.alloc (.cells #[.map (some m)] 69)).then_below hbc (by simp; omega))
      have HPC := hid (HPS.out.kept HKC.out)
      have HBC := hid ((HKC.out.block w.heap.size (by omega) (by simp)).trans HB0.out)
      have HKB2 := hid ((((Kept.refl [] wb).alloc (.cells #[.map (some m)] 69)).then_below hbc (by simp)).block wa.heap.size hBO (by simp) |>.trans HBO.out)
      have HROW := hid hrow
      have HKM := hid hkm
      have HKS := hid hks
      have hsc := HKC.out.size
      have hsc1 : wa.heap.size < wc.heap.size := (Array.getElem?_eq_some_iff.1 HKB2.out).1
      have hks64 : ks.length ≤ 10000 := by
        have h1 := HLEL.out.n
        have h2 := congrArg List.length HKS.out
        rw [(srtI_perm _).length_eq, List.length_map] at h2
        omega
      have hkb := HLEL.out
      clear hS hrow hnil hbc hse hlen hkm hks HB0 HBO HKA HKK HSS HPE HPB hBO a1'
      have HWB := hid (fun (x : Int × Wo) (hx : x ∈ ws) => HLEL.out.work (x.1, x.2.k) (by rw [HPC.out.eq]; exact List.mem_map.2 ⟨x, hx, rfl⟩))
      go_loopw [37] (fun i wr => ∃ j : Nat, j ≤ ks.length ∧ i = .int .i64 j ∧ ∃ L tx, Aside (OutIs wr wc.heap.size wa.heap.size (.slice ba pf.base.length bc) tx L) ∧ Aside (L.map (·.1) = (ks.take j).filterMap (txOf pf.works)) ∧ Aside (Kept [wa.heap.size] wc wr)) (fun i _ => ks.length - (intOf i).toNat)
      case atStart => exact ⟨0, Nat.zero_le _, rfl, [], _, ⟨HKB2.out, ⟨rfl, .inl ⟨rfl, rfl⟩⟩, fun q hq => (by cases hq), Nat.le_refl _, hsc1, fun q hq => (by cases hq)⟩, rfl, Kept.refl _ _⟩
      case round =>
        obtain ⟨j, hj, rfl, L, tx, HO, HL, HK⟩ := hrel
        rename World => wr
        by_cases hlt2 : j < ks.length
        · have HTK := hid (take_txs (f := txOf pf.works) hlt2)
          have hmem : ks[j] ∈ pf.works.map (·.1) := HKM.out _ (List.getElem_mem hlt2)
          have hcj : (ks.map encZ)[j]? = some (.int .i64 ks[j]) := by simp [hlt2]
          generalize ks[j] = n at *
          obtain ⟨x, hx⟩ : ∃ x, aget n ws = some x := by
            cases hx : aget n ws with
            | some x => exact ⟨x, rfl⟩
            | none =>
              rw [tget_none] at hx
              rw [HPC.out.eq] at hmem
              exact absurd (by simpa [wsK, List.map_map, Function.comp_def] using hmem) hx
          have hxm := tget_mem hx
          have hlm := HPS.out.lt
          have hbm := mem_bs (A := w.heap.size + 2) (m := m) hxm
          have l1 : x.b < wa.heap.size := hlm _ hbm.1
          have l2 : x.m < wa.heap.size := hlm _ hbm.2
          have l3 := hlm m (by simp [playBs])
          have HWR := hid ((HPC.out.each _ hxm).kept HK.out (by simp; omega) (by simp; omega))
          have hML := works_look (HPC.out.map.kept HK.out (by simp; omega)) hx
          have a1r := HK.out.cell HPC.out.cells.2.1 (by simp; omega)
          obtain ⟨kv', kc', hkv, _, _, hk4⟩ := (SlAt.of_own HROW.out).ex
          cases hkv
          obtain ⟨kb, ko, rfl, _, hkc⟩ := hk4 (by omega)
          have hkf := own_fresh HROW.out _ _ _ rfl
          have hkcell := HK.out.cell (hkc j _ hcj) (by simp at hkf ⊢; omega)
          obtain ⟨e0, e1, e2⟩ := HWR.out.cells
          obtain ⟨c0, c1, z0, z1⟩ := cell2 HO.out.blk
          obtain ⟨xa, xc, rfl⟩ := ownsRow_slice HO.out.own
          have hgw : getW pf.works n = x.k := by rw [HPC.out.eq]; exact wk_get hx
          have hxl := HWB.out _ hxm
          have HGW := hid hgw
          clear hkc hkf hk4 hlm hbm hgw hx hmem hcj
          obtain ⟨b, mb, ⟨mk, co, xs⟩⟩ := x
          dsimp only at e0 e1 e2 hML l1 l2 HGW hxl HWR
          have HPA := hid (fun W (hK : Kept [] wr W) => wpairs_any ⟨b, mb, ⟨mk, co, xs⟩⟩ W (HWR.out.kept hK (by simp) (by simp)) (by dsimp only; omega))
          dsimp only at HPA
          by_cases hm0 : mk = 0
          · subst hm0
            have e0' : wr.cell? ⟨b, 0, none⟩ = some (.int .u16 0) := e0
            have hno : txOf pf.works n = none := by unfold txOf; rw [HGW.out]; rfl
            rw [hno] at HTK
            clear e0 hno HPA
            go_wp2
            go_roundw
            case rel => exact ⟨j + 1, by omega, by go_num, L, _, HO, by show _ = _; rw [HTK.out, Option.toList_none, List.append_nil]; exact HL.out, HK⟩
            case measure => simp [intOf]; omega
          · have hb0 : ((mk : Int) != 0) = true := by simpa using hm0
            have hso : txOf pf.works n = some ⟨n, mk, co, keysP (xs.map toPr)⟩ := by unfold txOf; rw [HGW.out, if_pos hm0]
            rw [hso] at HTK
            clear hm0 hso
            have hBr := (Array.getElem?_eq_some_iff.1 HO.out.blk).1
            have HBN := hid (fun x hx => (HO.out.own.lt x hx).1)
            have hLl : L.length ≤ 10000000 := by
              have h1 := congrArg List.length HL.out
              have h2 := List.length_filterMap_le (txOf pf.works) (ks.take j)
              rw [List.length_map] at h1
              rw [List.length_take] at h2
              omega
            go_wp2_with fail
            have HSK := hid (fun W (hK : Kept [] wr W) => show W.cell? ⟨b, 0, none⟩ = some (.int .u16 (mk : Int)) ∧ W.cell? ⟨b, 1, none⟩ = some (.bool co) from ⟨hK.cell e0 (by simp), hK.cell e1 (by simp)⟩)
            have hbN := hid (show b ∉ [wa.heap.size] by simp; omega)
            have HB2 := hid (fun (g : Nat) (hg : g ∈ (Value.slice xa L.length xc).ownBlock.toList) => HBN.out g (by simpa using hg))
            refine wp_region_rows_tail 15 (yieldDen [.eq (.pointer (some ⟨wa.heap.size, 1, none⟩)), .eq (.slice xa L.length xc), .eq (.int .i64 n), .eq (.pointer (some ⟨b, 0, none⟩)), .eq (.pointer (some ⟨b, 0, none⟩)), .eq (.pointer (some ⟨b, 0, none⟩)), .eq (.int .u16 (mk : Int)), .eq (.pointer (some ⟨b, 0, none⟩)), .eq (.pointer (some ⟨b, 0, none⟩)), .eq (.pointer (some ⟨b, 1, none⟩)), .eq (.bool co), .eq (.pointer (some ⟨b, 0, none⟩)), .is (fun v w => PrN (wr.heap.size) (keysP (xs.map toPr)) v w) (fun v w w' hk h => PrN.kept hk h), .is (fun v w => AggN (wr.heap.size) (⟨n, mk, co, keysP (xs.map toPr)⟩ : Txp) v w) (fun v w w' hk h => AggN.kept hk h), .is (fun v w => RowN (wr.heap.size) (⟨n, mk, co, keysP (xs.map toPr)⟩ : Txp) v w) (fun v w w' hk h => RowN.kept hk h)]) (fun w' => Kept [] wr w') (Kept []) (by kernel_rfl) (fun j v w w' h h' => yieldDen_kept _ j v w w' h h') (fun w => Kept.refl [] w) (by kernel_rfl) (by kernel_rfl) (by kernel_rfl) (by kernel_rfl) (by kernel_rfl) (by kernel_rfl) ((Kept.refl [] wr).drew) ?_ ?_
            · skip
              refine AllUpto.cons (n := 14) (k := 0) ?_ ?_
              · intro a w' hC hO hd
                rw [if_pos (wanted_none rfl)]
                have p6 : a.tmps[6]? = some (.pointer (some ⟨wa.heap.size, 0, none⟩)) := hO.at (by kernel_rfl) rfl
                clear hd hO
                refine pure_step (.pointer (some ⟨wa.heap.size, 1, none⟩)) rfl hC (Kept.refl _ _) ?_
                go_simp
              refine AllUpto.cons (n := 13) (k := 1) ?_ ?_
              · intro a w' hC hO hd
                obtain ⟨x52, e52, r52⟩ := hd ⟨0, .data⟩ (by simp) rfl _ _ rfl rfl
                obtain rfl : x52 = .pointer (some ⟨wa.heap.size, 1, none⟩) := r52
                rw [if_pos (wanted_none rfl)]
                have y1 := hC.cell c1 (by simp)
                clear hd hO
                refine pure_step (.slice xa L.length xc) rfl hC (Kept.refl _ _) ?_
                go_simp
              refine AllUpto.cons (n := 12) (k := 2) ?_ ?_
              · intro a w' hC hO hd
                rw [if_pos (wanted_none rfl)]
                have p8 : a.tmps[8]? = some (.int .i64 n) := hO.at (by kernel_rfl) rfl
                clear hd hO
                refine pure_step (.int .i64 n) rfl hC (Kept.refl _ _) ?_
                go_simp
              refine AllUpto.cons (n := 11) (k := 3) ?_ ?_
              · intro a w' hC hO hd
                rw [if_pos (wanted_none rfl)]
                have p9 : a.tmps[9]? = some (.pointer (some ⟨b, 0, none⟩)) := hO.at (by kernel_rfl) rfl
                clear hd hO
                refine pure_step (.pointer (some ⟨b, 0, none⟩)) rfl hC (Kept.refl _ _) ?_
                go_simp
              refine AllUpto.cons (n := 10) (k := 4) ?_ ?_
              · intro a w' hC hO hd
                obtain ⟨x55, e55, r55⟩ := hd ⟨3, .data⟩ (by simp) rfl _ _ rfl rfl
                obtain rfl : x55 = .pointer (some ⟨b, 0, none⟩) := r55
                rw [if_pos (wanted_none rfl)]
                clear hd hO
                refine pure_step (.pointer (some ⟨b, 0, none⟩)) rfl hC (Kept.refl _ _) ?_
                go_simp
              refine AllUpto.cons (n := 9) (k := 5) ?_ ?_
              · intro a w' hC hO hd
                obtain ⟨x56, e56, r56⟩ := hd ⟨4, .data⟩ (by simp) rfl _ _ rfl rfl
                obtain rfl : x56 = .pointer (some ⟨b, 0, none⟩) := r56
                rw [if_pos (wanted_none rfl)]
                clear hd hO
                refine pure_step (.pointer (some ⟨b, 0, none⟩)) rfl hC (Kept.refl _ _) ?_
                go_simp
              refine AllUpto.cons (n := 8) (k := 6) ?_ ?_
              · intro a w' hC hO hd
                obtain ⟨x57, e57, r57⟩ := hd ⟨5, .data⟩ (by simp) rfl _ _ rfl rfl
                obtain rfl : x57 = .pointer (some ⟨b, 0, none⟩) := r57
                rw [if_pos (wanted_none rfl)]
                have y1 := hC.cell e0 (by simp)
                clear hd hO
                refine pure_step (.int .u16 (mk : Int)) rfl hC (Kept.refl _ _) ?_
                go_simp
              refine AllUpto.cons (n := 7) (k := 7) ?_ ?_
              · intro a w' hC hO hd
                rw [if_pos (wanted_none rfl)]
                have p9 : a.tmps[9]? = some (.pointer (some ⟨b, 0, none⟩)) := hO.at (by kernel_rfl) rfl
                clear hd hO
                refine pure_step (.pointer (some ⟨b, 0, none⟩)) rfl hC (Kept.refl _ _) ?_
                go_simp
              refine AllUpto.cons (n := 6) (k := 8) ?_ ?_
              · intro a w' hC hO hd
                obtain ⟨x59, e59, r59⟩ := hd ⟨7, .data⟩ (by simp) rfl _ _ rfl rfl
                obtain rfl : x59 = .pointer (some ⟨b, 0, none⟩) := r59
                rw [if_pos (wanted_none rfl)]
                clear hd hO
                refine pure_step (.pointer (some ⟨b, 0, none⟩)) rfl hC (Kept.refl _ _) ?_
                go_simp
              refine AllUpto.cons (n := 5) (k := 9) ?_ ?_
              · intro a w' hC hO hd
                obtain ⟨x60, e60, r60⟩ := hd ⟨8, .data⟩ (by simp) rfl _ _ rfl rfl
                obtain rfl : x60 = .pointer (some ⟨b, 0, none⟩) := r60
                rw [if_pos (wanted_none rfl)]
                clear hd hO
                refine pure_step (.pointer (some ⟨b, 1, none⟩)) rfl hC (Kept.refl _ _) ?_
                go_simp
              refine AllUpto.cons (n := 4) (k := 10) ?_ ?_
              · intro a w' hC hO hd
                obtain ⟨x61, e61, r61⟩ := hd ⟨9, .data⟩ (by simp) rfl _ _ rfl rfl
                obtain rfl : x61 = .pointer (some ⟨b, 1, none⟩) := r61
                rw [if_pos (wanted_none rfl)]
                have y1 := hC.cell e1 (by simp)
                clear hd hO
                refine pure_step (.bool co) rfl hC (Kept.refl _ _) ?_
                go_simp
              refine AllUpto.cons (n := 3) (k := 11) ?_ ?_
              · intro a w' hC hO hd
                rw [if_pos (wanted_none rfl)]
                have p9 : a.tmps[9]? = some (.pointer (some ⟨b, 0, none⟩)) := hO.at (by kernel_rfl) rfl
                clear hd hO
                refine pure_step (.pointer (some ⟨b, 0, none⟩)) rfl hC (Kept.refl _ _) ?_
                go_simp
              refine AllUpto.cons (n := 2) (k := 12) ?_ ?_
              · intro a w' hC hO hd
                obtain ⟨x63, e63, r63⟩ := hd ⟨11, .data⟩ (by simp) rfl _ _ rfl rfl
                obtain rfl : x63 = .pointer (some ⟨b, 0, none⟩) := r63
                rw [if_pos (wanted_none rfl)]
                clear hd hO
                go_simp
                refine (HPA.out _ hC).mono ?_
                rintro e y ⟨v4, rfl, hp4, hk, hf4⟩
                obtain ⟨pa, pc, rfl, _⟩ := hp4.at'.ex
                exact ⟨_, rfl, ⟨⟨_, _, rfl⟩, hp4, fun a m c hv _ => Nat.le_trans hC.size (hf4 a m c hv)⟩, hC.trans hk (fun x hx => .inl hx), hk⟩
              refine AllUpto.cons (n := 1) (k := 13) ?_ ?_
              · intro a w' hC hO hd
                obtain ⟨x54, e54, r54⟩ := hd ⟨2, .data⟩ (by simp) rfl _ _ rfl rfl
                obtain rfl : x54 = .int .i64 n := r54
                obtain ⟨x58, e58, r58⟩ := hd ⟨6, .data⟩ (by simp) rfl _ _ rfl rfl
                obtain rfl : x58 = .int .u16 (mk : Int) := r58
                obtain ⟨x62, e62, r62⟩ := hd ⟨10, .data⟩ (by simp) rfl _ _ rfl rfl
                obtain rfl : x62 = .bool co := r62
                obtain ⟨x64, e64, r64⟩ := hd ⟨12, .data⟩ (by simp) rfl _ _ rfl rfl
                obtain ⟨⟨pa64, pc64, rfl⟩, hp64⟩ := show (∃ pa pc, x64 = .slice pa _ pc) ∧ _ from r64
                rw [if_pos (wanted_none rfl)]
                clear hd hO
                refine pure_step (.agg #[.int .i64 n, .int .u16 (mk : Int), .bool co, .slice pa64 (keysP (xs.map toPr)).length pc64]) ⟨_, _, rfl, r64⟩ hC (Kept.refl _ _) ?_
                go_simp
              refine AllUpto.cons (n := 0) (k := 14) ?_ ?_
              · intro a w' hC hO hd
                obtain ⟨x65, e65, r65⟩ := hd ⟨13, .data⟩ (by simp) rfl _ _ rfl rfl
                obtain ⟨pa65, pc65, rfl, hp65⟩ := show AggN _ _ x65 w' from r65
                rw [if_pos (wanted_none rfl)]
                clear hd hO
                go_simp
                exact ⟨_, rfl, ⟨_, _, _, rfl, hp65.kept ((Kept.refl [] w').alloc _), fun jj u h => cells_new w' (txF ((⟨n, mk, co, keysP (xs.map toPr)⟩ : Txp), .slice pa65 (keysP (xs.map toPr)).length pc65)) 59 jj u h⟩, hC.alloc _, (Kept.refl [] w').alloc _⟩
              exact AllUpto.nil
            · intro a' w4 hC hO hrows
              obtain ⟨xs1, es1, rs1⟩ := hrows 1 (by decide) _ _ rfl rfl
              obtain ⟨xs2, es2, rs2⟩ := hrows 14 (by decide) _ _ rfl rfl
              obtain rfl : xs1 = .slice xa L.length xc := rs1
              obtain ⟨us, hus, ha⟩ := hO.lit rfl [false, false, false, false, false, false, false, false, false, false, false, false, false, false, false, false, false, false, false, false, false, false, false, false, false, false, false, false, false, false, false, false, false, false, false, false, false, false, false, false, false, false, false, false, false, false, false, false, false, false, false, false, true, true, true, true, true, true, true, true, true, true, true, true, true, true, true, true, true, false, false] (by kernel_rfl)
              have u1 := hus 53 _ rfl es1
              have u2 := hus 66 _ rfl es2
              clear hrows hO hus es1 es2
              subst ha
              simp only [merge, Nat.reduceAdd, u1, u2, List.drop_succ_cons, List.drop_zero]
              clear u1 u2
              obtain ⟨g0, pa, pc, rfl, hp4, hcl⟩ := show RowN _ _ xs2 w4 from rs2
              clear rs2
              have y1 := hC.cell c1 (by simp)
              refine wpList_plain rfl fun _ hKK => wp_append_ow (.tmp 53) (.tmp 66) 30 rfl 59 (.agg #[.int .i64 0, .int .u16 0, .bool false, .slice none 0 0]) 4 40 Tryz.underlying30 txInfo rfl (by decide) (by decide) wc.heap.size (.slice xa L.length xc) L.length (L.flatMap txF) rfl (ownK_kept HO.out.own hC (fun _ _ => List.not_mem_nil)) ⟨g0, 0, none⟩ 1 1 (txF ((⟨n, mk, co, keysP (xs.map toPr)⟩ : Txp), .slice pa (keysP (xs.map toPr)).length pc)) rfl rfl hcl (by simp [txF, Value.oneCell']) (by decide) (by omega) (by have := HK.out.size; have := hC.size; omega) ?_
              intro g5 gc5 w5 hown5 hgr5 hwh5
              have hk5 := Kept.trans ((hC).mono (T := (Value.slice xa L.length xc).ownBlock.toList) (by simp)) (Kept.of_grown hgr5 _ (fun k hk => by simpa using hk)) (fun x hx => .inl hx)
              have hBO5 := (hk5.block wa.heap.size hBr (fun hx => by have := HBN.out wa.heap.size (by simpa using hx); omega)).trans HO.out.blk
              obtain ⟨_, y5, _, zz5⟩ := cell2 hBO5
              obtain ⟨ho6, hk6⟩ := HO.out.step (q := ((⟨n, mk, co, keysP (xs.map toPr)⟩ : Txp), .slice pa (keysP (xs.map toPr)).length pc)) hC hp4.2.1 (fun a m c hv hm => hp4.2.2 a m c hv hm) (Kept.refl [] w4) hown5 hgr5 hwh5
              have HO6 := hid ho6
              have HK6 := hid (HK.out.trans hk6 (fun x hx => by
                rcases List.mem_cons.1 hx with rfl | hx
                · exact .inl (by simp)
                · exact .inr (HBN.out x (by simpa using hx))))
              refine hKK _ _ ?_
              clear ho6 hk6 hk5 hBO5 hown5 hgr5 hwh5 y1 hp4 hcl HPA c0 c1 z0 z1 e0 e1 e2
              go_wp2
              go_roundw
              case rel => exact ⟨j + 1, by omega, by go_num, L ++ [((⟨n, mk, co, keysP (xs.map toPr)⟩ : Txp), Value.slice pa (keysP (xs.map toPr)).length pc)], Value.slice (some ⟨g5, 0, none⟩) (L.length + 1) gc5, HO6.out, by show _ = _; rw [HTK.out, List.map_append, HL.out]; rfl, HK6.out⟩
              case measure => simp [intOf]; omega
        · obtain rfl : j = ks.length := by omega
          have hltz2 : ¬ (ks.length : Int) < (ks.length : Int) := by omega
          have hsr := HK.out.size
          rw [List.take_length] at HL
          have HBR := hid ((HK.out.block w.heap.size (by omega) (by simp; omega)).trans HBC.out)
          obtain ⟨c0, c1, _, _⟩ := cell2 HO.out.blk
          obtain ⟨d0, d1, z0, z1⟩ := cell2 HBR.out
          obtain ⟨xa, xc, rfl⟩ := ownsRow_slice HO.out.own
          go_wp2
          have hE := set2 HBR.out (.slice ba pf.base.length bc) (.slice xa L.length xc)
          obtain ⟨g0, g1, _, _⟩ := cell2 hE
          have hKE : Kept [w.heap.size] wr ((wr.setCell ⟨w.heap.size, 0, none⟩ (.slice ba pf.base.length bc)).setCell ⟨w.heap.size, 1, none⟩ (.slice xa L.length xc)) := ((Kept.refl _ wr).setCell (.inl (by simp)) _).setCell (.inl (by simp)) _
          generalize (wr.setCell ⟨w.heap.size, 0, none⟩ (.slice ba pf.base.length bc)).setCell ⟨w.heap.size, 1, none⟩ (.slice xa L.length xc) = we at *
          refine bodyPost_ret (by simp [results, Tryz.results11, go_sem, g0, g1]; rfl) rfl ?_
          have hsm := small_cells HBR.out (by simp)
          have hb1 : PrF (w.heap.size + 1) wr (.slice ba pf.base.length bc) pf.base := HPC.out.base.kept_of HK.out (fun a n c hv hn hb => by
            simp only [List.mem_singleton] at hb
            have := HPS.out.base.lt a n c hv hn
            omega)
          refine ⟨_, _, rfl, ⟨?_, ⟨L, ?_, ?_, ?_, fun q hq => ⟨?_, fun a n c hv hn => ?_⟩⟩⟩, ?_⟩
          · rw [HST.out]
            exact (hb1.kept_of hKE (fun a n c hv hn hb => by
              simp only [List.mem_singleton] at hb
              exact hb1.far hsm a n c hv hn hb)).mono (by omega)
          · rw [HST.out, HL.out]
            show _ = (srtI (pf.works.map (·.1))).filterMap (txOf pf.works)
            rw [HKS.out]
          · exact SlAt.of_own (ownK_kept HO.out.own hKE (fun x hx hb => by
              simp only [List.mem_singleton] at hb
              have := (HO.out.own.lt x hx).1
              omega))
          · exact fun a n c hv hn => by
              have := own_from HO.out.own a n c hv hn
              omega
          · exact (HO.out.prs q hq).1.kept_of hKE (fun a n c hv hn hb => by
              simp only [List.mem_singleton] at hb
              exact (HO.out.prs q hq).1.far hsm a n c hv hn hb)
          · have := HO.out.frs q hq a n c hv hn
            omega
          · have h1 : Kept [] w wr := ((HKW.out.trans HKC.out (fun x hx => .inl hx))).trans HK.out (fun x hx => .inr (by simp at hx; omega))
            exact h1.trans hKE (fun x hx => .inr (by simp at hx; omega))
theorem replay_any (v : Value) (l : List Rc) (w : World) (h : SlAt w v 11 l.length (l.flatMap Rc.f)) (hl : l.length ≤ 10000) (hm : ∀ r ∈ l, r.mask ≤ 65535) :
    Calls Tryz.prog 11 #[v] w fun e w' => ∃ bv tv, e = .returned (.agg #[bv, tv]) ∧ StAt w' bv tv (replayP l) ∧ Kept [] w w' :=
  (replay_anyF v l w h hl hm).mono fun e w' ⟨bv, tv, h1, h2, h3⟩ => ⟨bv, tv, h1, h2.st, h3⟩
--@@ end
end Go.Proofs.YtpcpeoejcnndhaaGreat
