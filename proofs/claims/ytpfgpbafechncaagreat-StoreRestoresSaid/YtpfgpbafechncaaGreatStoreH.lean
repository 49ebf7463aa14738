/- A store: Do. -/
import Derived.Test.YtpfgpbafechncaaGreatM9
import Derived.Test.YtpfgpbafechncaaGreatM2
import Derived.Test.YtpfgpbafechncaaGreatM5
set_option linter.all false
namespace Go.Proofs.YtpfgpbafechncaaGreat
open Go.RowKit Go.Shelf Go.Lib Go.Sort Go.Proofs
theorem cell3 {w : World} {B : Nat} {t : TypeId} {x y z : Value} (hb : w.heap[B]? = some (.cells #[x, y, z] t (0, 0))) :
    w.cell? ⟨B, 0, none⟩ = some x ∧ w.cell? ⟨B, 1, none⟩ = some y ∧ w.cell? ⟨B, 2, none⟩ = some z ∧ w.frozen? ⟨B, 0, none⟩ = false ∧ w.frozen? ⟨B, 1, none⟩ = false ∧ w.frozen? ⟨B, 2, none⟩ = false := by
  refine ⟨?_, ?_, ?_, ?_, ?_, ?_⟩ <;> simp [World.cell?, World.frozen?, hb]
theorem set3 {w : World} {B : Nat} {t : TypeId} {fr : Nat × Nat} {x y z : Value} (hb : w.heap[B]? = some (.cells #[x, y, z] t fr)) (x' y' z' : Value) :
    (((w.setCell ⟨B, 0, none⟩ x').setCell ⟨B, 1, none⟩ y').setCell ⟨B, 2, none⟩ z').heap[B]? = some (.cells #[x', y', z'] t fr) := by
  simp [World.setCell, Array.getElem?_modify, hb]
theorem put_kn (s : Sp) (w : Sw) (k : K4) (v : V) (hn : (w.ws.map (·.1)).Nodup) : ((s.put w k v).2.map (·.1)).Nodup := by
  unfold Sp.put
  split
  · exact hn
  · unfold dPut
    split
    · exact hn
    · split
      · exact hn
      · exact tput_nodup _ _ _ hn
--@@ (*store.Store).Do
theorem do_turn {w w' : World} {D : Nat → Prop} {A M L : Nat} {bv : Value} {ws : List (Int × So)} {s : Sp} (H : StoIs w D A M L bv ws s) {tx : Int} {x : So} (hx : aget tx ws = some x) {ws2 : List (K4 × V)} (hd : DraftIs w' x.d x.m ws2) (hk : Kept [x.m] w w') (hn : (ws2.map (·.1)).Nodup) :
    StoIs w' D A M L bv (aput tx (⟨x.b, x.d, x.m, ⟨x.k.state, x.k.err, ws2⟩⟩ : So) ws) ⟨s.base, s.tab, aput tx ⟨x.k.state, x.k.err, ws2⟩ s.works⟩ := by
  have hW := H.each _ (tget_mem hx)
  have hnd := hW.nd
  simp only [So.bs, List.nodup_cons, List.mem_cons, List.not_mem_nil, or_false, not_or] at hnd
  refine H.turn hx (x' := ⟨x.b, x.d, x.m, ⟨x.k.state, x.k.err, ws2⟩⟩) rfl ⟨?_, hd, hn, hW.nd⟩ (hk.mono (by simp [So.bs]))
  exact (hk.block x.b (hW.lt _ (by simp [So.bs])) (by simp; exact hnd.1.2)).trans hW.blk
theorem do_kd {w w' : World} {D : Nat → Prop} {A M L : Nat} {bv : Value} {ws : List (Int × So)} {s : Sp} (H : StoIs w D A M L bv ws s) {tx : Int} {x : So} (hx : aget tx ws = some x) (hk : Kept [x.m] w w') : KD D w w' :=
  H.kdw (fun b hb => by rw [List.mem_singleton] at hb; subst hb; exact smem_bs (tget_mem hx) (by simp [So.bs])) hk
theorem reply_end {w W : World} {D D1 : Nat → Prop} {A M L rb : Nat} {bv : Value} {ws : List (Int × So)} {s' : Sp} {x y z : Value} (H : StoIs W D1 A M L bv ws s') (hr : D1 rb) (hD : ∀ b, D b → D1 b) (hn : ¬ D rb) (hk : KD D w W) (hb : W.heap[rb]? = some (.cells #[x, y, z] 46 (0, 0))) (x' y' z' : Value) :
    StoreAt (((W.setCell ⟨rb, 0, none⟩ x').setCell ⟨rb, 1, none⟩ y').setCell ⟨rb, 2, none⟩ z') D A s' ∧ KD D w (((W.setCell ⟨rb, 0, none⟩ x').setCell ⟨rb, 1, none⟩ y').setCell ⟨rb, 2, none⟩ z') := by
  have hk3 : Kept [rb] W (((W.setCell ⟨rb, 0, none⟩ x').setCell ⟨rb, 1, none⟩ y').setCell ⟨rb, 2, none⟩ z') := (((Kept.refl [rb] W).setCell (.inl (by simp)) _).setCell (.inl (by simp)) _).setCell (.inl (by simp)) _
  refine ⟨⟨M, L, bv, ws, (H.kept hk3 (by simp; exact hr)).less hD⟩, hk.trans (KD.of hk3 fun k hk' => ⟨H.dlt k (hD k hk'), ?_⟩) fun _ h => h⟩
  simp only [List.mem_singleton]
  rintro rfl
  exact hn hk'
set_option maxRecDepth 100000 in
set_option maxHeartbeats 8000000 in
theorem sdo_any {w : World} {D : Nat → Prop} {A : Nat} {s : Sp} {n : Nat} (h : StoreAt w D A s) (hl : s.tab.le n) (hn : n < 100000) (hw : ∀ x ∈ s.works, x.2.ws.length ≤ 1000) (hb : s.base.length ≤ 10000) (kind tx : Int) (k : K4) (m now : Int) :
    Calls Tryz.prog 17 #[.pointer (some ⟨A, 0, none⟩), .agg #[.int .i64 kind, .int .i64 tx, .int .u8 (k.a.toNat : Int), .int .u8 (k.b.toNat : Int), .int .u8 (k.c.toNat : Int), .int .u8 (k.d.toNat : Int), .int .i64 m], .int .i64 now] w fun e w' =>
      e = .returned (.agg #[.int .i64 (s.doOp kind tx k m now).1.1, .bool (s.doOp kind tx k m now).1.2.there, .int .i64 (s.doOp kind tx k m now).1.2.n]) ∧ StoreAt w' D A (s.doOp kind tx k m now).2 ∧ KD D w w' := by
  obtain ⟨M, L, bv, ws, H⟩ := h
  obtain ⟨R, hR⟩ : ∃ R, R = s.doOp kind tx k m now := ⟨_, rfl⟩
  rw [← hR]
  have HRR := hid hR
  obtain ⟨ka, kb, kc, kd⟩ := k
  dsimp only
  have hk1 : Kept [] w ((w.alloc (.cells #[.int .i64 kind, .int .i64 tx, .int .u8 (ka.toNat : Int), .int .u8 (kb.toNat : Int), .int .u8 (kc.toNat : Int), .int .u8 (kd.toNat : Int), .int .i64 m] 35)).alloc (.cells #[.int .i64 0, .bool false, .int .i64 0] 46)) := ((Kept.refl [] w).alloc _).alloc _
  have H1 := H.widen hk1 (fun x hx => by cases hx)
  have hsz : ((w.alloc (.cells #[.int .i64 kind, .int .i64 tx, .int .u8 (ka.toNat : Int), .int .u8 (kb.toNat : Int), .int .u8 (kc.toNat : Int), .int .u8 (kd.toNat : Int), .int .i64 m] 35)).alloc (.cells #[.int .i64 0, .bool false, .int .i64 0] 46)).heap.size = w.heap.size + 2 := by simp
  have hOB : ((w.alloc (.cells #[.int .i64 kind, .int .i64 tx, .int .u8 (ka.toNat : Int), .int .u8 (kb.toNat : Int), .int .u8 (kc.toNat : Int), .int .u8 (kd.toNat : Int), .int .i64 m] 35)).alloc (.cells #[.int .i64 0, .bool false, .int .i64 0] 46)).heap[w.heap.size]? = some (.cells #[.int .i64 kind, .int .i64 tx, .int .u8 (ka.toNat : Int), .int .u8 (kb.toNat : Int), .int .u8 (kc.toNat : Int), .int .u8 (kd.toNat : Int), .int .i64 m] 35 (0, 0)) := by
    rw [Below.heap_alloc _ _ _ (by simp)]; exact heap_alloc_new w _
  have hRB : ((w.alloc (.cells #[.int .i64 kind, .int .i64 tx, .int .u8 (ka.toNat : Int), .int .u8 (kb.toNat : Int), .int .u8 (kc.toNat : Int), .int .u8 (kd.toNat : Int), .int .i64 m] 35)).alloc (.cells #[.int .i64 0, .bool false, .int .i64 0] 46)).heap[w.heap.size + 1]? = some (.cells #[.int .i64 0, .bool false, .int .i64 0] 46 (0, 0)) := by
    have := heap_alloc_new (w.alloc (.cells #[.int .i64 kind, .int .i64 tx, .int .u8 (ka.toNat : Int), .int .u8 (kb.toNat : Int), .int .u8 (kc.toNat : Int), .int .u8 (kd.toNat : Int), .int .i64 m] 35)) (.cells #[.int .i64 0, .bool false, .int .i64 0] 46)
    simpa using this
  rw [hsz] at H1
  obtain ⟨D1, hD1⟩ : ∃ D1 : Nat → Prop, D1 = fun b => D b ∨ (w.heap.size ≤ b ∧ b < w.heap.size + 2) := ⟨_, rfl⟩
  rw [← hD1] at H1
  have hDD : ∀ b, D b → D1 b := fun b hb => by rw [hD1]; exact .inl hb
  have hO1 : D1 w.heap.size := by rw [hD1]; exact .inr ⟨by omega, by omega⟩
  have hR1 : D1 (w.heap.size + 1) := by rw [hD1]; exact .inr ⟨by omega, by omega⟩
  have hRD : ¬ D (w.heap.size + 1) := fun hd => by have := H.dlt _ hd; omega
  have HKD1 := hid (hk1.kd' H.dlt)
  have HD := hid hDD
  have HO1 := hid hO1
  have HR1 := hid hR1
  have HRD := hid hRD
  clear hD1 hDD hO1 hR1 hRD H hk1 hsz hR
  have HEND := hid (fun (W : World) (s' : Sp) (ws' : List (Int × So)) (H' : StoIs W D1 A M L bv ws' s') (hk : KD D w W) (hb : W.heap[w.heap.size + 1]? = some (.cells #[.int .i64 0, .bool false, .int .i64 0] 46 (0, 0))) (x' y' z' : Value) => reply_end H' HR1.out HD.out HRD.out hk hb x' y' z')
  go_enter Tryz.func17, Tryz.ntmps17
  go_wp2_with fail
  generalize (w.alloc (.cells #[.int .i64 kind, .int .i64 tx, .int .u8 (ka.toNat : Int), .int .u8 (kb.toNat : Int), .int .u8 (kc.toNat : Int), .int .u8 (kd.toNat : Int), .int .i64 m] 35)).alloc (.cells #[.int .i64 0, .bool false, .int .i64 0] 46) = w1 at *
  have HH := hid H1
  have HOB := hid (fun W (hK : KD D1 w1 W) => show W.cell? ⟨w.heap.size, 0, none⟩ = some (.int .i64 kind) ∧ W.cell? ⟨w.heap.size, 1, none⟩ = some (.int .i64 tx) ∧ W.cell? ⟨w.heap.size, 2, none⟩ = some (.int .u8 (ka.toNat : Int)) ∧ W.cell? ⟨w.heap.size, 3, none⟩ = some (.int .u8 (kb.toNat : Int)) ∧ W.cell? ⟨w.heap.size, 4, none⟩ = some (.int .u8 (kc.toNat : Int)) ∧ W.cell? ⟨w.heap.size, 5, none⟩ = some (.int .u8 (kd.toNat : Int)) ∧ W.cell? ⟨w.heap.size, 6, none⟩ = some (.int .i64 m) from by
    have hb := (hK.block _ HO1.out).trans hOB
    refine ⟨?_, ?_, ?_, ?_, ?_, ?_, ?_⟩ <;> simp [World.cell?, hb])
  have HRB := hid (fun W (hK : KD D1 w1 W) => (hK.block _ HR1.out).trans hRB)
  have HKD := hid (fun W (hK : Kept [] w1 W) => show KD D1 w1 W from hK.kd' HH.out.dlt)
  obtain ⟨c0, c1, c2⟩ := H1.cells
  clear hOB hRB H1 c0
  cases hx : aget tx s.works with
  | none =>
    obtain ⟨hL, hxa⟩ := HH.out.look_none hx
    have HLK := hid (fun W (hK : Kept [] w1 W) => ((HH.out.kept hK (fun x hx => by cases hx)).look_none hx).1)
    have hne : Sp.refused none kind ≠ 0 := by unfold Sp.refused; split <;> simp
    have HRF := hid (fun W => srefused_none kind W)
    obtain ⟨er, her⟩ : ∃ er, er = Sp.refused none kind := ⟨_, rfl⟩
    rw [← her] at hne HRF
    have hbe : (er != 0) = true := by simpa using hne
    have hRe : R = ((er, V.zero), s) := by
      rw [HRR.out, her]
      unfold Sp.doOp
      rw [hx]
      rw [if_pos (by unfold Sp.refused; split <;> simp)]
    subst hRe
    clear hL hxa hx HRR her hne
    -- [rows do1n]
    refine wp_region_rows (yieldDen [.eq (.pointer (some ⟨A, 0, none⟩)), .eq (.pointer (some ⟨A, 0, none⟩)), .eq (.pointer (some ⟨A, 2, none⟩)), .eq (.map (some M)), .eq (.pointer (some ⟨w.heap.size, 1, none⟩)), .eq (.int .i64 tx), .eq (.pointer none), .eq (.pointer none)]) (fun w' => Kept [] w1 w') (Kept []) (by kernel_rfl) (fun j v w w' h h' => yieldDen_kept _ j v w w' h h') (fun w => Kept.refl [] w) (by kernel_rfl) (by kernel_rfl) ((Kept.refl [] w1).drew) ?_ ?_
    · skip
      refine AllFrom.cons (k := 0) ?_ ?_
      · intro a w' hC hO hd
        rw [if_pos (wanted_none rfl)]
        have p0 : a.tmps[0]? = some (.pointer (some ⟨A, 0, none⟩)) := hO.at (by kernel_rfl) rfl
        clear hd hO
        refine pure_step (.pointer (some ⟨A, 0, none⟩)) rfl hC (Kept.refl _ _) ?_
        go_simp
      refine AllFrom.cons (k := 1) ?_ ?_
      · intro a w' hC hO hd
        obtain ⟨x12, e12, r12⟩ := hd ⟨0, .data⟩ (by simp) rfl _ _ rfl rfl
        obtain rfl : x12 = .pointer (some ⟨A, 0, none⟩) := r12
        rw [if_pos (wanted_none rfl)]
        clear hd hO
        refine pure_step (.pointer (some ⟨A, 0, none⟩)) rfl hC (Kept.refl _ _) ?_
        go_simp
      refine AllFrom.cons (k := 2) ?_ ?_
      · intro a w' hC hO hd
        obtain ⟨x13, e13, r13⟩ := hd ⟨1, .data⟩ (by simp) rfl _ _ rfl rfl
        obtain rfl : x13 = .pointer (some ⟨A, 0, none⟩) := r13
        rw [if_pos (wanted_none rfl)]
        clear hd hO
        refine pure_step (.pointer (some ⟨A, 2, none⟩)) rfl hC (Kept.refl _ _) ?_
        go_simp
      refine AllFrom.cons (k := 3) ?_ ?_
      · intro a w' hC hO hd
        obtain ⟨x14, e14, r14⟩ := hd ⟨2, .data⟩ (by simp) rfl _ _ rfl rfl
        obtain rfl : x14 = .pointer (some ⟨A, 2, none⟩) := r14
        rw [if_pos (wanted_none rfl)]
        have y1 := hC.cell c2 (by simp)
        clear hd hO
        refine pure_step (.map (some M)) rfl hC (Kept.refl _ _) ?_
        go_simp
      refine AllFrom.cons (k := 4) ?_ ?_
      · intro a w' hC hO hd
        rw [if_pos (wanted_none rfl)]
        have p4 : a.tmps[4]? = some (.pointer (some ⟨w.heap.size, 0, none⟩)) := hO.at (by kernel_rfl) rfl
        clear hd hO
        refine pure_step (.pointer (some ⟨w.heap.size, 1, none⟩)) rfl hC (Kept.refl _ _) ?_
        go_simp
      refine AllFrom.cons (k := 5) ?_ ?_
      · intro a w' hC hO hd
        obtain ⟨x16, e16, r16⟩ := hd ⟨4, .data⟩ (by simp) rfl _ _ rfl rfl
        obtain rfl : x16 = .pointer (some ⟨w.heap.size, 1, none⟩) := r16
        rw [if_pos (wanted_none rfl)]
        obtain ⟨q0, q1, _⟩ := HOB.out w' (HKD.out w' hC)
        clear hd hO
        refine pure_step (.int .i64 tx) rfl hC (Kept.refl _ _) ?_
        go_simp
      refine AllFrom.cons (k := 6) ?_ ?_
      · intro a w' hC hO hd
        obtain ⟨x15, e15, r15⟩ := hd ⟨3, .data⟩ (by simp) rfl _ _ rfl rfl
        obtain rfl : x15 = .map (some M) := r15
        obtain ⟨x17, e17, r17⟩ := hd ⟨5, .data⟩ (by simp) rfl _ _ rfl rfl
        obtain rfl : x17 = .int .i64 tx := r17
        rw [if_pos (wanted_none rfl)]
        clear hd hO
        have hl6 := HLK.out w' hC
        refine pure_step (.pointer none) rfl hC (Kept.refl _ _) ?_
        go_simp
      refine AllFrom.cons (k := 7) ?_ ?_
      · intro a w' hC hO hd
        obtain ⟨x18, e18, r18⟩ := hd ⟨6, .data⟩ (by simp) rfl _ _ rfl rfl
        obtain rfl : x18 = .pointer none := r18
        rw [if_pos (wanted_none rfl)]
        clear hd hO
        refine pure_step (.pointer none) rfl hC (Kept.refl _ _) ?_
        go_simp
      exact trivial
    · intro a' w4 hC hO hrows
      obtain ⟨xv, ev, rv⟩ := hrows 7 _ _ rfl rfl
      obtain rfl : xv = .pointer none := rv
      obtain ⟨us, hus, ha⟩ := hO.lit rfl [false, false, false, false, false, false, false, true, false, false, false, false, true, true, true, true, true, true, true, false, false, false, false, false, false, false, false, false, false, false, false, false, false, false, false, false, false, false, false, false, false, false, false, false, false, false, false, false, false, false, false, false, false, false, false, false, false, false, false, false, false, false, false, false, false, false, false, false, false, false, false, false, false, false, false, false, false, false, false, false] (by kernel_rfl)
      have uv := hus 7 _ rfl ev
      clear hrows hO hus ev
      subst ha
      simp only [merge, Nat.reduceAdd, uv, List.drop_succ_cons, List.drop_zero]
      clear uv
    -- [end rows]
      have HK4 := hid hC
      clear hC c1 c2
      obtain ⟨q0, q1, q2, q3, q4, q5, q6⟩ := HOB.out _ (HKD.out _ HK4.out)
      go_wp2_with (go_at_call 36; refine (HRF.out _).mono ?_; clear HRF; rintro e w5 ⟨rfl, hk5⟩; have HK5 := hid (HK4.out.trans hk5 (fun x hx => .inl hx)); have hrb := HRB.out _ (HKD.out _ HK5.out); obtain ⟨t0, t1, t2, f0, f1, f2⟩ := cell3 hrb; have HRB5 := hid hrb; clear hk5 hrb q0 q1 q2 q3 q4 q5 q6)
      have HE := hid (HEND.out w5 s ws (HH.out.kept HK5.out (fun x hx => by cases hx)) (HKD1.out.trans (HK5.out.kd' HH.out.dlt) HD.out) HRB5.out (.int .i64 er) (.bool false) (.int .i64 0))
      obtain ⟨g0, g1, g2, _⟩ := cell3 (set3 HRB5.out (.int .i64 er) (.bool false) (.int .i64 0))
      refine bodyPost_ret (by simp [results, Tryz.results17, go_sem, g0, g1, g2]; rfl) rfl ?_
      exact ⟨rfl, HE.out⟩
  | some kx =>
    obtain ⟨x, rfl, hxa, hW, hL⟩ := HH.out.look_some hx
    have HXA := hid hxa
    have HX := hid hx
    have HLK := hid (fun W (hK : Kept [] w1 W) => show (Instr.lookup 80 (.map (some M)) (.int .i64 tx) false).run Tryz.prog W = .ok (.pointer (some ⟨x.b, 0, none⟩)) W from by have := (HH.out.kept hK (fun x hx => by cases hx)).look tx false; rw [hxa] at this; exact this)
    have HRF := hid (fun W (hK : Kept [] w1 W) => srefused_some (hW.kept hK (by simp)) kind)
    obtain ⟨er, her⟩ : ∃ er, er = Sp.refused (some x.k) kind := ⟨_, rfl⟩
    have HER := hid her
    rw [← her] at HRF
    have HWL := hid hw
    clear hL hxa hx her hW hw
    -- [rows do1s]
    refine wp_region_rows (yieldDen [.eq (.pointer (some ⟨A, 0, none⟩)), .eq (.pointer (some ⟨A, 0, none⟩)), .eq (.pointer (some ⟨A, 2, none⟩)), .eq (.map (some M)), .eq (.pointer (some ⟨w.heap.size, 1, none⟩)), .eq (.int .i64 tx), .eq (.pointer (some ⟨x.b, 0, none⟩)), .eq (.pointer (some ⟨x.b, 0, none⟩))]) (fun w' => Kept [] w1 w') (Kept []) (by kernel_rfl) (fun j v w w' h h' => yieldDen_kept _ j v w w' h h') (fun w => Kept.refl [] w) (by kernel_rfl) (by kernel_rfl) ((Kept.refl [] w1).drew) ?_ ?_
    · skip
      refine AllFrom.cons (k := 0) ?_ ?_
      · intro a w' hC hO hd
        rw [if_pos (wanted_none rfl)]
        have p0 : a.tmps[0]? = some (.pointer (some ⟨A, 0, none⟩)) := hO.at (by kernel_rfl) rfl
        clear hd hO
        refine pure_step (.pointer (some ⟨A, 0, none⟩)) rfl hC (Kept.refl _ _) ?_
        go_simp
      refine AllFrom.cons (k := 1) ?_ ?_
      · intro a w' hC hO hd
        obtain ⟨x12, e12, r12⟩ := hd ⟨0, .data⟩ (by simp) rfl _ _ rfl rfl
        obtain rfl : x12 = .pointer (some ⟨A, 0, none⟩) := r12
        rw [if_pos (wanted_none rfl)]
        clear hd hO
        refine pure_step (.pointer (some ⟨A, 0, none⟩)) rfl hC (Kept.refl _ _) ?_
        go_simp
      refine AllFrom.cons (k := 2) ?_ ?_
      · intro a w' hC hO hd
        obtain ⟨x13, e13, r13⟩ := hd ⟨1, .data⟩ (by simp) rfl _ _ rfl rfl
        obtain rfl : x13 = .pointer (some ⟨A, 0, none⟩) := r13
        rw [if_pos (wanted_none rfl)]
        clear hd hO
        refine pure_step (.pointer (some ⟨A, 2, none⟩)) rfl hC (Kept.refl _ _) ?_
        go_simp
      refine AllFrom.cons (k := 3) ?_ ?_
      · intro a w' hC hO hd
        obtain ⟨x14, e14, r14⟩ := hd ⟨2, .data⟩ (by simp) rfl _ _ rfl rfl
        obtain rfl : x14 = .pointer (some ⟨A, 2, none⟩) := r14
        rw [if_pos (wanted_none rfl)]
        have y1 := hC.cell c2 (by simp)
        clear hd hO
        refine pure_step (.map (some M)) rfl hC (Kept.refl _ _) ?_
        go_simp
      refine AllFrom.cons (k := 4) ?_ ?_
      · intro a w' hC hO hd
        rw [if_pos (wanted_none rfl)]
        have p4 : a.tmps[4]? = some (.pointer (some ⟨w.heap.size, 0, none⟩)) := hO.at (by kernel_rfl) rfl
        clear hd hO
        refine pure_step (.pointer (some ⟨w.heap.size, 1, none⟩)) rfl hC (Kept.refl _ _) ?_
        go_simp
      refine AllFrom.cons (k := 5) ?_ ?_
      · intro a w' hC hO hd
        obtain ⟨x16, e16, r16⟩ := hd ⟨4, .data⟩ (by simp) rfl _ _ rfl rfl
        obtain rfl : x16 = .pointer (some ⟨w.heap.size, 1, none⟩) := r16
        rw [if_pos (wanted_none rfl)]
        obtain ⟨q0, q1, _⟩ := HOB.out w' (HKD.out w' hC)
        clear hd hO
        refine pure_step (.int .i64 tx) rfl hC (Kept.refl _ _) ?_
        go_simp
      refine AllFrom.cons (k := 6) ?_ ?_
      · intro a w' hC hO hd
        obtain ⟨x15, e15, r15⟩ := hd ⟨3, .data⟩ (by simp) rfl _ _ rfl rfl
        obtain rfl : x15 = .map (some M) := r15
        obtain ⟨x17, e17, r17⟩ := hd ⟨5, .data⟩ (by simp) rfl _ _ rfl rfl
        obtain rfl : x17 = .int .i64 tx := r17
        rw [if_pos (wanted_none rfl)]
        clear hd hO
        have hl6 := HLK.out w' hC
        refine pure_step (.pointer (some ⟨x.b, 0, none⟩)) rfl hC (Kept.refl _ _) ?_
        go_simp
      refine AllFrom.cons (k := 7) ?_ ?_
      · intro a w' hC hO hd
        obtain ⟨x18, e18, r18⟩ := hd ⟨6, .data⟩ (by simp) rfl _ _ rfl rfl
        obtain rfl : x18 = .pointer (some ⟨x.b, 0, none⟩) := r18
        rw [if_pos (wanted_none rfl)]
        clear hd hO
        refine pure_step (.pointer (some ⟨x.b, 0, none⟩)) rfl hC (Kept.refl _ _) ?_
        go_simp
      exact trivial
    · intro a' w4 hC hO hrows
      obtain ⟨xv, ev, rv⟩ := hrows 7 _ _ rfl rfl
      obtain rfl : xv = .pointer (some ⟨x.b, 0, none⟩) := rv
      obtain ⟨us, hus, ha⟩ := hO.lit rfl [false, false, false, false, false, false, false, true, false, false, false, false, true, true, true, true, true, true, true, false, false, false, false, false, false, false, false, false, false, false, false, false, false, false, false, false, false, false, false, false, false, false, false, false, false, false, false, false, false, false, false, false, false, false, false, false, false, false, false, false, false, false, false, false, false, false, false, false, false, false, false, false, false, false, false, false, false, false, false, false] (by kernel_rfl)
      have uv := hus 7 _ rfl ev
      clear hrows hO hus ev
      subst ha
      simp only [merge, Nat.reduceAdd, uv, List.drop_succ_cons, List.drop_zero]
      clear uv
    -- [end rows]
      have HK4 := hid hC
      have HC1 := hid (fun W (hK : Kept [] w1 W) => show W.cell? ⟨A, 1, none⟩ = some (.pointer (some ⟨L, 0, none⟩)) from hK.cell c1 (by simp))
      clear hC c1 c2
      obtain ⟨q0, q1, q2, q3, q4, q5, q6⟩ := HOB.out _ (HKD.out _ HK4.out)
      by_cases hne : er ≠ 0
      · have hbe : (er != 0) = true := by simpa using hne
        have hRe : R = ((er, V.zero), s) := by
          rw [HRR.out]
          unfold Sp.doOp
          rw [HX.out, ← HER.out, if_pos hne]
        subst hRe
        clear HRR HER hne
        go_wp2_with (go_at_call 36; refine (HRF.out _ HK4.out).mono ?_; clear HRF; rintro e w5 ⟨rfl, hk5⟩; have HK5 := hid (HK4.out.trans hk5 (fun x hx => .inl hx)); have hrb := HRB.out _ (HKD.out _ HK5.out); obtain ⟨t0, t1, t2, f0, f1, f2⟩ := cell3 hrb; have HRB5 := hid hrb; clear hk5 hrb q0 q1 q2 q3 q4 q5 q6)
        have HE := hid (HEND.out w5 s ws (HH.out.kept HK5.out (fun x hx => by cases hx)) (HKD1.out.trans (HK5.out.kd' HH.out.dlt) HD.out) HRB5.out (.int .i64 er) (.bool false) (.int .i64 0))
        obtain ⟨g0, g1, g2, _⟩ := cell3 (set3 HRB5.out (.int .i64 er) (.bool false) (.int .i64 0))
        refine bodyPost_ret (by simp [results, Tryz.results17, go_sem, g0, g1, g2]; rfl) rfl ?_
        exact ⟨rfl, HE.out⟩
      obtain rfl : er = 0 := by simpa using hne
      obtain ⟨hkl, hkh, _, hz1, hs3, he0⟩ := refused_zero HER.out.symm
      cases hz1
      by_cases hk4 : kind = 4
      · have hb4 : (kind == 4) = true := by simpa using hk4
        have hRe : R = ((0, V.zero), (s.doom tx 19).2) := by
          rw [HRR.out]
          unfold Sp.doOp
          rw [HX.out, ← HER.out, if_neg (by simp), if_pos hk4]
        subst hRe
        have HDM := hid (fun W (hK : Kept [] w1 W) => sdoom_any (w := W) ⟨M, L, bv, ws, HH.out.kept hK (fun x hx => by cases hx)⟩ hl (by omega) tx 19)
        clear HRR HER hne hk4 hkl hkh hs3 he0 hl
        go_wp2_with first
          | (go_at_call 36; refine (HRF.out _ HK4.out).mono ?_; clear HRF; rintro e w5 ⟨rfl, hk5⟩; have HK5 := hid (HK4.out.trans hk5 (fun x hx => .inl hx)); obtain ⟨q0, q1, q2, q3, q4, q5, q6⟩ := HOB.out _ (HKD.out _ HK5.out); clear hk5)
          | (go_at_call 29; refine (HDM.out _ HK5.out).mono ?_; clear HDM; rintro e w6 ⟨rfl, hS6, hk6⟩; have HK6 := hid ((HKD.out _ HK5.out).trans hk6 (fun _ h => h)); have HS6 := hid hS6; have hrb := HRB.out _ HK6.out; obtain ⟨t0, t1, t2, f0, f1, f2⟩ := cell3 hrb; have HRB5 := hid hrb; clear hk6 hS6 hrb)
        obtain ⟨M6, L6, bv6, ws6, H6⟩ := HS6.out
        have HE := hid (reply_end H6 HR1.out HD.out HRD.out (HKD1.out.trans HK6.out HD.out) HRB5.out (.int .i64 0) (.bool false) (.int .i64 0))
        obtain ⟨g0, g1, g2, _⟩ := cell3 (set3 HRB5.out (.int .i64 0) (.bool false) (.int .i64 0))
        refine bodyPost_ret (by simp [results, Tryz.results17, go_sem, g0, g1, g2]; rfl) rfl ?_
        exact ⟨rfl, HE.out⟩
      have hb4 : (kind == 4) = false := by simpa using hk4
      obtain ⟨ex, hex⟩ : ∃ ex, ex = decide (kind ≠ 1) := ⟨_, rfl⟩
      have hbx : (kind != 1) = ex := by rw [hex]; by_cases h : kind = 1 <;> simp [h]
      have HASK := hid (fun W (hK : Kept [] w1 W) => ask_at ((HH.out.kept hK (fun x hx => by cases hx)).tab) hl (by omega) tx ⟨ka, kb, kc, kd⟩ ex now)
      have hle := hl.ask (tx := tx) (k := ⟨ka, kb, kc, kd⟩) ex now
      obtain ⟨q, hq⟩ : ∃ q, q = s.tab.ask tx ⟨ka, kb, kc, kd⟩ ex now := ⟨_, rfl⟩
      rw [← hq] at HASK hle
      have hRe : R = (if q.1 ≠ 0 then ((q.1, V.zero), { s with tab := q.2 }) else if kind = 1 then ((0, s.get x.k ⟨ka, kb, kc, kd⟩), { s with tab := q.2 })
          else (((s.put x.k ⟨ka, kb, kc, kd⟩ (Sp.valOf kind m)).1, V.zero), (Sp.doom { s with tab := q.2, works := aput tx ⟨x.k.state, x.k.err, (s.put x.k ⟨ka, kb, kc, kd⟩ (Sp.valOf kind m)).2⟩ s.works } tx (s.put x.k ⟨ka, kb, kc, kd⟩ (Sp.valOf kind m)).1).2)) := by
        rw [HRR.out]
        unfold Sp.doOp
        rw [HX.out, ← HER.out, if_neg (by simp), if_neg hk4]
        dsimp only
        rw [← hex, ← hq]
      have HRE := hid hRe
      obtain ⟨ae, t'⟩ := q
      dsimp only at HASK hle HRE
      have HLE := hid hle
      clear HRR HER hne hk4 hl hq hle hRe hs3 he0 hex
      simp only [K4.v] at HASK
      go_wp2_with (go_at_call 36; refine (HRF.out _ HK4.out).mono ?_; clear HRF; rintro e w5 ⟨rfl, hk5⟩; have HK5 := hid (HK4.out.trans hk5 (fun x hx => .inl hx)); clear q0 q1 q2 q3 q4 q5 q6; obtain ⟨q0, q1, q2, q3, q4, q5, q6⟩ := HOB.out _ (HKD.out _ HK5.out); clear hk5)
      clear q0 q1 q2 q3 q4 q5 q6
      -- [rows do8]
      refine wp_region_rows_tail 12 (yieldDen [.eq (.pointer (some ⟨A, 0, none⟩)), .eq (.pointer (some ⟨A, 0, none⟩)), .eq (.pointer (some ⟨A, 1, none⟩)), .eq (.pointer (some ⟨L, 0, none⟩)), .eq (.pointer (some ⟨w.heap.size, 1, none⟩)), .eq (.int .i64 tx), .eq (.pointer (some ⟨w.heap.size, 2, none⟩)), .eq (.agg #[.int .u8 (ka.toNat : Int), .int .u8 (kb.toNat : Int), .int .u8 (kc.toNat : Int), .int .u8 (kd.toNat : Int)]), .eq (.pointer (some ⟨w.heap.size, 0, none⟩)), .eq (.int .i64 kind), .eq (.bool ex), .eq (.int .i64 now)]) (fun w' => Kept [] w5 w') (Kept []) (by kernel_rfl) (fun j v w w' h h' => yieldDen_kept _ j v w w' h h') (fun w => Kept.refl [] w) (by kernel_rfl) (by kernel_rfl) (by kernel_rfl) (by kernel_rfl) (by kernel_rfl) (by kernel_rfl) ((Kept.refl [] w5).drew) ?_ ?_
      · skip
        refine AllUpto.cons (n := 11) (k := 0) ?_ ?_
        · intro a w' hC hO hd
          rw [if_pos (wanted_none rfl)]
          have p0 : a.tmps[0]? = some (.pointer (some ⟨A, 0, none⟩)) := hO.at (by kernel_rfl) rfl
          clear hd hO
          refine pure_step (.pointer (some ⟨A, 0, none⟩)) rfl hC (Kept.refl _ _) ?_
          go_simp
        refine AllUpto.cons (n := 10) (k := 1) ?_ ?_
        · intro a w' hC hO hd
          obtain ⟨x35, e35, r35⟩ := hd ⟨0, .data⟩ (by simp) rfl _ _ rfl rfl
          obtain rfl : x35 = .pointer (some ⟨A, 0, none⟩) := r35
          rw [if_pos (wanted_none rfl)]
          clear hd hO
          refine pure_step (.pointer (some ⟨A, 0, none⟩)) rfl hC (Kept.refl _ _) ?_
          go_simp
        refine AllUpto.cons (n := 9) (k := 2) ?_ ?_
        · intro a w' hC hO hd
          obtain ⟨x36, e36, r36⟩ := hd ⟨1, .data⟩ (by simp) rfl _ _ rfl rfl
          obtain rfl : x36 = .pointer (some ⟨A, 0, none⟩) := r36
          rw [if_pos (wanted_none rfl)]
          clear hd hO
          refine pure_step (.pointer (some ⟨A, 1, none⟩)) rfl hC (Kept.refl _ _) ?_
          go_simp
        refine AllUpto.cons (n := 8) (k := 3) ?_ ?_
        · intro a w' hC hO hd
          obtain ⟨x37, e37, r37⟩ := hd ⟨2, .data⟩ (by simp) rfl _ _ rfl rfl
          obtain rfl : x37 = .pointer (some ⟨A, 1, none⟩) := r37
          rw [if_pos (wanted_none rfl)]
          have y1 := HC1.out w' (HK5.out.trans hC (fun x hx => .inl hx))
          clear hd hO
          refine pure_step (.pointer (some ⟨L, 0, none⟩)) rfl hC (Kept.refl _ _) ?_
          go_simp
        refine AllUpto.cons (n := 7) (k := 4) ?_ ?_
        · intro a w' hC hO hd
          rw [if_pos (wanted_none rfl)]
          have p4 : a.tmps[4]? = some (.pointer (some ⟨w.heap.size, 0, none⟩)) := hO.at (by kernel_rfl) rfl
          clear hd hO
          refine pure_step (.pointer (some ⟨w.heap.size, 1, none⟩)) rfl hC (Kept.refl _ _) ?_
          go_simp
        refine AllUpto.cons (n := 6) (k := 5) ?_ ?_
        · intro a w' hC hO hd
          obtain ⟨x39, e39, r39⟩ := hd ⟨4, .data⟩ (by simp) rfl _ _ rfl rfl
          obtain rfl : x39 = .pointer (some ⟨w.heap.size, 1, none⟩) := r39
          rw [if_pos (wanted_none rfl)]
          obtain ⟨q0, q1, q2, q3, q4, q5, q6⟩ := HOB.out w' (HKD.out w' (HK5.out.trans hC (fun x hx => .inl hx)))
          clear hd hO
          refine pure_step (.int .i64 tx) rfl hC (Kept.refl _ _) ?_
          go_simp
        refine AllUpto.cons (n := 5) (k := 6) ?_ ?_
        · intro a w' hC hO hd
          rw [if_pos (wanted_none rfl)]
          have p4 : a.tmps[4]? = some (.pointer (some ⟨w.heap.size, 0, none⟩)) := hO.at (by kernel_rfl) rfl
          clear hd hO
          refine pure_step (.pointer (some ⟨w.heap.size, 2, none⟩)) rfl hC (Kept.refl _ _) ?_
          go_simp
        refine AllUpto.cons (n := 4) (k := 7) ?_ ?_
        · intro a w' hC hO hd
          obtain ⟨x41, e41, r41⟩ := hd ⟨6, .data⟩ (by simp) rfl _ _ rfl rfl
          obtain rfl : x41 = .pointer (some ⟨w.heap.size, 2, none⟩) := r41
          rw [if_pos (wanted_none rfl)]
          obtain ⟨q0, q1, q2, q3, q4, q5, q6⟩ := HOB.out w' (HKD.out w' (HK5.out.trans hC (fun x hx => .inl hx)))
          clear hd hO
          refine pure_step (.agg #[.int .u8 (ka.toNat : Int), .int .u8 (kb.toNat : Int), .int .u8 (kc.toNat : Int), .int .u8 (kd.toNat : Int)]) rfl hC (Kept.refl _ _) ?_
          go_simp
        refine AllUpto.cons (n := 3) (k := 8) ?_ ?_
        · intro a w' hC hO hd
          rw [if_pos (wanted_none rfl)]
          have p4 : a.tmps[4]? = some (.pointer (some ⟨w.heap.size, 0, none⟩)) := hO.at (by kernel_rfl) rfl
          clear hd hO
          refine pure_step (.pointer (some ⟨w.heap.size, 0, none⟩)) rfl hC (Kept.refl _ _) ?_
          go_simp
        refine AllUpto.cons (n := 2) (k := 9) ?_ ?_
        · intro a w' hC hO hd
          obtain ⟨x43, e43, r43⟩ := hd ⟨8, .data⟩ (by simp) rfl _ _ rfl rfl
          obtain rfl : x43 = .pointer (some ⟨w.heap.size, 0, none⟩) := r43
          rw [if_pos (wanted_none rfl)]
          obtain ⟨q0, q1, q2, q3, q4, q5, q6⟩ := HOB.out w' (HKD.out w' (HK5.out.trans hC (fun x hx => .inl hx)))
          clear hd hO
          refine pure_step (.int .i64 kind) rfl hC (Kept.refl _ _) ?_
          go_simp
        refine AllUpto.cons (n := 1) (k := 10) ?_ ?_
        · intro a w' hC hO hd
          obtain ⟨x44, e44, r44⟩ := hd ⟨9, .data⟩ (by simp) rfl _ _ rfl rfl
          obtain rfl : x44 = .int .i64 kind := r44
          rw [if_pos (wanted_none rfl)]
          clear hd hO
          refine pure_step (.bool ex) rfl hC (Kept.refl _ _) ?_
          go_simp
        refine AllUpto.cons (n := 0) (k := 11) ?_ ?_
        · intro a w' hC hO hd
          rw [if_pos (wanted_none rfl)]
          have p2 : a.tmps[2]? = some (.int .i64 now) := hO.at (by kernel_rfl) rfl
          clear hd hO
          refine pure_step (.int .i64 now) rfl hC (Kept.refl _ _) ?_
          go_simp
        exact AllUpto.nil
      · intro a' w4 hC hO hrows
        obtain ⟨xl, el, rl⟩ := hrows 3 (by decide) _ _ rfl rfl
        obtain rfl : xl = .pointer (some ⟨L, 0, none⟩) := rl
        obtain ⟨xt, et, rt⟩ := hrows 5 (by decide) _ _ rfl rfl
        obtain rfl : xt = .int .i64 tx := rt
        obtain ⟨xk, ek, rk⟩ := hrows 7 (by decide) _ _ rfl rfl
        obtain rfl : xk = .agg #[.int .u8 (ka.toNat : Int), .int .u8 (kb.toNat : Int), .int .u8 (kc.toNat : Int), .int .u8 (kd.toNat : Int)] := rk
        obtain ⟨xb, eb, rb⟩ := hrows 10 (by decide) _ _ rfl rfl
        obtain rfl : xb = .bool ex := rb
        obtain ⟨xn, en, rn⟩ := hrows 11 (by decide) _ _ rfl rfl
        obtain rfl : xn = .int .i64 now := rn
        obtain ⟨us, hus, ha⟩ := hO.lit rfl [false, false, false, false, false, false, false, false, false, true, false, false, false, false, false, false, false, false, false, false, false, false, false, false, false, false, false, false, false, false, false, false, false, false, false, true, true, true, true, true, true, true, true, true, true, true, true, true, false, false, false, false, false, false, false, false, false, false, false, false, false, false, false, false, false, false, false, false, false, false, false, false, false, false, false, false, false, false, false, false] (by kernel_rfl)
        have ul := hus 38 _ rfl el
        have ut := hus 40 _ rfl et
        have uk := hus 42 _ rfl ek
        have ub := hus 45 _ rfl eb
        have un := hus 46 _ rfl en
        clear hrows hO hus el et ek eb en
        subst ha
        simp only [merge, Nat.reduceAdd, ul, ut, uk, ub, un, List.drop_succ_cons, List.drop_zero]
        clear ul ut uk ub un
        have HK6 := hid (HK5.out.trans hC (fun x hx => .inl hx))
        clear hC
      -- [end rows]
        by_cases hae : ae ≠ 0
        · have hba : (ae != 0) = true := by simpa using hae
          have hRe := HRE.out
          rw [if_pos hae] at hRe
          subst hRe
          clear HRE hae
          go_wp2_with (go_at_call 37; refine (HASK.out _ HK6.out).mono ?_; clear HASK; rintro e w7 ⟨rfl, hT7, hk7⟩; have HS7 := hid ((HH.out.kept HK6.out (fun x hx => by cases hx)).turnTab hT7 hk7); have HK7 := hid ((HKD.out _ HK6.out).trans hk7 (fun _ h => .inl h)); clear hT7 hk7; have hrb := HRB.out _ HK7.out; obtain ⟨t0, t1, t2, f0, f1, f2⟩ := cell3 hrb; have HRB5 := hid hrb; clear hrb)
          have HE := hid (HEND.out w7 _ ws HS7.out (HKD1.out.trans HK7.out HD.out) HRB5.out (.int .i64 ae) (.bool false) (.int .i64 0))
          obtain ⟨g0, g1, g2, _⟩ := cell3 (set3 HRB5.out (.int .i64 ae) (.bool false) (.int .i64 0))
          refine bodyPost_ret (by simp [results, Tryz.results17, go_sem, g0, g1, g2]; rfl) rfl ?_
          exact ⟨rfl, HE.out⟩
        obtain rfl : ae = 0 := by simpa using hae
        have hRe := HRE.out
        rw [if_neg (by simp)] at hRe
        clear HRE hae HC1 HK4 HK5
        by_cases hk1 : kind = 1
        · have hb1 : (kind == 1) = true := by simpa using hk1
          rw [if_pos hk1] at hRe
          obtain ⟨v, hv⟩ : ∃ v, v = s.get x.k ⟨ka, kb, kc, kd⟩ := ⟨_, rfl⟩
          have HV := hid hv
          rw [← hv] at hRe
          obtain ⟨vt, vn⟩ := v
          subst hRe
          clear hv hk1
          go_wp2_with first
            | (go_at_call 37; refine (HASK.out _ HK6.out).mono ?_; clear HASK; rintro e w7 ⟨rfl, hT7, hk7⟩; have HS7 := hid ((HH.out.kept HK6.out (fun x hx => by cases hx)).turnTab hT7 hk7); have HK7 := hid ((HKD.out _ HK6.out).trans hk7 (fun _ h => .inl h)); clear hT7 hk7; obtain ⟨q0, q1, q2, q3, q4, q5, q6⟩ := HOB.out (w7.alloc (.cells #[.bool false, .int .i64 0] 44)) (HK7.out.trans (((Kept.refl [] w7).alloc (.cells #[.bool false, .int .i64 0] 44)).kd' HS7.out.dlt) (fun _ h => h)))
            | (go_at_call 38; refine Here.mk ?_)
          refine Here.of ?_
          have hKV : Kept [] w7 (w7.alloc (.cells #[.bool false, .int .i64 0] 44)) := (Kept.refl [] w7).alloc _
          have H8 := HS7.out.kept hKV (fun x hx => by cases hx)
          have HK8 := hid (HK7.out.trans (hKV.kd' HS7.out.dlt) (fun _ h => h))
          refine (sget_any H8 (H8.each _ (tget_mem HXA.out)) ⟨ka, kb, kc, kd⟩).mono ?_
          rintro e w9 ⟨rfl, hk9⟩
          have hve : Sp.get ⟨s.base, t', s.works⟩ x.k ⟨ka, kb, kc, kd⟩ = ⟨vt, vn⟩ := HV.out.symm
          rw [hve]
          have HS9 := hid (H8.kept hk9 (fun x hx => by cases hx))
          have HK9 := hid (HK8.out.trans (hk9.kd' H8.dlt) (fun _ h => h))
          have hrb := HRB.out _ HK9.out
          obtain ⟨t0, t1, t2, f0, f1, f2⟩ := cell3 hrb
          have HRB5 := hid hrb
          clear hrb hKV H8 hk9 hve q0 q1 q2 q3 q4 q5 q6
          simp only [V.v]
          go_wp2
          have HE := hid (HEND.out w9 _ ws HS9.out (HKD1.out.trans HK9.out HD.out) HRB5.out (.int .i64 0) (.bool vt) (.int .i64 vn))
          obtain ⟨g0, g1, g2, _⟩ := cell3 (set3 HRB5.out (.int .i64 0) (.bool vt) (.int .i64 vn))
          refine bodyPost_ret (by simp [results, Tryz.results17, go_sem, g0, g1, g2]; rfl) rfl ?_
          exact ⟨rfl, HE.out⟩
        have hb1 : (kind == 1) = false := by simpa using hk1
        rw [if_neg hk1] at hRe
        by_cases hk2 : kind = 2
        · have hb2 : (kind == 2) = true := by simpa using hk2
          have hvo : Sp.valOf kind m = ⟨true, m⟩ := by unfold Sp.valOf; rw [if_pos hk2]
          rw [hvo] at hRe
          clear hvo hk2 hk1
          go_wp2_with first
            | (go_at_call 37; refine (HASK.out _ HK6.out).mono ?_; clear HASK; rintro e w7 ⟨rfl, hT7, hk7⟩; have HS7 := hid ((HH.out.kept HK6.out (fun x hx => by cases hx)).turnTab hT7 hk7); have HK7 := hid ((HKD.out _ HK6.out).trans hk7 (fun _ h => .inl h)); clear hT7 hk7; obtain ⟨v0, v1, z0, z1⟩ := cell2 (heap_alloc_new w7 (.cells #[.bool false, .int .i64 0] 44)); obtain ⟨v2, v3, _, _⟩ := cell2 (heap_alloc_new w7 (.cells #[.bool true, .int .i64 m] 44)); have hKV : Kept [] w7 (w7.alloc (.cells #[.bool true, .int .i64 m] 44)) := ((Kept.refl [] w7).alloc _); have H9 := HS7.out.widen hKV (fun x hx => by cases hx); have hk9 : KD D1 w1 (w7.alloc (.cells #[.bool true, .int .i64 m] 44)) := HK7.out.trans (hKV.kd' HS7.out.dlt) (fun _ h => h); have HS9 := hid H9; have HK9 := hid hk9; obtain ⟨q0, q1, q2, q3, q4, q5, q6⟩ := HOB.out (w7.alloc (.cells #[.bool false, .int .i64 0] 44)) (HK7.out.trans (((Kept.refl [] w7).alloc _).kd' HS7.out.dlt) (fun _ h => h)); obtain ⟨p0, p1, p2, p3, p4, p5, p6⟩ := HOB.out _ HK9.out; clear hKV H9 hk9)
            | (go_at_call 39; refine Here.mk ?_)
          refine Here.of ?_
          have HW9 := hid (HS9.out.each _ (tget_mem HXA.out))
          refine (sput_any HS9.out HWL.out hb HW9.out ⟨ka, kb, kc, kd⟩ ⟨true, m⟩).mono ?_
          rintro e w10 ⟨rfl, hd10, hk10⟩
          have hpe : Sp.put ⟨s.base, t', s.works⟩ x.k ⟨ka, kb, kc, kd⟩ ⟨true, m⟩ = s.put x.k ⟨ka, kb, kc, kd⟩ ⟨true, m⟩ := rfl
          have hkn := put_kn s x.k ⟨ka, kb, kc, kd⟩ ⟨true, m⟩ HW9.out.kn
          simp only at hd10 hk10
          rw [hpe] at hd10 ⊢
          obtain ⟨pr, hpr⟩ : ∃ pr, pr = s.put x.k ⟨ka, kb, kc, kd⟩ ⟨true, m⟩ := ⟨_, rfl⟩
          rw [← hpr] at hd10 hRe hkn ⊢
          obtain ⟨pe, ws2⟩ := pr
          dsimp only at hd10 hRe hkn ⊢
          have H10 := do_turn HS9.out HXA.out hd10 hk10 hkn
          have hK10 : KD D1 w1 w10 := HK9.out.trans (do_kd HS9.out HXA.out hk10) (fun _ h => .inl h)
          have HS10 := hid H10
          have HK10 := hid hK10
          have HDM := hid (sdoom_any (w := w10) ⟨M, L, bv, _, H10⟩ HLE.out (by omega) tx pe)
          obtain ⟨r0, r1, r2, r3, r4, r5, r6⟩ := HOB.out _ HK10.out
          subst hRe
          clear hd10 hk10 hkn hpr hpe H10 hK10
          go_wp2_with (go_at_call 29; refine HDM.out.mono ?_; clear HDM; rintro e w11 ⟨rfl, hS11, hk11⟩; have HS11 := hid hS11; have HK11 := hid (HK10.out.trans hk11 (fun _ h => .inl h)); have hrb := HRB.out _ HK11.out; obtain ⟨t0, t1, t2, f0, f1, f2⟩ := cell3 hrb; have HRB5 := hid hrb; clear hS11 hk11 hrb)
          obtain ⟨M6, L6, bv6, ws6, H6⟩ := HS11.out
          have HE := hid (reply_end H6 (.inl HR1.out) (fun b hb => .inl (HD.out b hb)) HRD.out (HKD1.out.trans HK11.out HD.out) HRB5.out (.int .i64 pe) (.bool false) (.int .i64 0))
          obtain ⟨g0, g1, g2, _⟩ := cell3 (set3 HRB5.out (.int .i64 pe) (.bool false) (.int .i64 0))
          refine bodyPost_ret (by simp [results, Tryz.results17, go_sem, g0, g1, g2]; rfl) rfl ?_
          exact ⟨rfl, HE.out⟩
        · have hb2 : (kind == 2) = false := by simpa using hk2
          have hvo : Sp.valOf kind m = ⟨false, 0⟩ := by unfold Sp.valOf; rw [if_neg hk2]; rfl
          rw [hvo] at hRe
          clear hvo hk2 hk1
          go_wp2_with first
            | (go_at_call 37; refine (HASK.out _ HK6.out).mono ?_; clear HASK; rintro e w7 ⟨rfl, hT7, hk7⟩; have HS7 := hid ((HH.out.kept HK6.out (fun x hx => by cases hx)).turnTab hT7 hk7); have HK7 := hid ((HKD.out _ HK6.out).trans hk7 (fun _ h => .inl h)); clear hT7 hk7; obtain ⟨v0, v1, z0, z1⟩ := cell2 (heap_alloc_new w7 (.cells #[.bool false, .int .i64 0] 44)); have hKV : Kept [] w7 (w7.alloc (.cells #[.bool false, .int .i64 0] 44)) := ((Kept.refl [] w7).alloc _); have H9 := HS7.out.widen hKV (fun x hx => by cases hx); have hk9 : KD D1 w1 (w7.alloc (.cells #[.bool false, .int .i64 0] 44)) := HK7.out.trans (hKV.kd' HS7.out.dlt) (fun _ h => h); have HS9 := hid H9; have HK9 := hid hk9; obtain ⟨q0, q1, q2, q3, q4, q5, q6⟩ := HOB.out (w7.alloc (.cells #[.bool false, .int .i64 0] 44)) (HK7.out.trans (((Kept.refl [] w7).alloc _).kd' HS7.out.dlt) (fun _ h => h)); clear hKV H9 hk9)
            | (go_at_call 39; refine Here.mk ?_)
          refine Here.of ?_
          have HW9 := hid (HS9.out.each _ (tget_mem HXA.out))
          refine (sput_any HS9.out HWL.out hb HW9.out ⟨ka, kb, kc, kd⟩ ⟨false, 0⟩).mono ?_
          rintro e w10 ⟨rfl, hd10, hk10⟩
          have hpe : Sp.put ⟨s.base, t', s.works⟩ x.k ⟨ka, kb, kc, kd⟩ ⟨false, 0⟩ = s.put x.k ⟨ka, kb, kc, kd⟩ ⟨false, 0⟩ := rfl
          have hkn := put_kn s x.k ⟨ka, kb, kc, kd⟩ ⟨false, 0⟩ HW9.out.kn
          simp only at hd10 hk10
          rw [hpe] at hd10 ⊢
          obtain ⟨pr, hpr⟩ : ∃ pr, pr = s.put x.k ⟨ka, kb, kc, kd⟩ ⟨false, 0⟩ := ⟨_, rfl⟩
          rw [← hpr] at hd10 hRe hkn ⊢
          obtain ⟨pe, ws2⟩ := pr
          dsimp only at hd10 hRe hkn ⊢
          have H10 := do_turn HS9.out HXA.out hd10 hk10 hkn
          have hK10 : KD D1 w1 w10 := HK9.out.trans (do_kd HS9.out HXA.out hk10) (fun _ h => .inl h)
          have HS10 := hid H10
          have HK10 := hid hK10
          have HDM := hid (sdoom_any (w := w10) ⟨M, L, bv, _, H10⟩ HLE.out (by omega) tx pe)
          obtain ⟨r0, r1, r2, r3, r4, r5, r6⟩ := HOB.out _ HK10.out
          subst hRe
          clear hd10 hk10 hkn hpr hpe H10 hK10
          go_wp2_with (go_at_call 29; refine HDM.out.mono ?_; clear HDM; rintro e w11 ⟨rfl, hS11, hk11⟩; have HS11 := hid hS11; have HK11 := hid (HK10.out.trans hk11 (fun _ h => .inl h)); have hrb := HRB.out _ HK11.out; obtain ⟨t0, t1, t2, f0, f1, f2⟩ := cell3 hrb; have HRB5 := hid hrb; clear hS11 hk11 hrb)
          obtain ⟨M6, L6, bv6, ws6, H6⟩ := HS11.out
          have HE := hid (reply_end H6 (.inl HR1.out) (fun b hb => .inl (HD.out b hb)) HRD.out (HKD1.out.trans HK11.out HD.out) HRB5.out (.int .i64 pe) (.bool false) (.int .i64 0))
          obtain ⟨g0, g1, g2, _⟩ := cell3 (set3 HRB5.out (.int .i64 pe) (.bool false) (.int .i64 0))
          refine bodyPost_ret (by simp [results, Tryz.results17, go_sem, g0, g1, g2]; rfl) rfl ?_
          exact ⟨rfl, HE.out⟩
--@@ end
end Go.Proofs.YtpfgpbafechncaaGreat
