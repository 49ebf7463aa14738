/- A row of a store's calls that comes in, as data. -/
import Derived.Test.YtpfgpbafechncaaGreatOpenW
import Derived.Test.YtpfgpbafechncaaGreatM2
import Derived.Test.YtpfgpbafechncaaGreatM5
import Derived.Test.YtpfgpbafechncaaGreatM10
import Derived.Test.YtpfgpbafechncaaGreatM9
set_option linter.all false
namespace Go.Proofs.YtpfgpbafechncaaGreat
open Go.RowKit Go.ChangeShapes Go.WideShapes
def csF (q : Cs × Value) : List Value := [.int .i64 q.1.what, .int .i64 q.1.tx, .int .i64 q.1.now, .int .i64 q.1.kind, .int .i64 q.1.otx, .int .u8 (q.1.key.a.toNat : Int), .int .u8 (q.1.key.b.toNat : Int), .int .u8 (q.1.key.c.toNat : Int), .int .u8 (q.1.key.d.toNat : Int), .int .i64 q.1.n, .int .i64 q.1.err, .int .u16 (q.1.mask : Int), .bool q.1.commit, q.2]
structure CsOk (W : World) (q : Cs × Value) : Prop where
  row : SlAt W q.2 6 q.1.pairs.length (q.1.pairs.flatMap Pr.f)
  mask : q.1.mask ≤ 65535
def opPs : List (Value → Prop) := [IsI .i64, IsI .i64, IsI .u8, IsI .u8, IsI .u8, IsI .u8, IsI .i64]
def csPs (W : World) : List (Value → Prop) := [IsI .i64, IsI .i64, IsI .i64, IsI .i64, IsI .i64, IsI .u8, IsI .u8, IsI .u8, IsI .u8, IsI .i64, IsI .i64, IsI .u16, IsB, IsSl W 6 Pr.f Pr.ok]
theorem cs_len (W : World) (q : Cs × Value) : (csF q).length = (csPs W).length := rfl
theorem cs_dec (W : World) (cs : List Value) (h : All2 (csPs W) cs) : ∃ q, cs = csF q ∧ CsOk W q := by
  obtain ⟨_, _, rfl, ⟨wh, rfl, _⟩, g1⟩ := All2.cons h
  obtain ⟨_, _, rfl, ⟨tx, rfl, _⟩, g2⟩ := All2.cons g1
  obtain ⟨_, _, rfl, ⟨now, rfl, _⟩, g3⟩ := All2.cons g2
  obtain ⟨_, _, rfl, ⟨kind, rfl, _⟩, g4⟩ := All2.cons g3
  obtain ⟨_, _, rfl, ⟨otx, rfl, _⟩, g5⟩ := All2.cons g4
  obtain ⟨_, _, rfl, ⟨a, rfl, ha⟩, h1⟩ := All2.cons g5
  obtain ⟨_, _, rfl, ⟨b, rfl, hb⟩, h2⟩ := All2.cons h1
  obtain ⟨_, _, rfl, ⟨c, rfl, hc⟩, h3⟩ := All2.cons h2
  obtain ⟨_, _, rfl, ⟨d, rfl, hd⟩, h4⟩ := All2.cons h3
  obtain ⟨_, _, rfl, ⟨n, rfl, _⟩, h5⟩ := All2.cons h4
  obtain ⟨_, _, rfl, ⟨er, rfl, _⟩, h6⟩ := All2.cons h5
  obtain ⟨_, _, rfl, ⟨mk, rfl, hm⟩, h7⟩ := All2.cons h6
  obtain ⟨_, _, rfl, ⟨cm, rfl⟩, h8⟩ := All2.cons h7
  obtain ⟨v, _, rfl, ⟨l, hl, _⟩, h9⟩ := All2.cons h8
  obtain rfl := All2.nil h9
  obtain ⟨a', rfl⟩ := u8_of ha
  obtain ⟨b', rfl⟩ := u8_of hb
  obtain ⟨c', rfl⟩ := u8_of hc
  obtain ⟨d', rfl⟩ := u8_of hd
  have hlo : (0 : Int) ≤ mk := hm.1
  have hhi : mk ≤ (65535 : Int) := hm.2
  obtain ⟨mk', rfl⟩ : ∃ k : Nat, mk = (k : Int) := ⟨mk.toNat, by omega⟩
  exact ⟨(⟨wh, tx, now, kind, otx, ⟨a', b', c', d'⟩, n, er, mk', cm, l⟩, v), rfl, hl, by show mk' ≤ 65535; omega⟩
--@@ concordatlaw10.Call
theorem op_flat : Flat Tryz.prog 35 opPs := by
  have h := Flat.struct (P := Tryz.prog) (t := 35) (pss := [[IsI .i64], [IsI .i64], K4.ps, [IsI .i64]]) Tryz.underlying35 (by kernel_rfl)
    ⟨rfl, Flat.int Tryz.underlying3 (by kernel_rfl), rfl, Flat.int Tryz.underlying3 (by kernel_rfl), rfl, K4.flat, rfl, Flat.int Tryz.underlying3 (by kernel_rfl), trivial⟩
  exact h
theorem cs_flat (W : World) : FlatW Tryz.prog W 38 (csPs W) := by
  have h := FlatW.struct (P := Tryz.prog) (W := W) (t := 38) (pss := [[IsI .i64], [IsI .i64], [IsI .i64], opPs, [IsI .i64], [IsI .u16], [IsB], [IsSl W 6 Pr.f Pr.ok]]) Tryz.underlying38 (by kernel_rfl)
    ⟨rfl, (Flat.int Tryz.underlying3 (by kernel_rfl)).w, rfl, (Flat.int Tryz.underlying3 (by kernel_rfl)).w, rfl, (Flat.int Tryz.underlying3 (by kernel_rfl)).w, rfl, op_flat.w, rfl, (Flat.int Tryz.underlying27 (by kernel_rfl)).w, rfl, (Flat.int Tryz.underlying36 (by kernel_rfl)).w, rfl, (Flat.bool Tryz.underlying4 (by kernel_rfl)).w, rfl, FlatW.slice Tryz.underlying22 (by kernel_rfl) Pr.flat.w Pr.pos Pr.f Pr.ok Pr.dec Pr.len, trivial⟩
  exact h
--@@ end
end Go.Proofs.YtpfgpbafechncaaGreat
namespace Go.Proofs.YtpfgpbafechncaaGreat
open Go.RowKit Go.Shelf Go.Lib Go.Sort Go.Proofs
theorem own_in {w : World} {base n size : Nat} {e : TypeId} {v : Value} {xs : List Value} (h : w.ownsRow base e size v n xs) : ∀ b, bvB v b → base ≤ b ∧ b < w.heap.size := fun b ⟨a, m, c, hv, hm, hb⟩ => by
  subst hb
  refine ⟨?_, ?_⟩
  · rcases h.2 with ⟨h1, _⟩ | ⟨g, cap', cur, h1, hb', _⟩
    · rw [h1] at hv; cases hv
    · rw [h1] at hv; cases hv; exact hb'
  · obtain ⟨a2, c2, h1, _, _, h4⟩ := (SlAt.of_own h).ex
    rw [h1] at hv
    cases hv
    obtain ⟨b, off, h5, h6, _⟩ := h4 hm
    obtain rfl := Option.some.inj h5
    exact h6
--@@ concordatlaw10.do
def PairN (lo : Nat) (l : List Pr) (v : Value) (w : World) : Prop := (∃ pa pc, v = .slice pa l.length pc) ∧ w.ownsRow lo 59 6 v l.length (l.flatMap Pr.f)
theorem PairN.kept {lo : Nat} {l : List Pr} {v : Value} {w w' : World} (hk : Kept [] w w') (h : PairN lo l v w) : PairN lo l v w' := ⟨h.1, ownsRow_kept h.2 hk (by simp)⟩
theorem SpOk.tn {s : Sp} {n : Nat} (h : Lim s n) (hn : n ≤ 40000) : s.tab.rows.length ≤ 50000 := by have := h.rl; omega
set_option maxRecDepth 100000 in
set_option maxHeartbeats 8000000 in
theorem do10_any {w : World} {D : Nat → Prop} {A : Nat} {s : Sp} {n : Nat} (h : StoreAt w D A s) (HO : SpOk s) (HL : Lim s n) (hn : n ≤ 40000) (q : Cs × Value) (hr : SlAt w q.2 6 q.1.pairs.length (q.1.pairs.flatMap Pr.f)) (hp : q.1.pairs.length ≤ 40) :
    Calls Tryz.prog 20 #[.pointer (some ⟨A, 0, none⟩), .agg (csF q).toArray] w fun e w' => e = .returned (.tuple #[]) ∧ StoreAt w' D A (s.step q.1) ∧ KD D w w' := by
  obtain ⟨⟨what, tx, now, kind, otx, ⟨ka, kb, kc, kd⟩, m, er, mask, commit, pairs⟩, pv⟩ := q
  dsimp only at hr hp
  obtain ⟨M, L, bv, ws, H⟩ := h
  have HH := hid H
  have HOK := hid HO
  have HLI := hid HL
  have hbl := HO.blen
  have HBX := hid (show StoreAt (w.alloc (.cells (csF (⟨what, tx, now, kind, otx, ⟨ka, kb, kc, kd⟩, m, er, mask, commit, pairs⟩, pv)).toArray 38)) D A s from ⟨M, L, bv, ws, H.kept ((Kept.refl [] w).alloc _) (fun x hx => by cases hx)⟩)
  have HKX := hid (show KD D w (w.alloc (.cells (csF (⟨what, tx, now, kind, otx, ⟨ka, kb, kc, kd⟩, m, er, mask, commit, pairs⟩, pv)).toArray 38)) from ((Kept.refl [] w).alloc _).kd' H.dlt)
  have HR := hid hr
  obtain ⟨pa, pc, rfl, _⟩ := hr.ex
  have HST := hid (show s.step ⟨what, tx, now, kind, otx, ⟨ka, kb, kc, kd⟩, m, er, mask, commit, pairs⟩ = _ from rfl)
  clear H HO HL hr
  simp only [csF] at HBX HKX ⊢
  by_cases h0 : what = 0
  · subst h0
    have HS := hid (show s.step ⟨0, tx, now, kind, otx, ⟨ka, kb, kc, kd⟩, m, er, mask, commit, pairs⟩ = (s.begin_ tx).2 from by unfold Sp.step; rfl)
    rw [HS.out]
    clear HST
    go_enter Tryz.func20, Tryz.ntmps20
    go_wp2_with (go_at_call 24; refine (sbegin_any HBX.out tx).mono ?_; rintro e w2 ⟨rfl, hS2, hk2⟩)
    go_end0
    exact ⟨rfl, hS2, HKX.out.trans hk2 (fun _ h => h)⟩
  have hb0 : (what == 0) = false := by simpa using h0
  by_cases h1 : what = 1
  · subst h1
    have HS := hid (show s.step ⟨1, tx, now, kind, otx, ⟨ka, kb, kc, kd⟩, m, er, mask, commit, pairs⟩ = (s.doOp kind otx ⟨ka, kb, kc, kd⟩ m now).2 from by unfold Sp.step; rfl)
    rw [HS.out]
    clear HST
    go_enter Tryz.func20, Tryz.ntmps20
    go_wp2_with (go_at_call 17; refine (sdo_any HBX.out HLI.out.le (by omega) HOK.out.wlen (by omega) kind otx ⟨ka, kb, kc, kd⟩ m now).mono ?_; rintro e w2 ⟨rfl, hS2, hk2⟩)
    go_end0
    exact ⟨rfl, hS2, HKX.out.trans hk2 (fun _ h => h)⟩
  have hb1 : (what == 1) = false := by simpa using h1
  by_cases h2 : what = 2
  · subst h2
    have HS := hid (show s.step ⟨2, tx, now, kind, otx, ⟨ka, kb, kc, kd⟩, m, er, mask, commit, pairs⟩ = (s.late now).2 from by unfold Sp.step; rfl)
    rw [HS.out]
    clear HST
    go_enter Tryz.func20, Tryz.ntmps20
    go_wp2_with (go_at_call 41; refine (slate_any HBX.out HLI.out.le (by omega) (SpOk.tn HLI.out hn) now).mono ?_; rintro e w2 ⟨v2, rfl, hv2, hS2, hk2⟩; obtain ⟨_, _, rfl, _⟩ := hv2.ex)
    go_end0
    exact ⟨rfl, hS2, HKX.out.trans hk2 (fun _ h => h)⟩
  have hb2 : (what == 2) = false := by simpa using h2
  by_cases h3 : what = 3
  · subst h3
    have HS := hid (show s.step ⟨3, tx, now, kind, otx, ⟨ka, kb, kc, kd⟩, m, er, mask, commit, pairs⟩ = (s.doom tx er).2 from by unfold Sp.step; rfl)
    rw [HS.out]
    clear HST
    go_enter Tryz.func20, Tryz.ntmps20
    go_wp2_with (go_at_call 29; refine (sdoom_any HBX.out HLI.out.le (by omega) tx er).mono ?_; rintro e w2 ⟨rfl, hS2, hk2⟩)
    go_end0
    exact ⟨rfl, hS2, HKX.out.trans hk2 (fun _ h => h)⟩
  have hb3 : (what == 3) = false := by simpa using h3
  by_cases h4 : what = 4
  · subst h4
    have HS := hid (show s.step ⟨4, tx, now, kind, otx, ⟨ka, kb, kc, kd⟩, m, er, mask, commit, pairs⟩ = (s.vote tx mask).2 from by unfold Sp.step; rfl)
    rw [HS.out]
    clear HST
    go_enter Tryz.func20, Tryz.ntmps20
    go_wp2_with (go_at_call 25; refine (svote_any HBX.out HLI.out.le (by omega) (SpOk.tn HLI.out hn) HOK.out.wlen tx mask).mono ?_; rintro e w2 ⟨v2, rfl, hv2, hS2, hk2⟩; obtain ⟨_, _, rfl, _⟩ := hv2.ex)
    go_end0
    exact ⟨rfl, hS2, HKX.out.trans hk2 (fun _ h => h)⟩
  have hb4 : (what == 4) = false := by simpa using h4
  by_cases h5 : what = 5
  · subst h5
    have HS := hid (show s.step ⟨5, tx, now, kind, otx, ⟨ka, kb, kc, kd⟩, m, er, mask, commit, pairs⟩ = (s.end_ tx commit).2 from by unfold Sp.step; rfl)
    rw [HS.out]
    clear HST
    go_enter Tryz.func20, Tryz.ntmps20
    go_wp2_with (go_at_call 28; refine (send_any HBX.out HLI.out.le (by omega) (SpOk.tn HLI.out hn) HOK.out.wlen (by omega) tx commit).mono ?_; rintro e w2 ⟨rfl, hS2, hk2⟩)
    go_end0
    exact ⟨rfl, hS2, HKX.out.trans hk2 (fun _ h => h)⟩
  have hb5 : (what == 5) = false := by simpa using h5
  by_cases h6 : what = 6
  · subst h6
    have HS := hid (show s.step ⟨6, tx, now, kind, otx, ⟨ka, kb, kc, kd⟩, m, er, mask, commit, pairs⟩ = (s.restore tx pairs).2 from by unfold Sp.step; rfl)
    rw [HS.out]
    clear HST HBX HKX
    have nc := new_cell w (csF (⟨6, tx, now, kind, otx, ⟨ka, kb, kc, kd⟩, m, er, mask, commit, pairs⟩, .slice pa pairs.length pc)) 38
    simp only [csF] at nc
    have HCB := hid (fun W (hK : Kept [] (w.alloc (.cells #[.int .i64 6, .int .i64 tx, .int .i64 now, .int .i64 kind, .int .i64 otx, .int .u8 (ka.toNat : Int), .int .u8 (kb.toNat : Int), .int .u8 (kc.toNat : Int), .int .u8 (kd.toNat : Int), .int .i64 m, .int .i64 er, .int .u16 (mask : Int), .bool commit, .slice pa pairs.length pc] 38)) W) =>
      show W.cell? ⟨w.heap.size, 1, none⟩ = some (.int .i64 tx) ∧ W.cell? ⟨w.heap.size, 13, none⟩ = some (.slice pa pairs.length pc) from ⟨hK.cell (nc 1 _ rfl) (by simp), hK.cell (nc 13 _ rfl) (by simp)⟩)
    have HA := hid ((Kept.refl [] w).alloc (.cells #[.int .i64 6, .int .i64 tx, .int .i64 now, .int .i64 kind, .int .i64 otx, .int .u8 (ka.toNat : Int), .int .u8 (kb.toNat : Int), .int .u8 (kc.toNat : Int), .int .u8 (kd.toNat : Int), .int .i64 m, .int .i64 er, .int .u16 (mask : Int), .bool commit, .slice pa pairs.length pc] 38))
    have HTO := hid (fun W (hK : Kept [] w W) => to_any _ pairs W (HR.out.kept hK) (by omega))
    clear nc
    go_enter Tryz.func20, Tryz.ntmps20
    go_wp2_with fail
    generalize w.alloc (.cells #[.int .i64 6, .int .i64 tx, .int .i64 now, .int .i64 kind, .int .i64 otx, .int .u8 (ka.toNat : Int), .int .u8 (kb.toNat : Int), .int .u8 (kc.toNat : Int), .int .u8 (kd.toNat : Int), .int .i64 m, .int .i64 er, .int .u16 (mask : Int), .bool commit, .slice pa pairs.length pc] 38) = wq at *
    -- [rows do15]
    refine wp_region_rows_tail 6 (yieldDen [.eq (.pointer (some ⟨A, 0, none⟩)), .eq (.pointer (some ⟨w.heap.size, 1, none⟩)), .eq (.int .i64 tx), .eq (.pointer (some ⟨w.heap.size, 13, none⟩)), .eq (.slice pa pairs.length pc), .is (fun v w' => PairN wq.heap.size pairs v w') (fun v w w' hk h => PairN.kept hk h)]) (fun w' => Kept [] wq w') (Kept []) (by kernel_rfl) (fun j v w w' h h' => yieldDen_kept _ j v w w' h h') (fun w => Kept.refl [] w) (by kernel_rfl) (by kernel_rfl) (by kernel_rfl) (by kernel_rfl) (by kernel_rfl) (by kernel_rfl) ((Kept.refl [] wq).drew) ?_ ?_
    · skip
      refine AllUpto.cons (n := 5) (k := 0) ?_ ?_
      · intro a w' hC hO hd
        rw [if_pos (wanted_none rfl)]
        have p0 : a.tmps[0]? = some (.pointer (some ⟨A, 0, none⟩)) := hO.at (by kernel_rfl) rfl
        clear hd hO
        refine pure_step (.pointer (some ⟨A, 0, none⟩)) rfl hC (Kept.refl _ _) ?_
        go_simp
      refine AllUpto.cons (n := 4) (k := 1) ?_ ?_
      · intro a w' hC hO hd
        rw [if_pos (wanted_none rfl)]
        have p3 : a.tmps[3]? = some (.pointer (some ⟨w.heap.size, 0, none⟩)) := hO.at (by kernel_rfl) rfl
        clear hd hO
        refine pure_step (.pointer (some ⟨w.heap.size, 1, none⟩)) rfl hC (Kept.refl _ _) ?_
        go_simp
      refine AllUpto.cons (n := 3) (k := 2) ?_ ?_
      · intro a w' hC hO hd
        obtain ⟨x53, e53, r53⟩ := hd ⟨1, .data⟩ (by simp) rfl _ _ rfl rfl
        obtain rfl : x53 = .pointer (some ⟨w.heap.size, 1, none⟩) := r53
        rw [if_pos (wanted_none rfl)]
        obtain ⟨y0, y1⟩ := HCB.out w' hC
        clear hd hO
        refine pure_step (.int .i64 tx) rfl hC (Kept.refl _ _) ?_
        go_simp
      refine AllUpto.cons (n := 2) (k := 3) ?_ ?_
      · intro a w' hC hO hd
        rw [if_pos (wanted_none rfl)]
        have p3 : a.tmps[3]? = some (.pointer (some ⟨w.heap.size, 0, none⟩)) := hO.at (by kernel_rfl) rfl
        clear hd hO
        refine pure_step (.pointer (some ⟨w.heap.size, 13, none⟩)) rfl hC (Kept.refl _ _) ?_
        go_simp
      refine AllUpto.cons (n := 1) (k := 4) ?_ ?_
      · intro a w' hC hO hd
        obtain ⟨x55, e55, r55⟩ := hd ⟨3, .data⟩ (by simp) rfl _ _ rfl rfl
        obtain rfl : x55 = .pointer (some ⟨w.heap.size, 13, none⟩) := r55
        rw [if_pos (wanted_none rfl)]
        obtain ⟨y0, y1⟩ := HCB.out w' hC
        clear hd hO
        refine pure_step (.slice pa pairs.length pc) rfl hC (Kept.refl _ _) ?_
        go_simp
      refine AllUpto.cons (n := 0) (k := 5) ?_ ?_
      · intro a w' hC hO hd
        obtain ⟨x56, e56, r56⟩ := hd ⟨4, .data⟩ (by simp) rfl _ _ rfl rfl
        obtain rfl : x56 = .slice pa pairs.length pc := r56
        rw [if_pos (wanted_none rfl)]
        clear hd hO
        go_simp
        refine (HTO.out w' (HA.out.trans hC (fun x hx => by cases hx))).mono ?_
        rintro e y ⟨v2, rfl, ho2, hk⟩
        obtain ⟨ra, rc, rfl⟩ := ownsRow_slice ho2
        exact ⟨_, rfl, ⟨⟨_, _, rfl⟩, ownsRow_base ho2 hC.size⟩, hC.trans hk (fun x hx => .inl hx), hk⟩
      exact AllUpto.nil
    · intro a' w4 hC hO hrows
      obtain ⟨xs, es, rs⟩ := hrows 0 (by decide) _ _ rfl rfl
      obtain rfl : xs = .pointer (some ⟨A, 0, none⟩) := rs
      obtain ⟨xt, et, rt⟩ := hrows 2 (by decide) _ _ rfl rfl
      obtain rfl : xt = .int .i64 tx := rt
      obtain ⟨xv, ev, rv⟩ := hrows 5 (by decide) _ _ rfl rfl
      obtain ⟨us, hus, ha⟩ := hO.lit rfl [false, false, false, false, false, false, false, false, false, false, false, false, false, false, false, false, false, false, false, false, false, false, false, false, false, false, false, false, false, false, false, false, false, false, false, false, false, false, false, false, false, false, false, false, false, false, false, false, false, false, false, false, true, true, true, true, true, true, true] (by kernel_rfl)
      have us := hus 52 _ rfl es
      have ut := hus 54 _ rfl et
      have uv := hus 57 _ rfl ev
      clear hrows hO hus es et ev
      subst ha
      simp only [merge, Nat.reduceAdd, us, ut, uv, List.drop_succ_cons, List.drop_zero]
      clear us ut uv
    -- [end rows]
      obtain ⟨⟨ra, rc, rfl⟩, ho⟩ := show (∃ pa pc, xv = .slice pa _ pc) ∧ _ from rv
      have hkw := HA.out.trans hC (fun x hx => by cases hx)
      have H4 := HH.out.widen hkw (fun x hx => by cases hx)
      have HPR := hid (PrAt.of_own ho rfl)
      have hsz := HA.out.size
      have HRI := hid (show RowIn (fun b => D b ∨ (w.heap.size ≤ b ∧ b < w4.heap.size)) (.slice ra pairs.length rc) from fun b hb => .inr ⟨by have := (own_in ho b hb).1; omega, (own_in ho b hb).2⟩)
      have HRS := hid (srestore_any (w := w4) ⟨M, L, bv, ws, H4⟩ HLI.out.le (by omega) HLI.out.rl HOK.out.wlen (by omega) tx _ pairs HPR.out HRI.out (by omega))
      have HKW := hid (hkw.kd' HH.out.dlt)
      clear hkw H4 hC ho rv
      go_wp2_with (go_at_call 27; refine HRS.out.mono ?_; clear HRS; rintro e w5 ⟨rfl, hS5, hk5⟩)
      go_end0
      obtain ⟨M5, L5, bv5, ws5, H5⟩ := hS5
      exact ⟨rfl, ⟨M5, L5, bv5, ws5, H5.less (fun b hb => .inl hb)⟩, HKW.out.trans hk5 (fun _ h => .inl h)⟩
  have hb6 : (what == 6) = false := by simpa using h6
  have HS := hid (show s.step ⟨what, tx, now, kind, otx, ⟨ka, kb, kc, kd⟩, m, er, mask, commit, pairs⟩ = s from by unfold Sp.step; rw [if_neg h0, if_neg h1, if_neg h2, if_neg h3, if_neg h4, if_neg h5, if_neg h6])
  rw [HS.out]
  clear HST h0 h1 h2 h3 h4 h5 h6
  go_enter Tryz.func20, Tryz.ntmps20
  go_wp2
  go_end0
  exact ⟨rfl, HBX.out, HKX.out⟩
--@@ concordatlaw10.num
theorem num10_any (n : Int) (w : World) :
    Calls Tryz.prog 30 #[.int .i64 n] w fun e w' => e = .returned (V.v ⟨true, n⟩) ∧ Kept [] w w' := by
  go_enter Tryz.func30, Tryz.ntmps30
  go_wp2
  go_returns
  exact ⟨rfl, (Kept.refl _ _).alloc _⟩
--@@ concordatlaw10.great
def greatC (l : List Cs) : Bool := decide (80 < l.length) || l.any fun c => decide (40 < c.pairs.length)
theorem greatC_false {l : List Cs} (h : greatC l = false) : l.length ≤ 80 ∧ ∀ c ∈ l, c.pairs.length ≤ 40 := by
  simp only [greatC, Bool.or_eq_false_iff, decide_eq_false_iff_not, Nat.not_lt, List.any_eq_false, decide_eq_true_eq] at h
  exact h
theorem cs_cells {w : World} {L : List (Cs × Value)} {b off k : Nat} (h : ∀ j u, (L.flatMap csF)[j]? = some u → w.cell? ⟨b, off + j, none⟩ = some u) (hk : k < L.length) :
    ∀ j u, (csF L[k])[j]? = some u → w.cell? ⟨b, off + k * 14 + j, none⟩ = some u := fun j u hj => by
  have h14 : j < 14 := (List.getElem?_eq_some_iff.1 hj).1
  have := flatMap_get csF (c := 14) (fun _ => rfl) L k j L[k] (by simp [hk]) h14
  rw [hj] at this
  have := h _ u this
  rwa [← Nat.add_assoc] at this
structure CsAt (w : World) (v : Value) (L : List (Cs × Value)) : Prop where
  row : SlAt w v 14 L.length (L.flatMap csF)
  each : ∀ q ∈ L, SlAt w q.2 6 q.1.pairs.length (q.1.pairs.flatMap Pr.f)
theorem CsAt.kept {w w' : World} {v : Value} {L : List (Cs × Value)} (h : CsAt w v L) (hk : Kept [] w w') : CsAt w' v L := ⟨h.row.kept hk, fun q hq => (h.each q hq).kept hk⟩
set_option maxRecDepth 100000 in
set_option maxHeartbeats 4000000 in
theorem great10_any (v : Value) (L : List (Cs × Value)) (w : World) (h : CsAt w v L) :
    Calls Tryz.prog 10 #[v] w fun e w' => e = .returned (.bool (greatC (L.map (·.1)))) ∧ w' = w := by
  obtain ⟨a, cap, rfl, hm, _, hc⟩ := h.row.ex
  have HC := hid hc
  have HV := hid (fun q (hq : q ∈ L) => show ∃ a c, q.2 = .slice a q.1.pairs.length c ∧ q.1.pairs.length ≤ maxLen from by obtain ⟨a, c, e, h2, _⟩ := (h.each q hq).ex; exact ⟨a, c, e, h2⟩)
  clear h hc
  unfold greatC
  rw [List.length_map]
  by_cases hb : 80 < L.length
  · have hbz : (80 : Int) < (L.length : Int) := by omega
    rw [decide_eq_true hb, Bool.true_or]
    clear hb
    go_enter Tryz.func10, Tryz.ntmps10
    go_wp2
    go_ret
    exact ⟨rfl, rfl⟩
  have hbz : (L.length : Int) ≤ 80 := by omega
  rw [decide_eq_false hb, Bool.false_or]
  obtain ⟨T, hT⟩ : ∃ T, T = (L.map (·.1)).any fun c => decide (40 < c.pairs.length) := ⟨_, rfl⟩
  rw [← hT]
  have HT := hid hT
  clear hb hT
  go_enter Tryz.func10, Tryz.ntmps10
  go_wp2_with fail
  go_loopg [3] L.length (fun kx s3 wr => ∃ k : Nat, s3 = .int .i64 k ∧ k ≤ L.length ∧ L.length - k ≤ kx ∧ wr = w ∧ Aside (∀ q ∈ L.take k, ¬ 40 < q.1.pairs.length))
  case atStart => exact ⟨0, by first | rfl | go_num, by omega, by omega, rfl, fun q hq => by simp at hq⟩
  case round =>
    obtain ⟨k, rfl, hk, hkx, rfl, HN⟩ := hrel
    by_cases hlt : k < L.length
    · have hltz : (k : Int) < (L.length : Int) := by omega
      obtain ⟨b, off, rfl, _, d1⟩ := HC.out (by omega)
      have hcc := cs_cells d1 hlt
      obtain ⟨qa, qc, hqv, hql⟩ := HV.out _ (List.getElem_mem hlt)
      have HM := hid (List.getElem_mem hlt)
      have HS := hid (show L.take (k + 1) = L.take k ++ [L[k]] by rw [List.take_succ_eq_append_getElem hlt])
      generalize L[k] = q at *
      have e13 := hcc 13 q.2 rfl
      clear hcc d1
      rw [hqv] at e13
      obtain ⟨⟨what, tx, now, kind, otx, key, m, er, mask, commit, pairs⟩, pv⟩ := q
      dsimp only at e13 hql
      unfold maxLen at hql
      by_cases h40 : 40 < pairs.length
      · have h40z : (40 : Int) < (pairs.length : Int) := by omega
        have hTt : T = true := by
          rw [HT.out, List.any_eq_true]
          exact ⟨_, List.mem_map.2 ⟨_, HM.out, rfl⟩, decide_eq_true h40⟩
        subst hTt
        clear h40
        go_wp2
        go_ret
        exact ⟨rfl, rfl⟩
      · have h40z : (pairs.length : Int) ≤ 40 := by omega
        have HN2 := hid h40
        clear h40
        go_wp2
        go_roundg (L.length - (k + 1))
        case measure => omega
        case rel => exact ⟨k + 1, by first | rfl | go_num, by omega, Nat.le_refl _, rfl, by
          intro y hy
          rw [HS.out] at hy
          rcases List.mem_append.1 hy with hy | hy
          · exact HN y hy
          · rw [List.mem_singleton] at hy; rw [hy]; exact HN2.out⟩
    · obtain rfl : k = L.length := by omega
      have hltz : ¬ (L.length : Int) < (L.length : Int) := by omega
      have hTf : T = false := by
        rw [HT.out, List.any_eq_false]
        intro c hc
        obtain ⟨q, hq, rfl⟩ := List.mem_map.1 hc
        have hN := HN
        have := hN q (by rw [List.take_length]; exact hq)
        simpa using this
      subst hTf
      go_wp2
      go_ret
      exact ⟨rfl, rfl⟩
--@@ end
end Go.Proofs.YtpfgpbafechncaaGreat
