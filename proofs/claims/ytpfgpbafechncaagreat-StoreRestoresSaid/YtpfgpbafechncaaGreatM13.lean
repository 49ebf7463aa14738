/- The pairs of a draft lie in a row that is new. -/
import Derived.Test.YtpfgpbafechncaaGreatStoreW
set_option linter.all false
namespace Go.Proofs.YtpfgpbafechncaaGreat
open Go.RowKit Go.Shelf Go.Lib Go.Sort Go.Proofs
theorem own_base {w : World} {base n size : Nat} {e : TypeId} {v : Value} {xs : List Value} (h : w.ownsRow base e size v n xs) : ∀ b, bvB v b → base ≤ b := fun b ⟨a, m, c, hv, hm, hb⟩ => by
  subst hb
  rcases h.2 with ⟨h1, _⟩ | ⟨g, cap', cur, h1, hb', _⟩
  · rw [h1] at hv; cases hv
  · rw [h1] at hv; cases hv; exact hb'
--@@ (*draft.Draft).Pairs
set_option maxHeartbeats 8000000 in
set_option maxRecDepth 100000 in
theorem dpairs_anyF (a m : Nat) (l : List (K4 × V)) (w : World) (h : DraftIs w a m l) (hn : (l.map (·.1)).Nodup) (hl : l.length ≤ 1000) :
    Calls Tryz.prog 35 #[.pointer (some ⟨a, 0, none⟩)] w fun e w' => ∃ v, e = .returned v ∧ PrAt w' v (keysP (l.map toPr)) ∧ Kept [] w w' ∧ ∀ b, bvB v b → w.heap.size ≤ b := by
  have c0 := h.c0
  have HM := hid h.map
  have HF := hid (show (Tryz.prog.info? 59).map (fun i => (i.zero, i.size, i.bytes)) = some (some (.agg #[.int .u8 0, .int .u8 0, .int .u8 0, .int .u8 0, .bool false, .int .i64 0]), 6, 24) by kernel_rfl)
  have hmw := h.lt.2
  clear h
  go_enter Tryz.func35, Tryz.ntmps35
  go_wp2_with (first | (at_range; refine wpList_range_is rfl _ 122 rfl _ _ Tryz.underlying122 rfl HM.out ?_; intro w0 hR hk hsz0))
  go_frame
  have HR := hid hR
  have HK := hid hk
  clear hR hk
  go_loopg [3] l.length (fun kx s3 wr => ∃ (todo acc : List (K4 × V)), Aside (wr.ownsRow w0.heap.size 59 6 s3 acc.length ((acc.map toPr).flatMap Pr.f)) ∧ Aside ((acc ++ todo).Perm l) ∧ Aside (RangeIs wr m w.heap.size K4.v (dl todo)) ∧ Aside (Kept [] w wr) ∧ todo.length ≤ kx ∧ w0.heap.size ≤ wr.heap.size)
  case atStart => exact ⟨l, [], ⟨rfl, .inl ⟨rfl, rfl⟩⟩, List.Perm.refl _, HR.out, HK.out, Nat.le_refl _, Nat.le_refl _⟩
  case round =>
    clear HR HK
    obtain ⟨todo, acc, HO, HP, HR, HK, hkx, hsz⟩ := hrel
    go_wp2_with (first
      | (at_next; refine wpList_next_is rfl _ rfl rfl HR.out ?_ ?_; (intro hd0); rotate_left; (intro x u T w1 hp hR1 hk1 hs1 hen; obtain ⟨v, t', rfl, rfl, hp'⟩ := dl_perm hp; have HP' := hid hp'; have HR1 := hid hR1; have HK1 := hid hk1; clear hp hp' hR1 hk1; obtain ⟨k1, k2, k3, k4⟩ := x; obtain ⟨y1, y2⟩ := v; simp only [K4.v, V.v] at hen ⊢))
      | (at_builtin; refine Here.mk ?_)
      | (go_at_call 67; refine Here.mk ?_))
    · refine Here.of ?_
      clear hen
      have HO1 := hid (ownsRow_kept HO.out HK1.out (fun x hx => by simp at hx; omega))
      generalize Obj.cells #[Value.int IntKind.u8 (k1.toNat : Int), Value.int IntKind.u8 (k2.toNat : Int), Value.int IntKind.u8 (k3.toNat : Int), Value.int IntKind.u8 (k4.toNat : Int)] 33 = A
      generalize Obj.cells #[Value.bool y1, Value.int IntKind.i64 y2] 44 = B
      have hAB : ((w1.alloc A).alloc B).heap.size = wr.heap.size + 1 + 1 := by simp [hs1]
      rw [← hAB]
      have hacc : acc.length + todo.length = l.length := by have := HP.out.length_eq; simpa using this
      refine wpList_append_is rfl _ _ 30 rfl 59 _ 6 24 Tryz.underlying30 HF.out rfl (by decide) (by decide) w0.heap.size _ acc.length _ rfl (((HO1.out.alloc _).alloc _).alloc _) _ 1 1 (Pr.f ⟨⟨k1, k2, k3, k4⟩, ⟨y1, y2⟩⟩) rfl rfl (fun j u h => cells_new _ (Pr.f ⟨⟨k1, k2, k3, k4⟩, ⟨y1, y2⟩⟩) _ j u h) (by simp [Pr.f, Value.oneCell']) (by omega) (by simp; omega) ?_
      intro v' w2 hown2 hgrow hnil
      obtain ⟨S, hS1, hS2⟩ := ownsRow_grown (((HO1.out.alloc _).alloc _).alloc _) hgrow
      have HW := hid ((((Kept.refl [] w1).alloc A).alloc B).alloc (.cells (Pr.f ⟨⟨k1, k2, k3, k4⟩, ⟨y1, y2⟩⟩).toArray 59))
      have hk2 := HW.out.trans (c := w2) (T := S) hS1
      have HR2 := hid ((HR1.out.kept HW.out (by simp) (by simp)).kept hS1 (fun hx => by have := hS2 _ hx; omega) (fun hx => by have := hS2 _ hx; omega))
      have HK2 := hid ((((HK.out.trans HK1.out (fun x hx => .inr (by simp at hx; omega))).trans HW.out (fun x hx => .inl hx)).trans hS1 (fun x hx => .inr (by have := hS2 x hx; omega))))
      have hsz2 : w1.heap.size ≤ w2.heap.size := Nat.le_trans HW.out.size hS1.size
      have H2 := hid hown2
      clear hown2 hgrow hnil hS1 hk2
      go_wp2
      go_roundg t'.length
      case measure =>
        have := HP'.out.length_eq
        simp at this
        omega
      case rel =>
        refine ⟨t', acc ++ [(⟨k1, k2, k3, k4⟩, ⟨y1, y2⟩)], ?_, ?_, HR2.out, HK2.out, Nat.le_refl _, by omega⟩
        · have := H2.out
          show World.ownsRow _ _ _ _ _ _ _
          rw [List.map_append, List.flatMap_append, List.length_append]
          simpa [toPr] using this
        · show List.Perm _ _
          rw [List.append_assoc]
          exact (HP'.out.symm.append_left acc).trans HP.out
    · refine Here.of ?_
      have ht : todo = [] := by
        cases todo with
        | nil => rfl
        | cons p t => simp [dl] at hd0
      subst ht
      have hperm : (acc.map toPr).Perm (l.map toPr) := by have := HP.out.map toPr; simpa using this
      have hlen : acc.length = l.length := by have := HP.out.length_eq; simpa using this
      have hin := own_base HO.out
      refine (sortFunc_own u3 w0.heap.size acc.length (acc.map toPr) (l.map toPr) wr HO.out (by simp) (by simp; omega) hperm (by rw [List.map_map]; exact hn)).mono ?_
      rintro e w3 ⟨rfl, hpr, S, hS1, hS2⟩
      have hk3 : Kept [] w w3 := HK.out.trans hS1 (fun x hx => .inr (by have := hS2 x hx; omega))
      go_wp2
      go_returns
      exact ⟨_, rfl, hpr, hk3, fun b hb => by have := hin b hb; omega⟩
--@@ (*store.Store).Draft
set_option maxRecDepth 100000 in
set_option maxHeartbeats 1000000 in
theorem sdraft_anyF {w : World} {D : Nat → Prop} {A : Nat} {s : Sp} (h : StoreAt w D A s) (hl : ∀ x ∈ s.works, x.2.ws.length ≤ 1000) (tx : Int) :
    Calls Tryz.prog 15 #[.pointer (some ⟨A, 0, none⟩), .int .i64 tx] w fun e w' => ∃ v, e = .returned v ∧ PrAt w' v (s.draftOf tx) ∧ Kept [] w w' ∧ ∀ b, bvB v b → w.heap.size ≤ b := by
  obtain ⟨M, L, bv, ws, H⟩ := h
  obtain ⟨c0, c1, c2⟩ := H.cells
  unfold Sp.draftOf
  cases hx : aget tx s.works with
  | none =>
    obtain ⟨hL, _⟩ := H.look_none hx
    clear H c0 c1 hx hl
    go_enter Tryz.func15, Tryz.ntmps15
    go_wp2
    go_ret
    exact ⟨_, rfl, ⟨⟨none, 0, rfl, by decide, rfl, fun h => absurd h (by decide)⟩, fun a n c h => (by cases h), fun n c h => (by cases h; rfl)⟩, Kept.refl _ _, fun b ⟨_, _, _, h, _⟩ => by cases h⟩
  | some k =>
    have hlk := hl _ (tget_mem hx)
    obtain ⟨x, rfl, _, hW, hL⟩ := H.look_some hx
    obtain ⟨d0, d1, d2⟩ := hW.cells
    have HP := hid (dpairs_anyF x.d x.m x.k.ws w hW.dr hW.kn hlk)
    clear H c0 c1 hx hW d0 d1 hl hlk
    go_enter Tryz.func15, Tryz.ntmps15
    go_wp2_with (go_at_call 35; refine HP.out.mono ?_; clear HP; rintro e w1 ⟨v, rfl, hp, hk, hin⟩; obtain ⟨a, c, rfl, _⟩ := hp.at'.ex)
    go_returns
    exact ⟨_, rfl, hp, hk, hin⟩
--@@ end
theorem KD.asKept {E : Nat → Prop} {w w' : World} (h : KD E w w') : ∃ S, Kept S w w' ∧ ∀ x ∈ S, x < w.heap.size ∧ ¬ E x := by
  classical
  refine ⟨(List.range w.heap.size).filter fun b => decide (¬ E b), ⟨h.os, h.tape, h.output, h.size, fun k hk hS => ?_⟩, fun x hx => ?_⟩
  · by_cases hE : E k
    · exact h.block k hE
    · exact absurd (List.mem_filter.2 ⟨List.mem_range.2 hk, by simpa using hE⟩) hS
  · obtain ⟨h1, h2⟩ := List.mem_filter.1 hx
    exact ⟨List.mem_range.1 h1, by simpa using h2⟩
theorem StoreAt.over {w w' : World} {D E : Nat → Prop} {A : Nat} {s : Sp} (h : StoreAt w D A s) (hk : KD E w w') (hE : ∀ b, b < w.heap.size → ¬ D b → E b) : StoreAt w' (fun b => D b ∨ (w.heap.size ≤ b ∧ b < w'.heap.size)) A s := by
  obtain ⟨M, L, bv, ws, H⟩ := h
  obtain ⟨S, hS, hx⟩ := hk.asKept
  refine ⟨M, L, bv, ws, H.widen hS fun x h1 => ?_⟩
  obtain ⟨h2, h3⟩ := hx x h1
  exact Classical.byContradiction fun hD => h3 (hE x h2 hD)
structure Two (B : Nat) (w0 w : World) (A A2 : Nat) (s n : Sp) : Prop where
  ex : ∃ D1 D2, StoreAt w D1 A s ∧ StoreAt w D2 A2 n ∧ (∀ b, b < B → D1 b ∧ D2 b) ∧ ∀ b, b < w.heap.size → D1 b ∨ D2 b
  kd : KD (fun b => b < B) w0 w
section
variable {B A A2 : Nat} {w0 w w' : World} {s n s' n' : Sp}
theorem Two.kept (h : Two B w0 w A A2 s n) (hk : Kept [] w w') : Two B w0 w' A A2 s n := by
  obtain ⟨D1, D2, h1, h2, h3, h4⟩ := h.ex
  refine ⟨⟨_, D2, h1.widen hk, h2.kept hk, fun b hb => ⟨.inl (h3 b hb).1, (h3 b hb).2⟩, fun b hb => ?_⟩, h.kd.trans (hk.kd' (fun b hb => h1.dlt b (h3 b hb).1)) (fun _ h => h)⟩
  by_cases hw : b < w.heap.size
  · exact (h4 b hw).imp .inl id
  · exact .inl (.inr ⟨by omega, hb⟩)
theorem Two.left (h : Two B w0 w A A2 s n) : ∃ D1, StoreAt w D1 A s ∧ ∀ w' s', StoreAt w' D1 A s' → KD D1 w w' → Two B w0 w' A A2 s' n := by
  obtain ⟨D1, D2, h1, h2, h3, h4⟩ := h.ex
  refine ⟨D1, h1, fun w' s' h1' hk => ⟨⟨D1, _, h1', h2.over hk (fun b hb hn => (h4 b hb).resolve_right hn), fun b hb => ⟨(h3 b hb).1, .inl (h3 b hb).2⟩, fun b hb => ?_⟩, h.kd.trans hk (fun b hb => (h3 b hb).1)⟩⟩
  by_cases hw : b < w.heap.size
  · exact (h4 b hw).imp id .inl
  · exact .inr (.inr ⟨by omega, hb⟩)
theorem Two.swap (h : Two B w0 w A A2 s n) : Two B w0 w A2 A n s := by
  obtain ⟨D1, D2, h1, h2, h3, h4⟩ := h.ex
  exact ⟨⟨D2, D1, h2, h1, fun b hb => (h3 b hb).symm, fun b hb => (h4 b hb).symm⟩, h.kd⟩
theorem Two.make {w3 w4 w5 : World} (h3 : StoreAt w3 (fun b => b < B) A s) (hk0 : KD (fun b => b < B) w0 w3) (hk : Kept [] w3 w4) (h5 : StoreAt w5 (fun b => b < w4.heap.size) A2 n) (hk5 : Kept [] w4 w5) : Two B w0 w5 A A2 s n := by
  have hk35 := hk.trans hk5 (fun x hx => by cases hx)
  have s1 := hk.size
  have s2 := hk5.size
  refine ⟨⟨_, _, h3.widen hk35, h5, fun b hb => ⟨.inl hb, ?_⟩, fun b hb => ?_⟩, hk0.trans (hk35.kd' h3.dlt) (fun _ h => h)⟩
  · have := h3.dlt b hb; omega
  · by_cases hw : b < w4.heap.size
    · exact .inr hw
    · exact .inl (.inr ⟨by omega, hb⟩)
--@@ store.Store
theorem Two.end_ (h : Two B w0 w A A2 s n) (H : SpOk s) (HL : Lim s 1280) (tx : Int) {s2 : Sp} (he : s.end_ tx true = (0, s2)) :
    Calls Tryz.prog 28 #[.pointer (some ⟨A, 0, none⟩), .int .i64 tx, .bool true] w fun e w' => e = .returned (.int .i64 0) ∧ Two B w0 w' A A2 s2 n := by
  obtain ⟨D1, h1, h2⟩ := h.left
  have := send_any h1 HL.le (by decide) (by have := HL.rl; omega) H.wlen (by have := H.blen; omega) tx true
  rw [he] at this
  exact this.mono fun e w' ⟨r1, r2, r3⟩ => ⟨r1, h2 _ _ r2 r3⟩
theorem Two.state (h : Two B w0 w A A2 s n) (tx : Int) {x : Int} (hx : s.stateOf tx = x) :
    Calls Tryz.prog 16 #[.pointer (some ⟨A, 0, none⟩), .int .i64 tx] w fun e w' => e = .returned (.int .i64 x) ∧ Kept [] w w' := by
  obtain ⟨D1, h1, _⟩ := h.left
  have := sstate_any h1 tx
  rw [hx] at this
  exact this
theorem Two.draft (h : Two B w0 w A A2 s n) (H : SpOk s) (tx : Int) {dl : List Pr} (hx : s.draftOf tx = dl) :
    Calls Tryz.prog 15 #[.pointer (some ⟨A, 0, none⟩), .int .i64 tx] w fun e w' => ∃ v, e = .returned v ∧ PrAt w' v dl ∧ Kept [] w w' := by
  obtain ⟨D1, h1, _⟩ := h.left
  have := sdraft_any h1 H.wlen tx
  rw [hx] at this
  exact this
theorem Two.base (h : Two B w0 w A A2 s n) (H : SpOk s) {b2 : List Pr} (hx : s.base = b2) :
    Calls Tryz.prog 14 #[.pointer (some ⟨A, 0, none⟩)] w fun e w' => ∃ v, e = .returned v ∧ PrAt w' v b2 ∧ Kept [] w w' := by
  obtain ⟨D1, h1, _⟩ := h.left
  have := sbase_any h1 (by have := H.blen; omega)
  rw [hx] at this
  exact this
theorem Two.restore {w5 w7 : World} (h : Two B w0 w5 A A2 s n) (hk : Kept [] w5 w7) (tx : Int) {v : Value} {dl : List Pr} {n1 : Sp} (hv : PrAt w7 v dl) (hin : ∀ b, bvB v b → w5.heap.size ≤ b ∧ b < w7.heap.size) (hl : dl.length ≤ 16) (H : SpOk n) (HL : Lim n 1280) (hr : n.restore tx dl = (0, n1)) :
    Calls Tryz.prog 27 #[.pointer (some ⟨A2, 0, none⟩), .int .i64 tx, v] w7 fun e w' => e = .returned (.int .i64 0) ∧ Two B w0 w' A A2 s n1 := by
  obtain ⟨D1, D2, h1, h2, h3, h4⟩ := (h.swap.kept hk).swap.ex
  obtain ⟨D1, D2, h1, h2, h3, h4⟩ := h.ex
  have hT : Two B w0 w7 A2 A n s := by
    refine ⟨⟨_, D1, h2.widen hk, h1.kept hk, fun b hb => ⟨.inl (h3 b hb).2, (h3 b hb).1⟩, fun b hb => ?_⟩, (h.kept hk).kd⟩
    by_cases hw : b < w5.heap.size
    · exact (h4 b hw).symm.imp .inl id
    · exact .inl (.inr ⟨by omega, hb⟩)
  have hg := srestore_any (n := 1280) (h2.widen hk) HL.le (by decide) HL.rl H.wlen (by have := H.blen; omega) tx v dl hv (fun b hb => .inr (hin b hb)) (by omega)
  rw [hr] at hg
  refine hg.mono fun e w' ⟨r1, r2, r3⟩ => ⟨r1, ?_⟩
  refine ⟨⟨_, _, (h1.kept hk).over r3 (fun b hb hn => ?_), r2, fun b hb => ⟨.inl (h3 b hb).1, .inl (h3 b hb).2⟩, fun b hb => ?_⟩, (h.kept hk).kd.trans r3 (fun b hb => .inl (h3 b hb).2)⟩
  · by_cases hw : b < w5.heap.size
    · exact .inl ((h4 b hw).resolve_left hn)
    · exact .inr ⟨by omega, hb⟩
  · by_cases hw : b < w5.heap.size
    · exact (h4 b hw).imp .inl .inl
    · by_cases hw' : b < w7.heap.size
      · exact .inr (.inr ⟨by omega, hw'⟩)
      · exact .inl (.inr ⟨by omega, hb⟩)
end
structure Back (s s1 n1 s2 n2 : Sp) (tx : Int) (rl : List Rc) (dl b2 : List Pr) : Prop where
  dlen : dl.length ≤ 16
  rlen : rl.length = dl.length + 1
  get : ∀ i (h : i < dl.length) (h2 : i < rl.length), rl[i].key = dl[i].key ∧ rl[i].new = dl[i].val
  ok1 : SpOk s1
  lim1 : Lim s1 1280
  ok0 : SpOk ⟨sortP s1.base, ⟨5, [], []⟩, []⟩
  okn : SpOk n1
  limn : Lim n1 1280
  ok2 : SpOk s2
  okn2 : SpOk n2
  d1 : s1.draftOf tx = dl
  res : Sp.restore ⟨sortP s1.base, ⟨5, [], []⟩, []⟩ tx dl = (0, n1)
  st : n1.stateOf tx = 3
  dn : n1.draftOf tx = dl
  e1 : s1.end_ tx true = (0, s2)
  en : n1.end_ tx true = (0, n2)
  b1 : s2.base = b2
  bn : n2.base = b2
theorem back_is {s s1 : Sp} (H : SpOk s) (HL : Lim s 1280) {tx vv er : Int} {rl : List Rc} (hv : s.vote tx 1 = ((vv, rl, er), s1)) (he : er = 0) (hr : rl ≠ []) : ∃ n1 s2 n2 dl b2, Back s s1 n1 s2 n2 tx rl dl b2 := by
  by_cases h0 : s.stateOf tx = 0
  · rw [votes_none 1 h0 H] at hv
    cases hv
    exact absurd he (by decide)
  by_cases h3 : s.stateOf tx = 3
  · rw [votes_doubt 1 h3] at hv
    cases hv
    exact absurd he (by decide)
  have H1 := H.vote tx 1
  have HL1 := HL.vote H tx 1
  rw [hv] at H1 HL1
  dsimp only at H1 HL1
  rcases vote_is H (mask := 1) (by decide) h0 h3 with ⟨wk, hx, h1, hv'⟩ | ⟨_, _, hv'⟩ | hv'
  · rw [hv'] at hv
    have e1 := congrArg (·.1.2.1) hv
    have e2 := congrArg (·.2) hv
    dsimp only at e1 e2
    obtain ⟨dl, hdl⟩ : ∃ dl, dl = s.draftOf tx := ⟨_, rfl⟩
    have hdr : s.draftOf tx = keysP (wk.ws.map toPr) := by unfold Sp.draftOf; rw [hx]; rfl
    have hd1 : s1.draftOf tx = dl := by rw [← e2, hdl, hdr]; exact draft_put _ _ _
    have hx1 : aget tx s1.works = some ⟨3, wk.err, wk.ws⟩ := by rw [← e2, tget_put, if_pos rfl]
    have hln : dl.length = wk.ws.length := by rw [hdl, hdr]; exact draft_len (H.each _ (tget_mem hx)).kn
    have hne : dl ≠ [] := fun h => by
      have h2 : s.vote tx 1 = s.vote tx 1 := rfl
      conv at h2 => rhs; unfold Sp.vote
      rw [hx, hv'] at h2
      dsimp only at h2
      rw [if_neg (by omega), if_neg (by decide)] at h2
      have hz : wk.ws.length = 0 := by rw [← hln, h]; rfl
      split at h2
      · have := congrArg (·.1.1) h2
        simp at this
      · have := congrArg (·.1.1) h2
        simp at this
    have hrs := restores_law H1 hx1 (by rw [hd1]; exact hne)
    rw [hd1] at hrs
    have hsb : sortP s1.base = s1.base := sortP_self H1.srt H1.bt
    obtain ⟨n1, hn1⟩ : ∃ n1 : Sp, n1 = ⟨s1.base, Sp.askAll ⟨5, [], []⟩ tx dl, [(tx, ⟨3, 0, dl.map ofPr'⟩)]⟩ := ⟨_, rfl⟩
    rw [← hn1] at hrs
    have HN0 : SpOk ⟨s1.base, ⟨5, [], []⟩, []⟩ := SpOk.new H1.srt H1.bt H1.blen
    have HN : SpOk n1 := by have := HN0.restore tx dl; rw [hrs] at this; exact this
    have HLN : Lim n1 1280 := by have := (Lim.new s1.base).restore tx dl; rw [hrs] at this; exact this.mono (by decide)
    have hnx : aget tx n1.works = some ⟨3, 0, dl.map ofPr'⟩ := by rw [hn1]; simp [aget]
    have hnd : n1.draftOf tx = dl := by
      rw [hn1, (new_state _ _ _ _).2, ← hd1]; exact draft_again tx
    have y1 := end_yes hx1 rfl
    have y2 := end_yes hnx rfl
    have E1 := H1.end_ tx true
    have E2 := HN.end_ tx true
    refine ⟨n1, (s1.end_ tx true).2, (n1.end_ tx true).2, dl, sortP (s1.base ++ dl), ⟨?_, ?_, ?_, H1, HL1, by rw [hsb]; exact HN0, HN, HLN, E1, E2, hd1, by rw [hsb]; exact hrs, by rw [hn1]; exact (new_state _ _ _ _).1, hnd, ?_, ?_, ?_, ?_⟩⟩
    · rw [hln]; exact (H.each _ (tget_mem hx)).len
    · rw [← e1, List.length_append, ← hdl]; simp [recsP]
    · intro i h h2
      have h3 : rl[i] = recP tx s.base dl[i] := by
        have h4 : rl[i]? = some (recP tx s.base dl[i]) := by
          rw [← e1, ← hdl, List.getElem?_append_left (by simpa [recsP] using h)]
          simp [recsP, h]
        exact List.getElem_eq_iff h2 |>.2 h4
      rw [h3]; exact ⟨rfl, rfl⟩
    · exact Prod.ext y1.1 rfl
    · exact Prod.ext y2.1 rfl
    · rw [y1.2, hd1]
    · rw [y2.2, hnd, hn1]
  · rw [hv'] at hv
    exact absurd (congrArg (·.1.2.1) hv).symm hr
  · rw [hv'] at hv
    exact absurd (congrArg (·.1.2.1) hv).symm hr
theorem to_own {w : World} {base : Nat} {e : TypeId} {v : Value} {dl : List Pr} {k : Nat} (h : w.ownsRow base e 6 v k ((dl.take k).flatMap Pr.f)) (hk : k = dl.length) : w.ownsRow base e 6 v dl.length (dl.flatMap Pr.f) := by
  subst hk
  rw [List.take_length] at h
  exact h
theorem same_two (v1 v2 : Value) (xs : List Pr) (w : World) (h1 : SlAt w v1 6 xs.length (xs.flatMap Pr.f)) (h2 : SlAt w v2 6 xs.length (xs.flatMap Pr.f)) :
    Calls Tryz.prog 21 #[v1, v2] w fun e w' => e = .returned (.bool true) ∧ Kept [] w w' := by
  have := samePairs_any v1 v2 xs xs w h1 h2
  simpa using this
--@@ end
end Go.Proofs.YtpfgpbafechncaaGreat
