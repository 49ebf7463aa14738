/- The pairs of a draft lie in a row that is new. -/
import Derived.Test.YtpfgpbafechncaaGreatStoreW
set_option linter.all false
namespace Go.Proofs.YtpfgpbafechncaaGreat
open Go.RowKit Go.Shelf Go.Lib Go.Sort Go.Proofs
set_option linter.unusedVariables false
set_option linter.unusedSimpArgs false

theorem own_base {w : World} {base n size : Nat} {e : TypeId} {v : Value} {xs : List Value} (h : w.ownsRow base e size v n xs) : ∀ b, bvB v b → base ≤ b := fun b ⟨a, m, c, hv, hm, hb⟩ => by
  subst hb
  rcases h.2 with ⟨h1, _⟩ | ⟨g, cap', cur, h1, hb', _⟩
  · rw [h1] at hv; cases hv
  · rw [h1] at hv; cases hv; exact hb'
--@@ (*draft.Draft).Pairs
set_option maxHeartbeats 8000000 in
set_option maxRecDepth 100000 in
theorem dpairs_anyF (a m : Nat) (l : List (K4 × V)) (w : World) (h : DraftIs w a m l) (hn : (l.map (·.1)).Nodup) (hl : l.length ≤ 1000) :
    Calls Tryz.prog 35 #[.pointer (some ⟨a, 0, none⟩)] w fun e w' => ∃ v, e = .returned v ∧ PrAt w' v (keysP (l.map toPr)) ∧ Kept [] w w' ∧ ∀ b, bvB v b → w.heap.size ≤ b := by
  have c0 := h.c0
  have HM := hid h.map
  have HF := hid (show (Tryz.prog.info? 59).map (fun i => (i.zero, i.size, i.bytes)) = some (some (.agg #[.int .u8 0, .int .u8 0, .int .u8 0, .int .u8 0, .bool false, .int .i64 0]), 6, 24) by kernel_rfl)
  have hmw := h.lt.2
  clear h
  go_enter Tryz.func35, Tryz.ntmps35
  go_wp2_with (first | (at_range; refine wpList_range_is rfl _ 122 rfl _ _ Tryz.underlying122 rfl HM.out ?_; intro w0 hR hk hsz0))
  go_frame
  have HR := hid hR
  have HK := hid hk
  clear hR hk
  go_loopg [3] l.length (fun kx s3 wr => ∃ (todo acc : List (K4 × V)), Aside (wr.ownsRow w0.heap.size 59 6 s3 acc.length ((acc.map toPr).flatMap Pr.f)) ∧ Aside ((acc ++ todo).Perm l) ∧ Aside (RangeIs wr m w.heap.size K4.v (dl todo)) ∧ Aside (Kept [] w wr) ∧ todo.length ≤ kx ∧ w0.heap.size ≤ wr.heap.size)
  case atStart => exact ⟨l, [], ⟨rfl, .inl ⟨rfl, rfl⟩⟩, List.Perm.refl _, HR.out, HK.out, Nat.le_refl _, Nat.le_refl _⟩
  case round =>
    clear HR HK
    obtain ⟨todo, acc, HO, HP, HR, HK, hkx, hsz⟩ := hrel
    go_wp2_with (first
      | (at_next; refine wpList_next_is rfl _ rfl rfl HR.out ?_ ?_; (intro hd0); rotate_left; (intro x u T w1 hp hR1 hk1 hs1 hen; obtain ⟨v, t', rfl, rfl, hp'⟩ := dl_perm hp; have HP' := hid hp'; have HR1 := hid hR1; have HK1 := hid hk1; clear hp hp' hR1 hk1; obtain ⟨k1, k2, k3, k4⟩ := x; obtain ⟨y1, y2⟩ := v; simp only [K4.v, V.v] at hen ⊢))
      | (at_builtin; refine Here.mk ?_)
      | (go_at_call 67; refine Here.mk ?_))
    · refine Here.of ?_
      clear hen
      have HO1 := hid (ownsRow_kept HO.out HK1.out (fun x hx => by simp at hx; omega))
      generalize Obj.cells #[Value.int IntKind.u8 (k1.toNat : Int), Value.int IntKind.u8 (k2.toNat : Int), Value.int IntKind.u8 (k3.toNat : Int), Value.int IntKind.u8 (k4.toNat : Int)] 33 = A
      generalize Obj.cells #[Value.bool y1, Value.int IntKind.i64 y2] 44 = B
      have hAB : ((w1.alloc A).alloc B).heap.size = wr.heap.size + 1 + 1 := by simp [hs1]
      rw [← hAB]
      have hacc : acc.length + todo.length = l.length := by have := HP.out.length_eq; simpa using this
      refine wpList_append_is rfl _ _ 30 rfl 59 _ 6 24 Tryz.underlying30 HF.out rfl (by decide) (by decide) w0.heap.size _ acc.length _ rfl (((HO1.out.alloc _).alloc _).alloc _) _ 1 1 (Pr.f ⟨⟨k1, k2, k3, k4⟩, ⟨y1, y2⟩⟩) rfl rfl (fun j u h => cells_new _ (Pr.f ⟨⟨k1, k2, k3, k4⟩, ⟨y1, y2⟩⟩) _ j u h) (by simp [Pr.f, Value.oneCell']) (by omega) (by simp; omega) ?_
      intro v' w2 hown2 hgrow hnil
      obtain ⟨S, hS1, hS2⟩ := ownsRow_grown (((HO1.out.alloc _).alloc _).alloc _) hgrow
      have HW := hid ((((Kept.refl [] w1).alloc A).alloc B).alloc (.cells (Pr.f ⟨⟨k1, k2, k3, k4⟩, ⟨y1, y2⟩⟩).toArray 59))
      have hk2 := HW.out.trans (c := w2) (T := S) hS1
      have HR2 := hid ((HR1.out.kept HW.out (by simp) (by simp)).kept hS1 (fun hx => by have := hS2 _ hx; omega) (fun hx => by have := hS2 _ hx; omega))
      have HK2 := hid ((((HK.out.trans HK1.out (fun x hx => .inr (by simp at hx; omega))).trans HW.out (fun x hx => .inl hx)).trans hS1 (fun x hx => .inr (by have := hS2 x hx; omega))))
      have hsz2 : w1.heap.size ≤ w2.heap.size := Nat.le_trans HW.out.size hS1.size
      have H2 := hid hown2
      clear hown2 hgrow hnil hS1 hk2
      go_wp2
      go_roundg t'.length
      case measure =>
        have := HP'.out.length_eq
        simp at this
        omega
      case rel =>
        refine ⟨t', acc ++ [(⟨k1, k2, k3, k4⟩, ⟨y1, y2⟩)], ?_, ?_, HR2.out, HK2.out, Nat.le_refl _, by omega⟩
        · have := H2.out
          show World.ownsRow _ _ _ _ _ _ _
          rw [List.map_append, List.flatMap_append, List.length_append]
          simpa [toPr] using this
        · show List.Perm _ _
          rw [List.append_assoc]
          exact (HP'.out.symm.append_left acc).trans HP.out
    · refine Here.of ?_
      have ht : todo = [] := by
        cases todo with
        | nil => rfl
        | cons p t => simp [dl] at hd0
      subst ht
      have hperm : (acc.map toPr).Perm (l.map toPr) := by have := HP.out.map toPr; simpa using this
      have hlen : acc.length = l.length := by have := HP.out.length_eq; simpa using this
      have hin := own_base HO.out
      refine (sortFunc_own u3 w0.heap.size acc.length (acc.map toPr) (l.map toPr) wr HO.out (by simp) (by simp; omega) hperm (by rw [List.map_map]; exact hn)).mono ?_
      rintro e w3 ⟨rfl, hpr, S, hS1, hS2⟩
      have hk3 : Kept [] w w3 := HK.out.trans hS1 (fun x hx => .inr (by have := hS2 x hx; omega))
      go_wp2
      go_returns
      exact ⟨_, rfl, hpr, hk3, fun b hb => by have := hin b hb; omega⟩
--@@ (*store.Store).Draft
set_option maxRecDepth 100000 in
set_option maxHeartbeats 1000000 in
theorem sdraft_anyF {w : World} {D : Nat → Prop} {A : Nat} {s : Sp} (h : StoreAt w D A s) (hl : ∀ x ∈ s.works, x.2.ws.length ≤ 1000) (tx : Int) :
    Calls Tryz.prog 15 #[.pointer (some ⟨A, 0, none⟩), .int .i64 tx] w fun e w' => ∃ v, e = .returned v ∧ PrAt w' v (s.draftOf tx) ∧ Kept [] w w' ∧ ∀ b, bvB v b → w.heap.size ≤ b := by
  obtain ⟨M, L, bv, ws, H⟩ := h
  obtain ⟨c0, c1, c2⟩ := H.cells
  unfold Sp.draftOf
  cases hx : aget tx s.works with
  | none =>
    obtain ⟨hL, _⟩ := H.look_none hx
    clear H c0 c1 hx hl
    go_enter Tryz.func15, Tryz.ntmps15
    go_wp2
    go_ret
    exact ⟨_, rfl, ⟨⟨none, 0, rfl, by decide, rfl, fun h => absurd h (by decide)⟩, fun a n c h => (by cases h), fun n c h => (by cases h; rfl)⟩, Kept.refl _ _, fun b ⟨_, _, _, h, _⟩ => by cases h⟩
  | some k =>
    have hlk := hl _ (tget_mem hx)
    obtain ⟨x, rfl, _, hW, hL⟩ := H.look_some hx
    obtain ⟨d0, d1, d2⟩ := hW.cells
    have HP := hid (dpairs_anyF x.d x.m x.k.ws w hW.dr hW.kn hlk)
    clear H c0 c1 hx hW d0 d1 hl hlk
    go_enter Tryz.func15, Tryz.ntmps15
    go_wp2_with (go_at_call 35; refine HP.out.mono ?_; clear HP; rintro e w1 ⟨v, rfl, hp, hk, hin⟩; obtain ⟨a, c, rfl, _⟩ := hp.at'.ex)
    go_returns
    exact ⟨_, rfl, hp, hk, hin⟩
--@@ end
end Go.Proofs.YtpfgpbafechncaaGreat
