/- A transaction waits no more. -/
import Derived.Test.YtiheoddlknbomaaLockT2
set_option linter.all false
namespace Go.Proofs.Ytiheoddlknbomaa
open Go.RowKit Go.Shelf Go.Lib Go.Sort Go.Proofs
set_option linter.unusedVariables false
set_option linter.unusedSimpArgs false

--@@ lock.drop
def Dropped (w w' : World) (v v' : Value) (l : List Wi) (tx : Int) : Prop := v'.ownBlock = v.ownBlock ∧ Kept v.ownBlock.toList w w' ∧
      ((v = .slice none 0 0 ∧ v' = .slice none 0 0 ∧ l = []) ∨ ∃ g off cap sz, v = .slice (some ⟨g, off, none⟩) l.length cap ∧ BlkW 59 w g off cap sz l ∧ v' = .slice (some ⟨g, off, none⟩) (dropR l tx).length cap ∧ BlkW 59 w' g off cap sz (dropR l tx))
theorem Dropped.slice {w w' : World} {v v' : Value} {l : List Wi} {tx : Int} (h : Dropped w w' v v' l tx) : ∃ a n c, v' = .slice a n c := by
  rcases h.2.2 with ⟨_, h2, _⟩ | ⟨g, off, cap, sz, _, _, h3, _⟩
  · exact ⟨_, _, _, h2⟩
  · exact ⟨_, _, _, h3⟩
theorem dropq_end {w w' : World} {P : Nat} {hv qv v' : Value} {r : Ro} {tx : Int} (HR : RowIs w P hv qv r) (hd : Dropped w w' qv v' r.q tx) :
    RowIs (w'.setCell ⟨P, 1, none⟩ v') P hv v' ⟨r.h, dropR r.q tx⟩ ∧ rowBs P hv v' = rowBs P hv qv ∧ Kept (P :: qv.ownBlock.toList) w (w'.setCell ⟨P, 1, none⟩ v') ∧ w'.heap[P]? = some (.cells #[hv, qv] 61 (0, 0)) := by
  obtain ⟨ho, hk, hd⟩ := hd
  have hnd := HR.nd
  have hnd' := hnd
  simp only [rowBs, List.nodup_cons, List.mem_append, not_or, List.nodup_append] at hnd
  have hPl := (Array.getElem?_eq_some_iff.1 HR.blk).1
  have hb : w'.heap[P]? = some (.cells #[hv, qv] 61 (0, 0)) := (hk.block P hPl hnd.1.2).trans HR.blk
  have hrb : rowBs P hv v' = rowBs P hv qv := by unfold rowBs; rw [ho]
  have hW : WRow 59 w' v' (dropR r.q tx) := by
    rcases hd with ⟨_, h2, h3⟩ | ⟨g, off, cap, sz, h1, h2, h3, h4⟩
    · rw [h3]; exact .inl ⟨h2, rfl⟩
    · exact .inr ⟨g, off, cap, sz, h3, h4⟩
  refine ⟨⟨setq hb _, ?_, ?_, by rw [hrb]; exact hnd'⟩, hrb, ?_, hb⟩
  · refine own_kept (own_kept HR.h hk (fun y hy hx => hnd.2.2.2 y (by simpa using hy) y hx rfl)) ((Kept.refl [P] w').setCell (p := ⟨P, 1, none⟩) (.inl (by simp)) v') (fun y hy hx => ?_)
    simp at hx
    subst hx
    exact hnd.1.1 (by simpa using hy)
  · refine hW.kept ((Kept.refl [P] w').setCell (p := ⟨P, 1, none⟩) (.inl (by simp)) v') (fun y hy hx => ?_)
    simp at hx
    subst hx
    rw [ho] at hy
    exact hnd.1.2 (by simpa using hy)
  · exact (hk.mono (fun x hx => List.mem_cons_of_mem _ hx)).setCell (.inl (by simp)) _
theorem droph_end {w w' : World} {P : Nat} {hv qv v' : Value} {r : Ro} {tx : Int} (HR : RowIs w P hv qv r) (hd : Dropped w w' hv v' r.h tx) :
    RowIs (w'.setCell ⟨P, 0, none⟩ v') P v' qv ⟨dropR r.h tx, r.q⟩ ∧ rowBs P v' qv = rowBs P hv qv ∧ Kept (P :: hv.ownBlock.toList) w (w'.setCell ⟨P, 0, none⟩ v') ∧ w'.heap[P]? = some (.cells #[hv, qv] 61 (0, 0)) := by
  obtain ⟨ho, hk, hd⟩ := hd
  have hnd := HR.nd
  have hnd' := hnd
  simp only [rowBs, List.nodup_cons, List.mem_append, not_or, List.nodup_append] at hnd
  have hPl := (Array.getElem?_eq_some_iff.1 HR.blk).1
  have hb : w'.heap[P]? = some (.cells #[hv, qv] 61 (0, 0)) := (hk.block P hPl hnd.1.1).trans HR.blk
  have hrb : rowBs P v' qv = rowBs P hv qv := by unfold rowBs; rw [ho]
  have hW : w'.ownsRow 0 59 4 v' (dropR r.h tx).length ((dropR r.h tx).flatMap Wi.f) := by
    rcases hd with ⟨_, h2, h3⟩ | ⟨g, off, cap, sz, h1, h2, h3, h4⟩
    · rw [h3, h2]; exact ⟨rfl, .inl ⟨rfl, rfl⟩⟩
    · have hh := HR.h
      rw [h1] at hh
      rw [h3]
      exact own_drop hh h2 rfl h4
  refine ⟨⟨set1 hb _, ?_, ?_, by rw [hrb]; exact hnd'⟩, hrb, ?_, hb⟩
  · refine own_kept hW ((Kept.refl [P] w').setCell (p := ⟨P, 0, none⟩) (.inl (by simp)) v') (fun y hy hx => ?_)
    simp at hx
    subst hx
    rw [ho] at hy
    exact hnd.1.1 (by simpa using hy)
  · refine (HR.q.kept hk (fun y hy hx => hnd.2.2.2 y hx y (by simpa using hy) rfl)).kept ((Kept.refl [P] w').setCell (p := ⟨P, 0, none⟩) (.inl (by simp)) v') (fun y hy hx => ?_)
    simp at hx
    subst hx
    exact hnd.1.2 (by simpa using hy)
  · exact (hk.mono (fun x hx => List.mem_cons_of_mem _ hx)).setCell (.inl (by simp)) _
--@@ (*lock.Table).Quit
set_option maxHeartbeats 4000000 in
set_option maxRecDepth 100000 in
theorem quit_any (A R M : Nat) (lim : Int) (rs : List (K4 × RR)) (ws : List (Int × K4)) (tx : Int) (w : World) (H : TabIs w A R M lim rs ws) (hl : (tabT lim rs ws).le 100000) :
    Calls Try.prog 20 #[.pointer (some ⟨A, 0, none⟩), .int .i64 tx] w fun e w' => ∃ rs' ws', e = .returned (.bool ((tabT lim rs ws).quit tx).1) ∧ TabIs w' A R M lim rs' ws' ∧ tabT lim rs' ws' = ((tabT lim rs ws).quit tx).2 ∧ Kept (tabBs A R M rs) w w' ∧ (∀ b ∈ tabBs A R M rs', b ∈ tabBs A R M rs ∨ w.heap.size ≤ b) := by
  obtain ⟨a0, a1, a2⟩ := H.cells
  have hA := H.lt A (by simp [tabBs])
  have hq : (tabT lim rs ws).quit tx = match aget tx ws with
      | none => (false, tabT lim rs ws)
      | some k => (true, (((tabT lim rs (adel tx ws)).need k).setRow k ⟨((tabT lim rs (adel tx ws)).row k).h, dropR ((tabT lim rs (adel tx ws)).row k).q tx⟩).on k) := rfl
  rw [hq]
  clear hq
  have hL := H.lookw tx
  cases hws : aget tx ws with
  | none =>
    rw [hws] at hL
    simp only [keyO, Option.getD_none, Option.isSome_none, K4.v, show (0 : UInt8).toNat = 0 from rfl, Int.natCast_zero] at hL
    have HT := hid H
    clear H
    dsimp only
    go_enter Try.func20, Try.ntmps20
    go_wp2_with fail
    go_returns
    exact ⟨rs, ws, rfl, HT.out.kept ((Kept.refl [] w).alloc _) (fun _ _ => by simp), rfl, (Kept.refl _ w).alloc _, fun b hb => .inl hb⟩
  | some k =>
    rw [hws] at hL
    simp only [keyO, Option.getD_some, Option.isSome_some] at hL
    dsimp only
    obtain ⟨r0, hr0⟩ : ∃ r0, r0 = (tabT lim rs (adel tx ws)).row k := ⟨_, rfl⟩
    have hln := Ta.le.row (k := k) (show (tabT lim rs (adel tx ws)).le 100000 from hl)
    have HRW := hid (fun W (H : TabIs W A R M lim rs (adel tx ws)) => row_any A R M lim rs (adel tx ws) k W H)
    simp only [← hr0] at HRW
    rw [← hr0] at hln ⊢
    obtain ⟨h0, l0⟩ := r0
    dsimp only at hln ⊢
    have HON := hid (fun W rs' (H : TabIs W A R M lim rs' (adel tx ws)) hl => tabOn_any A R M lim rs' (adel tx ws) k W H hl)
    have H1 := hid (H.kept ((Kept.refl [] w).alloc (.cells k.f.toArray 32)) (fun _ _ => by simp))
    have HLT := hid H.lt
    have HX := hid (fun S W (hk : Kept S (w.alloc (.cells k.f.toArray 32)) W) (hS : w.heap.size ∉ S) j u h => hk.cell (new_cell w k.f 32 j u h) hS)
    have HLE := hid hl
    have HKK := hid (rfl : k = k)
    obtain ⟨kk, hkk⟩ : ∃ kk, kk = k := ⟨_, rfl⟩
    have hne : w.heap.size ≠ A := by omega
    rw [← hkk] at HRW HON ⊢
    have HKV := hid (show kk.v = k.v by rw [hkk])
    clear hkk H hr0 HKK hl
    obtain ⟨k1, k2, k3, k4⟩ := k
    simp only [K4.f] at H1 HX
    rw [HKV.out] at HRW HON
    clear HKV
    simp only [K4.v] at hL HRW HON
    go_enter Try.func20, Try.ntmps20
    go_wp2_with (first
      | (at_delete; refine wpList_delete_is rfl _ _ 52 3 rfl 3 32 (KeyOK.int (k := .i64) Try.underlying3) Try.underlying52 rfl tx rfl H1.out.waits ?_; intro w2 hM2 hK2; refine Here.mk ?_))
    refine Here.of ?_
    rw [adel_map K4.v] at hM2
    have HT2 := hid (H1.out.setw hM2 (tdel_nodup _ _ H1.out.wn) hK2)
    have HK2 := hid (((Kept.refl [M] w).alloc (.cells #[.int .u8 (k1.toNat : Int), .int .u8 (k2.toNat : Int), .int .u8 (k3.toNat : Int), .int .u8 (k4.toNat : Int)] 32)).trans hK2 (fun x hx => .inl hx))
    have hq2 := HX.out [M] w2 hK2 (by simp; exact fun e => by have := HLT.out M (by simp [tabBs]); omega)
    have q0 := hq2 0 _ rfl
    have q1 := hq2 1 _ rfl
    have q2 := hq2 2 _ rfl
    have q3 := hq2 3 _ rfl
    have hs2 := hK2.size
    simp at hs2
    clear hM2 hK2 a0 a1 a2 hL
    go_wp2_with (go_at_call 30; refine Here.mk ?_)
    refine Here.of ?_
    refine (HRW.out w2 HT2.out).mono ?_
    rintro e w3 ⟨rs3, ⟨P, hv, qv, r3⟩, rfl, hT3, hg3, hn3, hr3, hk3, hb3⟩
    dsimp only at hr3
    subst hr3
    have HT3 := hid hT3
    have HG3 := hid hg3
    have HN3 := hid hn3
    have HR3 := hid (show RowIs w3 P hv qv ⟨h0, l0⟩ from hT3.at' hg3)
    obtain ⟨c0, c1, f0, f1⟩ := HR3.out.c0
    have HK3 := hid ((HK2.out.mono (T := tabBs A R M rs) (fun x hx => by simp at hx; subst hx; simp [tabBs])).trans hk3 (fun x hx => .inl (by simp at hx; subst hx; simp [tabBs])))
    have HB3 := hid (show ∀ b ∈ tabBs A R M rs3, b ∈ tabBs A R M rs ∨ w.heap.size ≤ b from fun b hb => (hb3 b hb).imp_right (fun h => by omega))
    have HNE3 := hid (show ∀ b ∈ tabBs A R M rs3, b ≠ w.heap.size from fun b hb e => (hb3 b hb).elim (fun h => by have := HLT.out b h; omega) (fun h => by omega))
    have HQ3 := hid (fun j u h => hk3.cell (hq2 j u h) (by simp; exact fun e => by have := HLT.out R (by simp [tabBs]); omega))
    clear q0 q1 q2 q3 hq2 hT3 hg3 hn3 hk3 hb3 hs2
    go_wp2_with (go_at_call 31; refine Here.mk ?_)
    refine Here.of ?_
    refine (drop_any qv l0 tx w3 HR3.out.q (by omega)).mono ?_
    rintro e w4 ⟨v', rfl, hdr⟩
    obtain ⟨va, vn, vc, hv'⟩ := Dropped.slice hdr
    subst hv'
    have HD := hid (dropq_end (P := P) (hv := hv) (tx := tx) HR3.out hdr)
    obtain ⟨d0, d1, g0, g1⟩ := two_cells HD.out.2.2.2
    have hq5 := fun j u h => HD.out.2.2.1.cell (HQ3.out j u h) (fun hx => HNE3.out _ (bs_tab HG3.out _ (by simp only [RR.bs, rowBs, List.mem_cons, List.mem_append] at hx ⊢; exact hx.elim (fun h => .inl h) (fun h => .inr (.inr h)))) rfl)
    have q0 := hq5 0 _ rfl
    have q1 := hq5 1 _ rfl
    have q2 := hq5 2 _ rfl
    have q3 := hq5 3 _ rfl
    clear hdr c0 c1 f0 f1 hq5
    go_wp2_with (go_at_call 32; refine Here.mk ?_)
    refine Here.of ?_
    have HRS := hid (row_end (rs := rs) (w := w) HT3.out HG3.out (Kept.refl [] w3) HD.out.1 (fun b hb => .inl (by rw [HD.out.2.1] at hb; exact hb)) HD.out.2.2.1 (fun b hb => by simp only [rowBs, List.mem_cons, List.mem_append] at hb ⊢; exact hb.elim (fun h => .inl h) (fun h => .inr (.inr h))) HB3.out HK3.out)
    have hle : Ta.le 100000 (((tabT lim rs (adel tx ws)).need kk).setRow kk ⟨h0, dropR l0 tx⟩) := by
      have := dropR_len l0 tx
      exact (Ta.le.need (t := tabT lim rs (adel tx ws)) HLE.out).setRow (by dsimp only; omega)
    have hE4 := HRS.out.2.1
    rw [HN3.out] at hE4
    rw [← hE4] at hle
    have HLE4 := hid hle
    clear hle hE4
    refine (HON.out _ _ HRS.out.1 (fun p hp => by have := le_tab.1 HLE4.out p hp; omega)).mono ?_
    rintro e w5 ⟨rfl, rs5, ws5, hT5, hE5, hK5, hB5⟩
    go_wp2_with fail
    go_returns
    have hsz := HRS.out.2.2.1.size
    refine ⟨rs5, ws5, rfl, hT5, ?_, HRS.out.2.2.1.trans hK5 (fun x hx => HRS.out.2.2.2 x hx), fun b hb => (hB5 b hb).elim (fun h => HRS.out.2.2.2 b h) (fun h => .inr (by omega))⟩
    rw [hE5, HRS.out.2.1, HN3.out]
--@@ end
end Go.Proofs.Ytiheoddlknbomaa
