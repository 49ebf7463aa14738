/- The table as plain data: its keys in order, who is late, who is there; sizes. No program text. -/
import Derived.Test.YtpfgpbafechncaaGreatLockAsk
import Derived.Test.YtpfgpbafechncaaGreatSel
import Derived.Test.YtpfgpbafechncaaGreatM1
import Derived.Test.YtpfgpbafechncaaGreatM4
import Derived.Test.YtpfgpbafechncaaGreatLay
import Derived.Shelf.SlSortCmp.NoneTotal
import Derived.Deep.DeepCutAuto
import Derived.Deep.CutBlock
import Derived.Test.YtpfgpbafechncaaGreatIter
import Derived.Sort.OwnSortedInts
import Derived.Deep.RegionHeld3
set_option linter.all false
namespace Go.Proofs.YtpfgpbafechncaaGreat
instance : Inhabited K4 := ⟨⟨0, 0, 0, 0⟩⟩
def sortK (l : List K4) : List K4 := l.mergeSort fun x y => decide (x.num ≤ y.num)
theorem sortK_perm (l : List K4) : (sortK l).Perm l := List.mergeSort_perm l _
theorem sortK_srt (l : List K4) : (sortK l).Pairwise fun x y => x.num ≤ y.num := by
  have := List.pairwise_mergeSort (le := fun x y : K4 => decide (x.num ≤ y.num)) (by simp; omega) (by simp; omega) l
  refine this.imp ?_
  intro a b h
  simpa using h
theorem sortK_eq {l m : List K4} (hp : m.Perm l) (hs : m.Pairwise fun x y => x.num ≤ y.num) : m = sortK l := by
  refine List.Perm.eq_of_pairwise (le := fun x y : K4 => x.num ≤ y.num) ?_ hs (sortK_srt l) (hp.trans (sortK_perm l).symm)
  intro a b _ _ h1 h2
  exact K4.num_inj (by omega)
def compN (l : List K4) : Nat → List K4
  | 0 => []
  | n + 1 => compN l n ++ (if n = 0 ∨ l[n]! ≠ l[n - 1]! then [l[n]!] else [])
def compK (l : List K4) : List K4 := compN l l.length
theorem compN_sub (l : List K4) : ∀ n, n ≤ l.length → ∀ x ∈ compN l n, x ∈ l
  | 0, _, x, h => by simp [compN] at h
  | n + 1, hn, x, h => by
    simp only [compN, List.mem_append] at h
    rcases h with h | h
    · exact compN_sub l n (by omega) x h
    · split at h
      · rw [List.mem_singleton] at h
        subst h
        rw [getElem!_pos l n (by omega)]
        exact List.getElem_mem _
      · simp at h
theorem compN_all (l : List K4) : ∀ n, n ≤ l.length → ∀ j, j < n → l[j]! ∈ compN l n
  | 0, _, j, h => by omega
  | n + 1, hn, j, h => by
    simp only [compN, List.mem_append]
    by_cases hj : j = n
    · subst hj
      by_cases hc : j = 0 ∨ l[j]! ≠ l[j - 1]!
      · rw [if_pos hc]; exact .inr (by simp)
      · have h1 : j ≠ 0 ∧ l[j]! = l[j - 1]! := by
          refine ⟨fun e => hc (.inl e), Decidable.byContradiction fun e => hc (.inr e)⟩
        rw [h1.2]
        exact .inl (compN_all l j (by omega) (j - 1) (by omega))
    · exact .inl (compN_all l n (by omega) j (by omega))
theorem mem_compK {l : List K4} {x : K4} : x ∈ compK l ↔ x ∈ l := by
  refine ⟨compN_sub l l.length (Nat.le_refl _) x, fun h => ?_⟩
  obtain ⟨j, hj, rfl⟩ := List.mem_iff_getElem.1 h
  have := compN_all l l.length (Nat.le_refl _) j hj
  rwa [getElem!_pos l j hj] at this
namespace Ta
def keysS (t : Ta) (p : Ro → Bool) : List K4 := sortK ((t.rows.filter fun x => p x.2).map (·.1))
def keysT (t : Ta) (tx : Int) : List K4 := t.keysS fun r => (heldAt r.h tx).isSome
def heldT (t : Ta) : List K4 := t.keysS fun r => decide (0 < r.h.length)
def ownT (t : Ta) (tx : Int) : List K4 := compK (sortK (t.keysT tx ++ (aget tx t.waits).toList))
def freeT (t : Ta) (tx : Int) : Ta := (t.ownT tx).foldl on ((t.ownT tx).foldl (drop1 tx) { t with waits := adel tx t.waits })
def le (n : Nat) (t : Ta) : Prop := ∀ p ∈ t.rows, p.2.h.length + p.2.q.length ≤ n
end Ta
section
variable {t : Ta} {n : Nat} {k : K4} {tx : Int}
theorem Ta.le.row (h : t.le n) : (t.row k).h.length + (t.row k).q.length ≤ n := by
  unfold Ta.row
  cases hg : aget k t.rows with
  | none => simp
  | some r => exact h _ (tget_mem hg)
theorem Ta.le.need (h : t.le n) : (t.need k).le n := by
  unfold Ta.need
  split
  · exact h
  · intro p hp
    simp only [List.mem_append, List.mem_singleton] at hp
    rcases hp with hp | rfl
    · exact h p hp
    · simp
theorem mem_aput' {α β : Type} [DecidableEq α] {k : α} {v : β} {p : α × β} : ∀ {l : List (α × β)}, p ∈ aput k v l → p = (k, v) ∨ p ∈ l
  | [], h => by simp [aput] at h; exact .inl h
  | q :: l, h => by
    simp only [aput] at h
    split at h
    · rcases List.mem_cons.1 h with h | h
      · exact .inl h
      · exact .inr (List.mem_cons_of_mem _ h)
    · rcases List.mem_cons.1 h with h | h
      · exact .inr (h ▸ List.mem_cons_self)
      · exact (mem_aput' h).imp_right (List.mem_cons_of_mem _)
theorem Ta.le.setRow {r : Ro} (h : t.le n) (hr : r.h.length + r.q.length ≤ n) : (t.setRow k r).le n := fun p hp => by
  rcases mem_aput' hp with rfl | hp
  · exact hr
  · exact h p hp
theorem Ta.le.mono {m : Nat} (h : t.le n) (hm : n ≤ m) : t.le m := fun p hp => Nat.le_trans (h p hp) hm
theorem Ta.le.on (h : t.le n) : (t.on k).le n := fun p hp => by
  have hr := h.row (k := k)
  have ht := onR_tot (t.row k).q (t.row k).h
  have h2 := (h.need (k := k)).setRow (k := k) (r := ⟨(onR (t.row k).h (t.row k).q).1, (onR (t.row k).h (t.row k).q).2⟩) (by dsimp only; omega)
  unfold Ta.on at hp
  dsimp only at hp
  split at hp
  · exact h2 p ((tdel_sub _ _).subset hp)
  · exact h2 p hp
theorem dropR_len (l : List Wi) (tx : Int) : (dropR l tx).length ≤ l.length := List.length_filter_le _ _
theorem Ta.le.waits {ws : List (Int × K4)} (h : t.le n) : Ta.le n { t with waits := ws } := h
theorem Ta.le.drop1 (h : t.le n) : (t.drop1 tx k).le n := by
  have hr := h.row (k := k)
  have h1 := dropR_len (t.row k).h tx
  have h2 := dropR_len (t.row k).q tx
  exact (h.need (k := k)).setRow (by dsimp only; omega)
theorem Ta.le.foldl_on (ks : List K4) : ∀ {t : Ta}, t.le n → (ks.foldl Ta.on t).le n := by
  induction ks with
  | nil => intro t h; exact h
  | cons x ks ih => intro t h; exact ih h.on
theorem Ta.le.foldl_drop (ks : List K4) : ∀ {t : Ta}, t.le n → (ks.foldl (Ta.drop1 tx) t).le n := by
  induction ks with
  | nil => intro t h; exact h
  | cons x ks ih => intro t h; exact ih h.drop1
theorem Ta.le.freeT (h : t.le n) : (t.freeT tx).le n := Ta.le.foldl_on _ (Ta.le.foldl_drop _ h.waits)
theorem Ta.le.quit (h : t.le n) : (t.quit tx).2.le n := by
  unfold Ta.quit
  cases aget tx t.waits with
  | none => exact h
  | some k =>
    dsimp only
    have hw : Ta.le n { t with waits := adel tx t.waits } := h
    have hr := hw.row (k := k)
    have h2 := dropR_len (Ta.row { t with waits := adel tx t.waits } k).q tx
    exact ((hw.need (k := k)).setRow (by dsimp only; omega)).on
theorem waitR_len (q : List Wi) (w : Wi) : (waitR q w).length = q.length + 1 := by
  have := waitAt_le q w
  unfold waitR
  simp
  omega
theorem Ta.le.ask (h : t.le n) (ex : Bool) (now : Int) : (t.ask tx k ex now).2.le (n + 1) := by
  have h1 := h.mono (Nat.le_succ n)
  have hr := h.row (k := k)
  unfold Ta.ask
  split
  · exact h1
  · dsimp only
    split
    · exact h1
    · split
      · split <;> exact h1
      · split
        · have := grantR_len (t.row k).h ⟨tx, ex, now, decide (t.holds tx k = 1)⟩
          exact (h1.need (k := k)).setRow (by dsimp only; omega)
        · have := waitR_len (t.row k).q ⟨tx, ex, now, decide (t.holds tx k = 1)⟩
          exact Ta.le.waits ((h1.need (k := k)).setRow (by dsimp only; omega))
end
theorem le_tab {lim : Int} {rs : List (K4 × RR)} {ws : List (Int × K4)} {n : Nat} : (tabT lim rs ws).le n ↔ ∀ p ∈ rs, p.2.r.h.length + p.2.r.q.length ≤ n := by
  unfold Ta.le tabT
  simp only [List.mem_map, forall_exists_index, and_imp]
  exact ⟨fun h p hp => h _ p hp rfl, fun h p q hq e => e ▸ h q hq⟩
end Go.Proofs.YtpfgpbafechncaaGreat
namespace Go.Proofs.YtpfgpbafechncaaGreat
open Go.RowKit Go.Shelf Go.Lib Go.Sort Go.Proofs
--@@ lock.drop
def Dropped (w w' : World) (v v' : Value) (l : List Wi) (tx : Int) : Prop := v'.ownBlock = v.ownBlock ∧ Kept v.ownBlock.toList w w' ∧
      ((v = .slice none 0 0 ∧ v' = .slice none 0 0 ∧ l = []) ∨ ∃ g off cap sz, v = .slice (some ⟨g, off, none⟩) l.length cap ∧ BlkW 129 w g off cap sz l ∧ v' = .slice (some ⟨g, off, none⟩) (dropR l tx).length cap ∧ BlkW 129 w' g off cap sz (dropR l tx))
theorem Dropped.slice {w w' : World} {v v' : Value} {l : List Wi} {tx : Int} (h : Dropped w w' v v' l tx) : ∃ a n c, v' = .slice a n c := by
  rcases h.2.2 with ⟨_, h2, _⟩ | ⟨g, off, cap, sz, _, _, h3, _⟩
  · exact ⟨_, _, _, h2⟩
  · exact ⟨_, _, _, h3⟩
theorem dropq_end {w w' : World} {P : Nat} {hv qv v' : Value} {r : Ro} {tx : Int} (HR : RowIs w P hv qv r) (hd : Dropped w w' qv v' r.q tx) :
    RowIs (w'.setCell ⟨P, 1, none⟩ v') P hv v' ⟨r.h, dropR r.q tx⟩ ∧ rowBs P hv v' = rowBs P hv qv ∧ Kept (P :: qv.ownBlock.toList) w (w'.setCell ⟨P, 1, none⟩ v') ∧ w'.heap[P]? = some (.cells #[hv, qv] 133 (0, 0)) := by
  obtain ⟨ho, hk, hd⟩ := hd
  have hnd := HR.nd
  have hnd' := hnd
  simp only [rowBs, List.nodup_cons, List.mem_append, not_or, List.nodup_append] at hnd
  have hPl := (Array.getElem?_eq_some_iff.1 HR.blk).1
  have hb : w'.heap[P]? = some (.cells #[hv, qv] 133 (0, 0)) := (hk.block P hPl hnd.1.2).trans HR.blk
  have hrb : rowBs P hv v' = rowBs P hv qv := by unfold rowBs; rw [ho]
  have hW : WRow 129 w' v' (dropR r.q tx) := by
    rcases hd with ⟨_, h2, h3⟩ | ⟨g, off, cap, sz, h1, h2, h3, h4⟩
    · rw [h3]; exact .inl ⟨h2, rfl⟩
    · exact .inr ⟨g, off, cap, sz, h3, h4⟩
  refine ⟨⟨setq hb _, ?_, ?_, by rw [hrb]; exact hnd'⟩, hrb, ?_, hb⟩
  · refine own_kept (own_kept HR.h hk (fun y hy hx => hnd.2.2.2 y (by simpa using hy) y hx rfl)) ((Kept.refl [P] w').setCell (p := ⟨P, 1, none⟩) (.inl (by simp)) v') (fun y hy hx => ?_)
    simp at hx
    subst hx
    exact hnd.1.1 (by simpa using hy)
  · refine hW.kept ((Kept.refl [P] w').setCell (p := ⟨P, 1, none⟩) (.inl (by simp)) v') (fun y hy hx => ?_)
    simp at hx
    subst hx
    rw [ho] at hy
    exact hnd.1.2 (by simpa using hy)
  · exact (hk.mono (fun x hx => List.mem_cons_of_mem _ hx)).setCell (.inl (by simp)) _
theorem droph_end {w w' : World} {P : Nat} {hv qv v' : Value} {r : Ro} {tx : Int} (HR : RowIs w P hv qv r) (hd : Dropped w w' hv v' r.h tx) :
    RowIs (w'.setCell ⟨P, 0, none⟩ v') P v' qv ⟨dropR r.h tx, r.q⟩ ∧ rowBs P v' qv = rowBs P hv qv ∧ Kept (P :: hv.ownBlock.toList) w (w'.setCell ⟨P, 0, none⟩ v') ∧ w'.heap[P]? = some (.cells #[hv, qv] 133 (0, 0)) := by
  obtain ⟨ho, hk, hd⟩ := hd
  have hnd := HR.nd
  have hnd' := hnd
  simp only [rowBs, List.nodup_cons, List.mem_append, not_or, List.nodup_append] at hnd
  have hPl := (Array.getElem?_eq_some_iff.1 HR.blk).1
  have hb : w'.heap[P]? = some (.cells #[hv, qv] 133 (0, 0)) := (hk.block P hPl hnd.1.1).trans HR.blk
  have hrb : rowBs P v' qv = rowBs P hv qv := by unfold rowBs; rw [ho]
  have hW : w'.ownsRow 0 129 4 v' (dropR r.h tx).length ((dropR r.h tx).flatMap Wi.f) := by
    rcases hd with ⟨_, h2, h3⟩ | ⟨g, off, cap, sz, h1, h2, h3, h4⟩
    · rw [h3, h2]; exact ⟨rfl, .inl ⟨rfl, rfl⟩⟩
    · have hh := HR.h
      rw [h1] at hh
      rw [h3]
      exact own_drop hh h2 rfl h4
  refine ⟨⟨set1 hb _, ?_, ?_, by rw [hrb]; exact hnd'⟩, hrb, ?_, hb⟩
  · refine own_kept hW ((Kept.refl [P] w').setCell (p := ⟨P, 0, none⟩) (.inl (by simp)) v') (fun y hy hx => ?_)
    simp at hx
    subst hx
    rw [ho] at hy
    exact hnd.1.1 (by simpa using hy)
  · refine (HR.q.kept hk (fun y hy hx => hnd.2.2.2 y hx y (by simpa using hy) rfl)).kept ((Kept.refl [P] w').setCell (p := ⟨P, 0, none⟩) (.inl (by simp)) v') (fun y hy hx => ?_)
    simp at hx
    subst hx
    exact hnd.1.2 (by simpa using hy)
  · exact (hk.mono (fun x hx => List.mem_cons_of_mem _ hx)).setCell (.inl (by simp)) _
--@@ (*lock.Table).Quit
set_option maxHeartbeats 4000000 in
set_option maxRecDepth 100000 in
theorem quit_any (A R M : Nat) (lim : Int) (rs : List (K4 × RR)) (ws : List (Int × K4)) (tx : Int) (w : World) (H : TabIs w A R M lim rs ws) (hl : (tabT lim rs ws).le 100000) :
    Calls Tryz.prog 59 #[.pointer (some ⟨A, 0, none⟩), .int .i64 tx] w fun e w' => ∃ rs' ws', e = .returned (.bool ((tabT lim rs ws).quit tx).1) ∧ TabIs w' A R M lim rs' ws' ∧ tabT lim rs' ws' = ((tabT lim rs ws).quit tx).2 ∧ Kept (tabBs A R M rs) w w' ∧ (∀ b ∈ tabBs A R M rs', b ∈ tabBs A R M rs ∨ w.heap.size ≤ b) := by
  obtain ⟨a0, a1, a2⟩ := H.cells
  have hA := H.lt A (by simp [tabBs])
  have hq : (tabT lim rs ws).quit tx = match aget tx ws with
      | none => (false, tabT lim rs ws)
      | some k => (true, (((tabT lim rs (adel tx ws)).need k).setRow k ⟨((tabT lim rs (adel tx ws)).row k).h, dropR ((tabT lim rs (adel tx ws)).row k).q tx⟩).on k) := rfl
  rw [hq]
  clear hq
  have hL := H.lookw tx
  cases hws : aget tx ws with
  | none =>
    rw [hws] at hL
    simp only [keyO, Option.getD_none, Option.isSome_none, K4.v, show (0 : UInt8).toNat = 0 from rfl, Int.natCast_zero] at hL
    have HT := hid H
    clear H
    dsimp only
    go_enter Tryz.func59, Tryz.ntmps59
    go_wp2_with fail
    go_returns
    exact ⟨rs, ws, rfl, HT.out.kept ((Kept.refl [] w).alloc _) (fun _ _ => by simp), rfl, (Kept.refl _ w).alloc _, fun b hb => .inl hb⟩
  | some k =>
    rw [hws] at hL
    simp only [keyO, Option.getD_some, Option.isSome_some] at hL
    dsimp only
    obtain ⟨r0, hr0⟩ : ∃ r0, r0 = (tabT lim rs (adel tx ws)).row k := ⟨_, rfl⟩
    have hln := Ta.le.row (k := k) (show (tabT lim rs (adel tx ws)).le 100000 from hl)
    have HRW := hid (fun W (H : TabIs W A R M lim rs (adel tx ws)) => row_any A R M lim rs (adel tx ws) k W H)
    simp only [← hr0] at HRW
    rw [← hr0] at hln ⊢
    obtain ⟨h0, l0⟩ := r0
    dsimp only at hln ⊢
    have HON := hid (fun W rs' (H : TabIs W A R M lim rs' (adel tx ws)) hl => tabOn_any A R M lim rs' (adel tx ws) k W H hl)
    have H1 := hid (H.kept ((Kept.refl [] w).alloc (.cells k.f.toArray 33)) (fun _ _ => by simp))
    have HLT := hid H.lt
    have HX := hid (fun S W (hk : Kept S (w.alloc (.cells k.f.toArray 33)) W) (hS : w.heap.size ∉ S) j u h => hk.cell (new_cell w k.f 33 j u h) hS)
    have HLE := hid hl
    have HKK := hid (rfl : k = k)
    obtain ⟨kk, hkk⟩ : ∃ kk, kk = k := ⟨_, rfl⟩
    have hne : w.heap.size ≠ A := by omega
    rw [← hkk] at HRW HON ⊢
    have HKV := hid (show kk.v = k.v by rw [hkk])
    clear hkk H hr0 HKK hl
    obtain ⟨k1, k2, k3, k4⟩ := k
    simp only [K4.f] at H1 HX
    rw [HKV.out] at HRW HON
    clear HKV
    simp only [K4.v] at hL HRW HON
    go_enter Tryz.func59, Tryz.ntmps59
    go_wp2_with (first
      | (at_delete; refine wpList_delete_is rfl _ _ 113 3 rfl 3 33 (KeyOK.int (k := .i64) Tryz.underlying3) Tryz.underlying113 rfl tx rfl H1.out.waits ?_; intro w2 hM2 hK2; refine Here.mk ?_))
    refine Here.of ?_
    rw [adel_map K4.v] at hM2
    have HT2 := hid (H1.out.setw hM2 (tdel_nodup _ _ H1.out.wn) hK2)
    have HK2 := hid (((Kept.refl [M] w).alloc (.cells #[.int .u8 (k1.toNat : Int), .int .u8 (k2.toNat : Int), .int .u8 (k3.toNat : Int), .int .u8 (k4.toNat : Int)] 33)).trans hK2 (fun x hx => .inl hx))
    have hq2 := HX.out [M] w2 hK2 (by simp; exact fun e => by have := HLT.out M (by simp [tabBs]); omega)
    have q0 := hq2 0 _ rfl
    have q1 := hq2 1 _ rfl
    have q2 := hq2 2 _ rfl
    have q3 := hq2 3 _ rfl
    have hs2 := hK2.size
    simp at hs2
    clear hM2 hK2 a0 a1 a2 hL
    go_wp2_with (go_at_call 69; refine Here.mk ?_)
    refine Here.of ?_
    refine (HRW.out w2 HT2.out).mono ?_
    rintro e w3 ⟨rs3, ⟨P, hv, qv, r3⟩, rfl, hT3, hg3, hn3, hr3, hk3, hb3⟩
    dsimp only at hr3
    subst hr3
    have HT3 := hid hT3
    have HG3 := hid hg3
    have HN3 := hid hn3
    have HR3 := hid (show RowIs w3 P hv qv ⟨h0, l0⟩ from hT3.at' hg3)
    obtain ⟨c0, c1, f0, f1⟩ := HR3.out.c0
    have HK3 := hid ((HK2.out.mono (T := tabBs A R M rs) (fun x hx => by simp at hx; subst hx; simp [tabBs])).trans hk3 (fun x hx => .inl (by simp at hx; subst hx; simp [tabBs])))
    have HB3 := hid (show ∀ b ∈ tabBs A R M rs3, b ∈ tabBs A R M rs ∨ w.heap.size ≤ b from fun b hb => (hb3 b hb).imp_right (fun h => by omega))
    have HNE3 := hid (show ∀ b ∈ tabBs A R M rs3, b ≠ w.heap.size from fun b hb e => (hb3 b hb).elim (fun h => by have := HLT.out b h; omega) (fun h => by omega))
    have HQ3 := hid (fun j u h => hk3.cell (hq2 j u h) (by simp; exact fun e => by have := HLT.out R (by simp [tabBs]); omega))
    clear q0 q1 q2 q3 hq2 hT3 hg3 hn3 hk3 hb3 hs2
    go_wp2_with (go_at_call 92; refine Here.mk ?_)
    refine Here.of ?_
    refine (drop_any qv l0 tx w3 HR3.out.q (by omega)).mono ?_
    rintro e w4 ⟨v', rfl, hdr⟩
    obtain ⟨va, vn, vc, hv'⟩ := Dropped.slice hdr
    subst hv'
    have HD := hid (dropq_end (P := P) (hv := hv) (tx := tx) HR3.out hdr)
    obtain ⟨d0, d1, g0, g1⟩ := two_cells HD.out.2.2.2
    have hq5 := fun j u h => HD.out.2.2.1.cell (HQ3.out j u h) (fun hx => HNE3.out _ (bs_tab HG3.out _ (by simp only [RR.bs, rowBs, List.mem_cons, List.mem_append] at hx ⊢; exact hx.elim (fun h => .inl h) (fun h => .inr (.inr h)))) rfl)
    have q0 := hq5 0 _ rfl
    have q1 := hq5 1 _ rfl
    have q2 := hq5 2 _ rfl
    have q3 := hq5 3 _ rfl
    clear hdr c0 c1 f0 f1 hq5
    go_wp2_with (go_at_call 93; refine Here.mk ?_)
    refine Here.of ?_
    have HRS := hid (row_end (rs := rs) (w := w) HT3.out HG3.out (Kept.refl [] w3) HD.out.1 (fun b hb => .inl (by rw [HD.out.2.1] at hb; exact hb)) HD.out.2.2.1 (fun b hb => by simp only [rowBs, List.mem_cons, List.mem_append] at hb ⊢; exact hb.elim (fun h => .inl h) (fun h => .inr (.inr h))) HB3.out HK3.out)
    have hle : Ta.le 100000 (((tabT lim rs (adel tx ws)).need kk).setRow kk ⟨h0, dropR l0 tx⟩) := by
      have := dropR_len l0 tx
      exact (Ta.le.need (t := tabT lim rs (adel tx ws)) HLE.out).setRow (by dsimp only; omega)
    have hE4 := HRS.out.2.1
    rw [HN3.out] at hE4
    rw [← hE4] at hle
    have HLE4 := hid hle
    clear hle hE4
    refine (HON.out _ _ HRS.out.1 (fun p hp => by have := le_tab.1 HLE4.out p hp; omega)).mono ?_
    rintro e w5 ⟨rfl, rs5, ws5, hT5, hE5, hK5, hB5⟩
    go_wp2_with fail
    go_returns
    have hsz := HRS.out.2.2.1.size
    refine ⟨rs5, ws5, rfl, hT5, ?_, HRS.out.2.2.1.trans hK5 (fun x hx => HRS.out.2.2.2 x hx), fun b hb => (hB5 b hb).elim (fun h => HRS.out.2.2.2 b h) (fun h => .inr (by omega))⟩
    rw [hE5, HRS.out.2.1, HN3.out]
--@@ end
--@@ slices.Compact
set_option maxHeartbeats 8000000 in
set_option maxRecDepth 1000000 in
theorem kcomp_gen 
    (k : Nat) (aE : ∀ w, (isAgg 33).run Tryz.prog w = .ok true w) (zE : ∀ w, (Go.sizeOf 33).run Tryz.prog w = .ok k w) {α : Type} [Inhabited α] (enc : α → List Value) (zr : α) (vE : ∀ w, (zeroValue 33).run Tryz.prog w = .ok (.agg (enc zr).toArray) w)
    (eq : α → α → Bool) (blk off cap : Nat) (d0 d : Array α) (w0 w : World)
    (heq : ∀ (x y : α) (w : World), Sem.run Tryz.prog (binOp .eql 33 (.agg (enc x).toArray) (.agg (enc y).toArray)) w = .ok (.bool (eq x y)) w) (hne : ∀ (x y : α) (w : World), Sem.run Tryz.prog (binOp .neq 33 (.agg (enc x).toArray) (.agg (enc y).toArray)) w = .ok (.bool (!eq x y)) w)
    (hgd : ∀ (op : BinOp) (a b : Operand) (x y : α) (w : World), Sem.run Tryz.prog (eqGuard op 33 a b (.agg (enc x).toArray) (.agg (enc y).toArray)) w = .ok () w)
    (R : RowK enc k w0 blk off d0) (hs : d0.size = d.size) (S : SWK enc k w0 blk off d w) (hsz : d.size < 1000000000000) (hcap : d.size ≤ cap) (keep : Nat → Bool) (hkeep : keep = fun j => j == 0 || !eq d[j]! d[j - 1]!) :
    Calls Tryz.prog 108 #[.slice (some ⟨blk, off, none⟩) d.size cap] w fun e w' => ∃ (d' : Array α) (n : Nat), e = .returned (.slice (some ⟨blk, off, none⟩) n cap) ∧ LaidAt d' n (selN keep d d.size) ∧ n ≤ d.size ∧ d'.size = d.size ∧ SWK enc k w0 blk off d' w' := by
  have S0 : Aside (SWK enc k w0 blk off d w) := S
  have KP : Aside (keep = fun j => j == 0 || !eq d[j]! d[j - 1]!) := hkeep
  clear S hkeep
  have HEQ : Aside _ := heq
  have HNE : Aside _ := hne
  clear heq hne
  by_cases hl : d.size < 2
  · have hlz : (d.size : Int) < 2 := by omega
    go_enter Tryz.func108, Tryz.ntmps108
    go_wp2
    go_returns
    exact ⟨d, d.size, rfl, selN_all (Nat.le_refl _) fun j hj => by rw [KP.out, show j = 0 by omega]; rfl, Nat.le_refl _, rfl, S0.out⟩
  · have hlz : (2 : Int) ≤ (d.size : Int) := by omega
    go_enter Tryz.func108, Tryz.ntmps108
    go_wp2
    go_loopg [3] d.size (fun kx s5 wr => ∃ i : Nat, s5 = .int .i64 i ∧ 1 ≤ i ∧ i ≤ d.size ∧ d.size - i ≤ kx ∧ Aside (SWK enc k w0 blk off d wr) ∧ Aside (∀ j, j < i → keep j = true))
    case atStart => exact ⟨1, by first | rfl | go_num, by omega, by omega, by omega, S0, by show ∀ j, j < 1 → keep j = true; intro j hj; rw [KP.out, show j = 0 by omega]; rfl⟩
    case round =>
      clear S0
      obtain ⟨i, rfl, hi1, his, hkx, S1, HK⟩ := hrel
      by_cases hlt : i < d.size
      · have hltz : (i : Int) < (d.size : Int) := by omega
        obtain ⟨i1, hi1e⟩ : ∃ q : Nat, q = i - 1 := ⟨_, rfl⟩
        have hi1z : (i : Int) - 1 = (i1 : Int) := by omega
        have hi1s : i1 < d.size := by omega
        have hi1t : i1 + 1 ≤ i ∧ i ≤ i1 + 1 := by omega
        have HI1 : Aside (i1 = i - 1) := hi1e
        clear hi1e
        have eX : ((i : Int)).toNat = i := by omega
        have pX : (0 : Int) ≤ (i : Int) := by omega
        have bX : (i : Int) < (d.size : Int) := by omega
        have rX : IntKind.i64.wrap (i : Int) = (i : Int) := by rw [IntKind.wrap_i64]; omega
        have eY : ((i1 : Int)).toNat = i1 := by omega
        have pY : (0 : Int) ≤ (i1 : Int) := by omega
        have bY : (i1 : Int) < (d.size : Int) := by omega
        have rY : IntKind.i64.wrap (i1 : Int) = (i1 : Int) := by rw [IntKind.wrap_i64]; omega
        obtain ⟨x, hx⟩ : ∃ x, x = d[i]! := ⟨_, rfl⟩
        obtain ⟨y, hy⟩ : ∃ x, x = d[i1]! := ⟨_, rfl⟩
        have la := fun (n : Nat) => (S1.out.drewN n).load R (by omega) Tryz.prog i (by omega)
        have lb := fun (n : Nat) => (S1.out.drewN n).load R (by omega) Tryz.prog i1 (by omega)
        rw [← hx] at la
        rw [← hy] at lb
        have hev := HEQ.out x y
        have hnv := HNE.out x y
        have hgv := hgd
        generalize hv : eq x y = ev at hev hnv
        cases ev with
        | false =>
          have HLV : Aside (keep i = true) := by show keep i = true; rw [KP.out]; simp only []; rw [← HI1.out, ← hx, ← hy, hv]; simp
          clear hx hy
          go_wp2_with fail
          go_quiet (fail)
          have S2 : Aside (SWK enc k w0 blk off d (wr.drewN nq)) := S1.out.drewN nq
          clear la lb hev hnv S1
          generalize wr.drewN nq = w2 at S2 ⊢
          clear nq
          go_wp2
          go_roundg (d.size - (i + 1))
          case measure => omega
          case rel => exact ⟨i + 1, by first | rfl | go_num, by omega, by omega, Nat.le_refl _, S2, by
            show ∀ j, j < i + 1 → keep j = true
            intro j hj
            by_cases c : j = i
            · rw [c]; exact HLV.out
            · exact HK.out j (by omega)⟩
        | true =>
          have HLV : Aside (keep i = false) := by show keep i = false; rw [KP.out]; simp only []; rw [← HI1.out, ← hx, ← hy, hv]; have : (i == 0) = false := by simp; omega
                                                  simp [this]
          clear hx hy
          go_wp2_with fail
          go_quiet (fail)
          have S2 : Aside (SWK enc k w0 blk off d (wr.drewN nq)) := S1.out.drewN nq
          clear la lb hev hnv S1
          generalize wr.drewN nq = w2 at S2 ⊢
          clear nq
          have hcapz : (d.size : Int) ≤ (cap : Int) := by omega
          go_wp2
          obtain ⟨m, hm⟩ : ∃ m : Nat, m = d.size - i := ⟨_, rfl⟩
          obtain ⟨c2, hc2⟩ : ∃ m : Nat, m = cap - i := ⟨_, rfl⟩
          rw [← hm, ← hc2]
          have hmi : m + i ≤ d.size ∧ d.size ≤ m + i := by omega
          clear hm hc2
          go_loopg [3, 5] d.size (fun kx s5 s7 wr => ∃ (i2 j : Nat) (dk : Array α), s5 = .int .i64 i2 ∧ s7 = .int .i64 j ∧ 1 ≤ j ∧ j ≤ m ∧ i2 < i + j ∧ m - j ≤ kx ∧ dk.size = d.size ∧ Aside (SWK enc k w0 blk off dk wr) ∧ Aside (LaidAt dk i2 (selN keep d (i + j))) ∧ Aside (∀ x, i + j ≤ x + 1 → dk[x]! = d[x]!))
          case atStart => exact ⟨i, 1, d, rfl, by first | rfl | go_num, by omega, by omega, by omega, by omega, rfl, S2, by show LaidAt _ _ _; rw [selN_skip HLV.out]; exact selN_all (by omega) HK.out, fun x hx => rfl⟩
          case round =>
            clear S2 HK HLV
            obtain ⟨i2, j, dk, rfl, rfl, hj1, hjm, hi2, hkx2, hds, S3, HL, HE⟩ := hrel
            by_cases hlt2 : j < m
            · have hltz2 : (j : Int) < (m : Int) := by omega
              obtain ⟨j1, hj1e⟩ : ∃ q : Nat, q = j - 1 := ⟨_, rfl⟩
              have hj1z : (j : Int) - 1 = (j1 : Int) := by omega
              have hj1t : j1 + 1 ≤ j ∧ j ≤ j1 + 1 := by omega
              clear hj1e
              obtain ⟨u, hu⟩ : ∃ q : Nat, q = i + j := ⟨_, rfl⟩
              obtain ⟨u1, hu1⟩ : ∃ q : Nat, q = i + j1 := ⟨_, rfl⟩
              have hus : u < d.size := by omega
              have hu1s : u1 < d.size := by omega
              have au : off + u * k = off + i * k + j * k := by rw [hu, Nat.add_mul, Nat.add_assoc]
              have au1 : off + u1 * k = off + i * k + j1 * k := by rw [hu1, Nat.add_mul, Nat.add_assoc]
              have huu : u1 = u - 1 := by omega
              have huz : u ≠ 0 := by omega
              have eA : ((j : Int)).toNat = j := by omega
              have pA : (0 : Int) ≤ (j : Int) := by omega
              have bA : (j : Int) < (m : Int) := by omega
              have rA : IntKind.i64.wrap (j : Int) = (j : Int) := by rw [IntKind.wrap_i64]; omega
              have eB : ((j1 : Int)).toNat = j1 := by omega
              have pB : (0 : Int) ≤ (j1 : Int) := by omega
              have bB : (j1 : Int) < (m : Int) := by omega
              have rB : IntKind.i64.wrap (j1 : Int) = (j1 : Int) := by rw [IntKind.wrap_i64]; omega
              have eC : ((i2 : Int)).toNat = i2 := by omega
              have pC : (0 : Int) ≤ (i2 : Int) := by omega
              have bC : (i2 : Int) < (d.size : Int) := by omega
              have rC : IntKind.i64.wrap (i2 : Int) = (i2 : Int) := by rw [IntKind.wrap_i64]; omega
              obtain ⟨x, hx⟩ : ∃ x, x = dk[u]! := ⟨_, rfl⟩
              obtain ⟨y, hy⟩ : ∃ x, x = dk[u1]! := ⟨_, rfl⟩
              have hxd : x = d[u]! := by rw [hx]; exact HE.out u (by omega)
              have hyd : y = d[u1]! := by rw [hy]; exact HE.out u1 (by omega)
              have la := fun (n : Nat) => (S3.out.drewN n).load R (by omega) Tryz.prog u (by omega)
              have lb := fun (n : Nat) => (S3.out.drewN n).load R (by omega) Tryz.prog u1 (by omega)
              rw [← hx, au] at la
              rw [← hy, au1] at lb
              have KU : keep u = !eq x y := by rw [KP.out, hxd, hyd, huu]; have : (u == 0) = false := by simpa using huz
                                               simp only [this, Bool.false_or]
              have HU : Aside (u = i + j) := hu
              have AU : Aside (off + u * k = off + i * k + j * k) := au
              have HX : Aside (x = dk[u]!) := hx
              have HXD : Aside (x = d[u]!) := hxd
              clear hy hyd hx hxd huu hu hu1 au au1
              have hev := HEQ.out x y
              have hnv := HNE.out x y
              have hgv := hgd
              generalize hv : eq x y = ev at hev hnv
              cases ev with
              | true =>
                rw [hv] at KU
                have HKU : Aside (keep u = false) := KU
                clear KU hv
                go_wp2_with fail
                go_quiet (fail)
                have S4 : Aside (SWK enc k w0 blk off dk (wr.drewN nq)) := S3.out.drewN nq
                clear la lb hev hnv S3
                generalize wr.drewN nq = w4 at S4 ⊢
                clear nq
                go_wp2
                go_roundg (m - (j + 1))
                case measure => omega
                case rel => exact ⟨i2, j + 1, dk, rfl, by first | rfl | go_num, by omega, by omega, by omega, Nat.le_refl _, hds, S4, by show LaidAt _ _ (selN keep d (i + (j + 1))); rw [show i + (j + 1) = u + 1 by rw [HU.out]; rfl, selN_skip HKU.out, HU.out]; exact HL.out, fun x hx => HE.out x (by omega)⟩
              | false =>
                rw [hv] at KU
                have HKU : Aside (keep u = true) := KU
                clear KU hv
                go_wp2_with fail
                go_quiet (fail)
                have S4 : Aside (SWK enc k w0 blk off dk (wr.drewN nq)) := S3.out.drewN nq
                clear la lb hev hnv S3
                generalize wr.drewN nq = w4 at S4 ⊢
                clear nq
                have lc := S4.out.load R (by omega) Tryz.prog u (by omega)
                rw [← HX.out, AU.out] at lc
                have sc := swk_st S4.out R (by omega) Tryz.prog i2 (by omega) x
                have nx : (enc x).length = k := R.hk _
                have S5 : Aside (SWK enc k w0 blk off (dk.setIfInBounds i2 x) (w4.setCells blk (off + i2 * k) (enc x))) := swk_put S4.out R i2 x (by omega)
                clear S4
                go_wp2
                clear lc sc
                generalize w4.setCells blk (off + i2 * k) (enc x) = w5 at S5 ⊢
                go_roundg (m - (j + 1))
                case measure => omega
                case rel => exact ⟨i2 + 1, j + 1, dk.setIfInBounds i2 x, by first | rfl | go_num, by first | rfl | go_num, by omega, by omega, by omega, Nat.le_refl _, by simpa using hds, S5, by
                    show LaidAt _ _ (selN keep d (i + (j + 1)))
                    rw [show i + (j + 1) = u + 1 by rw [HU.out]; rfl, selN_take HKU.out, ← HXD.out, HU.out]
                    exact HL.out.snoc (by omega) x, by
                    show ∀ z, i + (j + 1) ≤ z + 1 → (dk.setIfInBounds i2 x)[z]! = d[z]!
                    intro z hz
                    rw [get_setIf _ _ _ (by omega), if_neg (by omega)]
                    exact HE.out z (by omega)⟩
            · obtain rfl : j = m := by omega
              have hltz2 : ¬ (j : Int) < (j : Int) := by omega
              obtain ⟨W', hcl, S5⟩ := swk_clear (P := Tryz.prog) S3.out R (by omega) Tryz.underlying53 (zr := zr) vE i2 (cap - i2) (by omega)
              rw [hds] at hcl
              have S6 : Aside (SWK enc k w0 blk off (zfill zr i2 dk) W') := S5
              clear S5
              have hi2s : (i2 : Int) ≤ (d.size : Int) := by omega
              have hi2c : (i2 : Int) ≤ (cap : Int) := by omega
              have eC : ((i2 : Int)).toNat = i2 := by omega
              have pC : (0 : Int) ≤ (i2 : Int) := by omega
              have bC : (i2 : Int) < (d.size : Int) := by omega
              have rC : IntKind.i64.wrap (i2 : Int) = (i2 : Int) := by rw [IntKind.wrap_i64]; omega
              go_wp2
              go_returns
              refine ⟨zfill zr i2 dk, i2, rfl, ?_, by omega, by rw [size_zfill _ _ _ (by omega)]; exact hds, S6.out⟩
              have := HL.out.zfill (by omega) zr
              rwa [show i + j = d.size by omega] at this
      · obtain rfl : i = d.size := by omega
        have hltz : ¬ (d.size : Int) < (d.size : Int) := by omega
        go_wp2
        go_returns
        exact ⟨d, d.size, rfl, selN_all (Nat.le_refl _) HK.out, Nat.le_refl _, rfl, S1.out⟩
--@@ end
theorem k4_len (x : K4) : (K4.f x).length = 4 := rfl
theorem k4_one (x : K4) : ∀ v ∈ K4.f x, v.oneCell' = true := fun v hv => by
  simp [K4.f] at hv
  rcases hv with rfl | rfl | rfl | rfl <;> rfl
theorem own_holdsK {w : World} {base n g cap : Nat} {e : TypeId} {l : List K4} (h : w.ownsRow base e 4 (.slice (some ⟨g, 0, none⟩) n cap) n (l.flatMap K4.f)) : HoldsK K4.f 4 w g 0 l.toArray := by
  refine holds_of_cells k4_len l.toArray (fun i hi j u hu => ?_) (fun j => h.frozenAt j)
  have hj : j < 4 := by have := (List.getElem?_eq_some_iff.1 hu).1; rwa [k4_len] at this
  have hi' : i < l.length := by simpa using hi
  have hb : i * 4 + j < l.length * 4 := by omega
  have hg := rowK_at (enc := K4.f) (k := 4) k4_len l (i * 4 + j) hb
  rw [show (i * 4 + j) / 4 = i by omega, show (i * 4 + j) % 4 = j by omega] at hg
  have e1 : l.toArray[i]! = l[i]! := by simp
  rw [e1] at hu
  have := h.cells (g := g) rfl (i * 4 + j) u (by rw [hg]; exact hu)
  rw [Addr.add_lit] at this
  rw [show 0 + i * 4 + j = 0 + (i * 4 + j) by omega]
  exact this
theorem own_swkK {w W : World} {base n g cap : Nat} {e : TypeId} {ps : List K4} (h : w.ownsRow base e 4 (.slice (some ⟨g, 0, none⟩) n cap) n (ps.flatMap K4.f)) (hn : n = ps.length) {d' : Array K4} (S : SWK K4.f 4 w g 0 d' W) (hd : d'.size = n)
    (l' : List K4) (hl : l'.length ≤ d'.size) (he : ∀ x, x < l'.length → d'[x]! = l'[x]!) : W.ownsRow base e 4 (.slice (some ⟨g, 0, none⟩) l'.length cap) l'.length (l'.flatMap K4.f) := by
  have hH0 := own_holdsK h
  rcases h.2 with ⟨hv, _⟩ | ⟨g', cap', cur, hv, hb, hg, hle, hm, hs, ht⟩
  · cases hv
  · cases hv
    have hgl := (Array.getElem?_eq_some_iff.1 hg).1
    obtain ⟨cur', c1, c2⟩ := swk_block S hg
    have hH := S.holds hgl hH0 (by simp [hd, hn])
    have hslt := holdsK_slAt k4_len hH (S.lt hgl) l' cap hl he (by unfold maxLen at hm; omega)
    refine ⟨rowK_len k4_len l', .inr ⟨g, cap, cur', rfl, hb, c1, by omega, hm, by rw [c2, hs], ?_⟩⟩
    refine List.ext_getElem? fun j => ?_
    rw [List.getElem?_take]
    split
    · rename_i hj
      have hlt : j < (l'.flatMap K4.f).length := by rw [rowK_len k4_len]; exact hj
      obtain ⟨a, c, ha, _, _, hc⟩ := hslt.ex
      obtain ⟨b, o, hb2, _, hcs⟩ := hc (by omega)
      cases ha
      cases hb2
      have := hcs j _ (List.getElem?_eq_getElem hlt)
      rw [cell_of_row W g _ cur' e (0, 0) c1, Nat.zero_add] at this
      rw [List.getElem?_eq_getElem hlt, Array.getElem?_toList]
      exact this
    · rename_i hj
      rw [List.getElem?_eq_none (by rw [rowK_len k4_len]; omega)]
--@@ bytes.Compare
theorem u8_bytesL (l : List UInt8) : Lib.bytesOf (l.map fun b => (b.toNat : Int)) = l := by
  induction l with
  | nil => rfl
  | cons x l ih => simp only [List.map_cons, Lib.bytesOf] at ih ⊢; rw [ih]; simp
theorem K4.get_fL (x : K4) (j : Nat) (n : Int) (h : (x.bs.map fun b => (b.toNat : Int))[j]? = some n) : x.f[j]? = some (.int .u8 n) := by
  have e : x.f = (x.bs.map fun b => (b.toNat : Int)).map (Value.int .u8) := rfl
  rw [e, List.getElem?_map, h]; rfl
theorem run_bytesKL {P : Program} (a : Addr) (x : K4) (w : World) (c : Nat) (hx : ∀ (j : Nat) (u : Value), x.f[j]? = some u → w.cell? (a.add j) = some u) :
    (Extern.Bytes.bytesOf (.slice (some a) 4 c)).run P w = .ok ⟨x.bs.toArray⟩ w := by
  have := Lib.run_loadBytesX (P := P) w (x.bs.map fun b => (b.toNat : Int)) a .empty (fun j n hj => hx j _ (K4.get_fL x j n hj))
  have hl : (x.bs.map fun b => (b.toNat : Int)).length = 4 := rfl
  rw [hl, u8_bytesL] at this
  simp only [Extern.Bytes.bytesOf]
  rw [this]
  rfl
set_option maxRecDepth 100000 in
set_option maxHeartbeats 1000000 in
theorem bcompareL_any (a b : Addr) (x y : K4) (w : World) (c c' : Nat) (hx : ∀ (j : Nat) (u : Value), x.f[j]? = some u → w.cell? (a.add j) = some u) (hy : ∀ (j : Nat) (u : Value), y.f[j]? = some u → w.cell? (b.add j) = some u) :
    Calls Tryz.prog 86 #[.slice (some a) 4 c, .slice (some b) 4 c'] w fun e w' => e = .returned (.int .i64 (ordK x y)) ∧ w' = w := by
  have hX := run_bytesKL (P := Tryz.prog) a x w c hx
  have hY := run_bytesKL (P := Tryz.prog) b y w c' hy
  clear hx hy
  have hrun : (Extern.BytealgCompare.compare #[.slice (some a) 4 c, .slice (some b) 4 c']).run Tryz.prog w = .ok (.int .i64 (ordK x y)) w := by
    change Sem.run Tryz.prog (do pure (goInt (Extern.BytealgCompare.cmp (← Extern.Bytes.bytesOf (.slice (some a) 4 c)) (← Extern.Bytes.bytesOf (.slice (some b) 4 c'))))) w = _
    simp only [Sem.run_bind, Sem.run_pure, hX, hY, Result.andThen]
    rw [Lib.cmp_eq]
    rfl
  have HR := hid hrun
  clear hrun hX hY
  go_enter Tryz.func86, Tryz.ntmps86
  go_wp2
  rw [run_callFunc_extern Tryz.func109 (by kernel_rfl) (by kernel_rfl) (by kernel_rfl) (e := Extern.BytealgCompare.compare) (by kernel_rfl), HR.out]
  simp only [Result.andThen]
  rw [Oper.upon_value]
  go_wp2
  go_ret
  exact ⟨rfl, rfl⟩
theorem key_atL {w : World} {b : Nat} {cs : List Value} {t : TypeId} (h : w.heap[b]? = some (.cells cs.toArray t (0, 0))) (x : K4) (hx : ∀ (j : Nat) (u : Value), x.f[j]? = some u → cs[j]? = some u) (n : Nat) :
    ∀ (j : Nat) (u : Value), x.f[j]? = some u → (w.drewN n).cell? ((⟨b, 0, none⟩ : Addr).add j) = some u := fun j u hj => by
  have hadd : (⟨b, 0, none⟩ : Addr).add j = ⟨b, j, none⟩ := by unfold Addr.add; split <;> simp_all
  have h' : (w.drewN n).heap[b]? = some (.cells cs.toArray t (0, 0)) := h
  rw [hadd, cell_of_row _ _ j cs.toArray t (0, 0) h']
  simpa using hx j u hj
--@@ lock.sort$1
set_option maxRecDepth 100000 in
set_option maxHeartbeats 1000000 in
theorem kord_any (x y : K4) (w : World) :
    Calls Tryz.prog 129 #[x.v, y.v] w fun e w' => e = .returned (.int .i64 (ordK x y)) ∧ ∃ q os, w' = Go.Sort.grow (w.drewN q) os := by
  have hX := hid (key_atL (w := (w.alloc (.cells x.f.toArray 33)).alloc (.cells y.f.toArray 33)) (b := w.heap.size) (by rw [Below.heap_alloc _ _ _ (by simp)]; exact heap_alloc_new w _) x (fun j u hj => hj))
  have hY := hid (key_atL (w := (w.alloc (.cells x.f.toArray 33)).alloc (.cells y.f.toArray 33)) (b := w.heap.size + 1) (by have := heap_alloc_new (w.alloc (.cells x.f.toArray 33)) (.cells y.f.toArray 33); simpa using this) y (fun j u hj => hj))
  obtain ⟨a1, a2, a3, a4⟩ := x
  obtain ⟨b1, b2, b3, b4⟩ := y
  simp only [K4.v, K4.f] at hX hY ⊢
  go_enter Tryz.func129, Tryz.ntmps129
  go_wp2_with fail
  go_quiet ((go_at_call 86; exact Calls.quiet_of_same (bcompareL_any _ _ ⟨a1, a2, a3, a4⟩ ⟨b1, b2, b3, b4⟩ _ _ _ (hX.out _) (hY.out _))))
  go_wp2
  go_ret
  exact ⟨rfl, _, _, by rw [Go.Sort.alloc_eq_grow, Go.Sort.alloc_eq_grow, Go.Sort.grow_grow]; rfl⟩
--@@ lock.sort
theorem cmpK (blk off size : Nat) (w : World) : CmpLays Tryz.prog 129 #[] K4.f 4 ordK blk off size w := fun m os dk hdk x y => kord_any x y _
theorem aggK : ∀ w, (isAgg 33).run Tryz.prog w = .ok true w := fun w => by kernel_rfl
theorem sizK : ∀ w, (Go.sizeOf 33).run Tryz.prog w = .ok 4 w := fun w => by kernel_rfl
theorem swoK : SWO (ltOf ordK) := by
  have e : ltOf ordK = fun x y : K4 => decide (x.num < y.num) := by
    funext x y; exact ordK_neg _ _
  rw [e]
  exact ⟨fun x => by simp, fun x y z h1 h2 => by simp only [decide_eq_true_eq] at *; omega, fun x y z h1 h2 => by simp only [decide_eq_false_iff_not] at *; omega⟩
theorem sortFuncK (v : Value) (base n : Nat) (ps : List K4) (w : World) (hown : w.ownsRow base 33 4 v n (ps.flatMap K4.f)) (hnl : n = ps.length) (hl : ps.length ≤ 100000) :
    Calls Tryz.prog 128 #[v, .func (.func 129) #[] #[]] w fun e w' => e = .returned (.tuple #[]) ∧ w'.ownsRow base 33 4 v n ((sortK ps).flatMap K4.f) ∧ Kept v.ownBlock.toList w w' := by
  have eO : ∀ args w, (callFunc 129 args).run Tryz.prog w = .ok (.enter 129 args) w := enters_of (Tryz.func129) (by kernel_rfl) rfl
  subst hnl
  rcases Nat.eq_zero_or_pos ps.length with h0 | hne
  · have hps : ps = [] := List.eq_nil_of_length_eq_zero h0
    subst hps
    obtain ⟨a, cap, rfl⟩ := ownsRow_slice hown
    refine (AnyF.slices_SortFunc_none Tryz.laySortKeys a cap _ w).mono ?_
    rintro e w' ⟨rfl, rfl⟩
    exact ⟨rfl, by rw [show sortK [] = [] by simp [sortK]]; exact hown, Kept.refl _ _⟩
  · have hH := hown
    rcases hown.2 with ⟨_, hz⟩ | ⟨g, cap, cur, rfl, hb, hg, hle, _⟩
    · omega
    · have hgl := (Array.getElem?_eq_some_iff.1 hg).1
      have := AnyQ.slices_SortFunc Tryz.laySortKeys 4 aggK sizK K4.f k4_len k4_one ordK swoK 129 #[] g 0 cap ps.toArray w eO (cmpK _ _ _ _) (own_holdsK hown) hgl (by simp; omega)
      refine (show Calls _ _ #[.slice (some ⟨g, 0, none⟩) ps.length cap, _] _ _ from this).mono ?_
      rintro e w' ⟨rfl, d', n, os, hP, hS, rfl⟩
      have hsz : d'.size = ps.length := by have := hP.1; simpa using this
      have S1 : SWK K4.f 4 w g 0 d' (sortWorldK K4.f 4 w g 0 n d' os) := ⟨n, os, rfl⟩
      have hperm : d'.toList.Perm ps := by
        have h1 := hP.2.2
        have e1 : d'.extract 0 ps.toArray.size = d' := by rw [show ps.toArray.size = d'.size by simp [hsz]]; simp
        have e2 : ps.toArray.extract 0 ps.toArray.size = ps.toArray := by simp
        rw [e1, e2] at h1
        simpa using h1
      have hkeys : d'.toList = sortK ps := sortK_eq hperm (by
        rw [List.pairwise_iff_getElem]
        intro i j hi hj hij
        have := hS i j (Nat.zero_le _) hij (by simpa [hsz] using hj)
        rw [getElem!_pos d' i (by simpa using hi), getElem!_pos d' j (by simpa using hj)] at this
        have h2 : ¬ (d'[j]'(by simpa using hj)).num < (d'[i]'(by simpa using hi)).num := fun h => by
          have e := ordK_neg (d'[j]'(by simpa using hj)) (d'[i]'(by simpa using hi))
          rw [decide_eq_true h] at e
          unfold ltOf at this
          rw [e] at this; cases this
        simpa using h2)
      have hr := own_swkK hown rfl S1 hsz d'.toList (by simp) (fun x hx => by rw [getElem!_pos d' x (by simpa using hx), getElem!_pos d'.toList x hx]; simp)
      rw [hkeys] at hr
      have hlen : (sortK ps).length = ps.length := (sortK_perm ps).length_eq
      rw [hlen] at hr
      exact ⟨rfl, hr, swk_kept S1⟩
set_option maxRecDepth 100000 in
set_option maxHeartbeats 1000000 in
theorem lsort_any (v : Value) (base n : Nat) (ps : List K4) (w : World) (hown : w.ownsRow base 33 4 v n (ps.flatMap K4.f)) (hnl : n = ps.length) (hl : ps.length ≤ 100000) :
    Calls Tryz.prog 104 #[v] w fun e w' => e = .returned (.tuple #[]) ∧ w'.ownsRow base 33 4 v n ((sortK ps).flatMap K4.f) ∧ Kept v.ownBlock.toList w w' := by
  have HF := hid (sortFuncK v base n ps w hown hnl hl)
  clear hown hnl hl
  go_enter Tryz.func104, Tryz.ntmps104
  go_wp2_with (go_at_call 128; refine HF.out.mono ?_; rintro e w' ⟨rfl, h⟩)
  go_end0
  exact ⟨rfl, h⟩
--@@ slices.Compact
theorem laid_comp (d : Array K4) (l : List K4) (hd : d = l.toArray) : ∀ n, n ≤ l.length → selN (fun j => j == 0 || !decide (d[j]! = d[j - 1]!)) d n = compN l n
  | 0, _ => rfl
  | n + 1, h => by
    have ih := laid_comp d l hd n (by omega)
    subst hd
    have e : ∀ j, l.toArray[j]! = l[j]! := fun j => by first | rfl | rw [List.getElem!_toArray]
    show selN _ _ n ++ (if (n == 0 || !decide (l.toArray[n]! = l.toArray[n - 1]!)) = true then [l.toArray[n]!] else []) = compN l n ++ (if n = 0 ∨ l[n]! ≠ l[n - 1]! then [l[n]!] else [])
    rw [ih, e n, e (n - 1)]
    congr 1
    generalize l[n]! = a
    generalize l[n - 1]! = b
    by_cases h0 : n = 0
    · simp [h0]
    · by_cases h1 : a = b
      · simp [h0, h1]
      · simp [h0, h1]
theorem compN_len (l : List K4) : ∀ n, (compN l n).length ≤ n
  | 0 => by simp [compN]
  | n + 1 => by
    have := compN_len l n
    simp only [compN, List.length_append]
    split <;> simp <;> omega
set_option maxRecDepth 100000 in
set_option maxHeartbeats 1000000 in
set_option maxRecDepth 100000 in
theorem compactK_any (v : Value) (base n : Nat) (ps : List K4) (w : World) (hown : w.ownsRow base 33 4 v n (ps.flatMap K4.f)) (hnl : n = ps.length) (hl : ps.length ≤ 100000) :
    Calls Tryz.prog 108 #[v] w fun e w' => ∃ v', e = .returned v' ∧ w'.ownsRow base 33 4 v' (compK ps).length ((compK ps).flatMap K4.f) ∧ Kept v.ownBlock.toList w w' ∧ v'.ownBlock = v.ownBlock := by
  subst hnl
  rcases hown.2 with ⟨rfl, hz⟩ | ⟨g, cap, cur, rfl, hb, hg, hle, hm, _⟩
  · have hps : ps = [] := List.eq_nil_of_length_eq_zero hz
    subst hps
    have HO := hid hown
    clear hown hz hl
    go_enter Tryz.func108, Tryz.ntmps108
    go_wp2
    go_returns
    exact ⟨_, rfl, HO.out, Kept.refl _ _, rfl⟩
  · have hgl := (Array.getElem?_eq_some_iff.1 hg).1
    have hH := own_holdsK hown
    have := kcomp_gen 4 aggK sizK K4.f ⟨0, 0, 0, 0⟩ (fun w => by kernel_rfl) (fun x y => decide (x = y)) g 0 cap ps.toArray ps.toArray w w (fun x y w => eqK w x y) (fun x y w => neK w x y) (fun op a b x y w => run_eqGuard_agg w op _ a b _ _ (by kernel_rfl)) ⟨k4_len, k4_one, hH, hgl⟩ rfl (SWK.start hH) (by simp; omega) (by simp; omega) _ rfl
    refine (show Calls _ _ #[.slice (some ⟨g, 0, none⟩) ps.length cap] _ _ from this).mono ?_
    rintro e w' ⟨d', n, rfl, hL, hn, hd, S1⟩
    rw [show ps.toArray.size = ps.length by simp] at hL hn hd
    rw [laid_comp _ ps rfl _ (Nat.le_refl _)] at hL
    have hl2 : (compK ps).length = n := hL.1
    have hr := own_swkK hown rfl S1 hd (compK ps) (by omega) (fun x hx => hL.2 x (by omega))
    rw [hl2] at hr
    exact ⟨_, rfl, by rw [hl2]; exact hr, swk_kept S1, rfl⟩
--@@ end
theorem perm_of_mapL {α β : Type} (f : α → β) : ∀ {a b : List β}, a.Perm b → ∀ t : List α, b = t.map f → ∃ t' : List α, t'.Perm t ∧ a = t'.map f := fun h => by
  induction h with
  | nil => intro t ht; exact ⟨[], by cases t with | nil => exact List.Perm.refl _ | cons x t => simp at ht, rfl⟩
  | cons x _ ih =>
    intro t ht
    cases t with
    | nil => simp at ht
    | cons y t =>
      simp only [List.map_cons, List.cons.injEq] at ht
      obtain ⟨t', h1, h2⟩ := ih t ht.2
      exact ⟨y :: t', h1.cons y, by rw [ht.1, h2]; rfl⟩
  | swap x y l =>
    intro t ht
    cases t with
    | nil => simp at ht
    | cons u t =>
      cases t with
      | nil => simp at ht
      | cons z t =>
        simp only [List.map_cons, List.cons.injEq] at ht
        exact ⟨z :: u :: t, List.Perm.swap _ _ _, by rw [ht.1, ht.2.1, ht.2.2]; rfl⟩
  | trans _ _ ih1 ih2 =>
    intro t ht
    obtain ⟨t2, h1, h2⟩ := ih2 t ht
    obtain ⟨t1, h3, h4⟩ := ih1 t2 h2
    exact ⟨t1, h3.trans h1, h4⟩
theorem ownsRow_grownL {w w' : World} {base n size : Nat} {e : TypeId} {v : Value} {xs : List Value} (h : w.ownsRow base e size v n xs) (hg : w.grownBy w' v.ownBlock) : ∃ S, Kept S w w' ∧ ∀ x, x ∈ S → base ≤ x :=
  ⟨v.ownBlock.toList, Kept.of_grown hg _ (fun k hk => by simp [hk]), fun x hx => (h.lt x (by simpa using hx)).1⟩
theorem own_below {S : List Nat} {w w' : World} {base n size : Nat} {e : TypeId} {v : Value} {xs : List Value} (h : w.ownsRow base e size v n xs) (hk : Kept S w w') (hS : ∀ x, x ∈ S → x < base) : w'.ownsRow base e size v n xs :=
  own_kept h hk fun x hx hm => by have := (h.lt x hx).1; have := hS x hm; omega
def rowsL (rs : List (K4 × RR)) : List (K4 × Value) := rs.map fun p => (p.1, Value.pointer (some ⟨p.2.P, 0, none⟩))
theorem rows_perm {todo : List (K4 × RR)} {x : K4} {u : Value} {T : List (K4 × Value)} (h : (rowsL todo).Perm ((x, u) :: T)) : ∃ rr t', u = Value.pointer (some ⟨rr.P, 0, none⟩) ∧ T = rowsL t' ∧ todo.Perm ((x, rr) :: t') := by
  obtain ⟨t', h1, h2⟩ := perm_of_mapL (fun p : K4 × RR => (p.1, Value.pointer (some ⟨p.2.P, 0, none⟩))) h.symm todo rfl
  cases t' with
  | nil => cases h2
  | cons y t' =>
    simp only [List.map_cons, List.cons.injEq, Prod.mk.injEq] at h2
    obtain ⟨⟨rfl, rfl⟩, rfl⟩ := h2
    exact ⟨y.2, t', rfl, rfl, h1.symm⟩
def keyed (p : Ro → Bool) (l : List (K4 × RR)) : List K4 := (l.filter fun x => p x.2.r).map (·.1)
theorem keyed_snoc (p : Ro → Bool) (l : List (K4 × RR)) (k : K4) (rr : RR) : keyed p (l ++ [(k, rr)]) = keyed p l ++ (if p rr.r = true then [k] else []) := by
  unfold keyed
  rw [List.filter_append, List.map_append]
  congr 1
  by_cases h : p rr.r = true <;> simp [h]
theorem keyed_perm (p : Ro → Bool) {l m : List (K4 × RR)} (h : l.Perm m) : (keyed p l).Perm (keyed p m) := (h.filter _).map _
theorem keyed_len (p : Ro → Bool) (l : List (K4 × RR)) : (keyed p l).length ≤ l.length := by
  unfold keyed
  rw [List.length_map]
  exact List.length_filter_le _ _
theorem keyed_tab (p : Ro → Bool) (lim : Int) (rs : List (K4 × RR)) (ws : List (Int × K4)) : (tabT lim rs ws).keysS p = sortK (keyed p rs) := by
  unfold Ta.keysS tabT keyed
  dsimp only
  rw [List.filter_map, List.map_map]
  rfl
theorem sortK_permeq {l m : List K4} (h : l.Perm m) : sortK l = sortK m := sortK_eq ((sortK_perm l).trans h) (sortK_srt l)
--@@ (*lock.Table).keys
set_option maxHeartbeats 8000000 in
set_option maxRecDepth 100000 in
theorem keysW_any (A R M : Nat) (lim : Int) (rs : List (K4 × RR)) (ws : List (Int × K4)) (gf : Nat) (cb : Array Value) (p : Ro → Bool) (w : World) (H : TabIs w A R M lim rs ws) (hl : rs.length ≤ 100000)
    (eg : ∀ args w, (callFunc gf args).run Tryz.prog w = .ok (.enter gf args) w)
    (hp : ∀ W, Kept [] w W → ∀ x ∈ rs, Calls Tryz.prog gf (#[.pointer (some ⟨x.2.P, 0, none⟩)] ++ cb) W fun e w' => e = .returned (.bool (p x.2.r)) ∧ Kept [] W w') :
    Calls Tryz.prog 78 #[.pointer (some ⟨A, 0, none⟩), .func (.func gf) #[] cb] w fun e w' => ∃ v, e = .returned v ∧ w'.ownsRow w.heap.size 33 4 v ((tabT lim rs ws).keysS p).length (((tabT lim rs ws).keysS p).flatMap K4.f) ∧ Kept [] w w' := by
  obtain ⟨a0, a1, a2⟩ := H.cells
  have HM := hid H.rows
  have HP := hid hp
  have HF := hid (show (Tryz.prog.info? 33).map (fun i => (i.zero, i.size, i.bytes)) = some (some (.agg #[.int .u8 0, .int .u8 0, .int .u8 0, .int .u8 0]), 4, 4) by kernel_rfl)
  have hRw := H.rows.lt
  rw [keyed_tab]
  clear H hp
  go_enter Tryz.func78, Tryz.ntmps78
  go_wp2_with (first | (at_range; refine wpList_range_is rfl _ 112 rfl _ _ Tryz.underlying112 rfl HM.out ?_; intro w0 hR hk hsz0))
  go_frame
  have HR := hid (show RangeIs w0 R w.heap.size K4.v (rowsL rs) from hR)
  have HK := hid hk
  clear hR hk
  go_loopg [5] rs.length (fun kx s5 wr => ∃ (todo acc : List (K4 × RR)), Aside (wr.ownsRow w0.heap.size 33 4 s5 (keyed p acc).length ((keyed p acc).flatMap K4.f)) ∧ Aside ((acc ++ todo).Perm rs) ∧ Aside (RangeIs wr R w.heap.size K4.v (rowsL todo)) ∧ Aside (Kept [] w wr) ∧ todo.length ≤ kx ∧ w0.heap.size ≤ wr.heap.size)
  case atStart => exact ⟨rs, [], ⟨rfl, .inl ⟨rfl, rfl⟩⟩, List.Perm.refl _, HR.out, HK.out, Nat.le_refl _, Nat.le_refl _⟩
  case round =>
    clear HR HK
    obtain ⟨todo, acc, HO, HPM, HR, HK, hkx, hsz⟩ := hrel
    rename World => wo
    go_wp2_with (first
      | (at_next; refine wpList_next_is rfl _ rfl rfl HR.out ?_ ?_; (intro hd0); rotate_left; (intro x u T w1 hp hR1 hk1 hs1 hen; obtain ⟨rr, t', rfl, rfl, hp'⟩ := rows_perm hp; have HP' := hid hp'; have HR1 := hid hR1; have HK1 := hid hk1; clear hp hp' hR1 hk1; obtain ⟨k1, k2, k3, k4⟩ := x; simp only [K4.v] at hen ⊢))
      | (go_at_fn gf; refine Here.mk ?_)
      | (at_builtin; refine Here.mk ?_)
      | (go_at_call 104; refine Here.mk ?_))
    · refine Here.of ?_
      clear hen
      have HKW := hid ((HK.out.trans HK1.out (fun x hx => .inr (by simp at hx; omega))).alloc (.cells #[.int .u8 (k1.toNat : Int), .int .u8 (k2.toNat : Int), .int .u8 (k3.toNat : Int), .int .u8 (k4.toNat : Int)] 33))
      have hmem : ((⟨k1, k2, k3, k4⟩ : K4), rr) ∈ rs := HPM.out.subset (List.mem_append_right _ (HP'.out.symm.subset List.mem_cons_self))
      refine (HP.out _ HKW.out _ hmem).mono ?_
      clear hmem
      rintro e w2 ⟨rfl, hk2⟩
      dsimp only
      have HK2 := hid hk2
      have HR2 := hid ((HR1.out.kept ((Kept.refl [] w1).alloc _) (by simp) (by simp)).kept hk2 (by simp) (by simp))
      have HKW2 := hid (HKW.out.trans hk2 (fun x hx => by cases hx))
      have HO2 := hid (own_below (own_below (own_below HO.out HK1.out (fun x hx => by simp at hx; omega)) ((Kept.refl [] w1).alloc (.cells #[.int .u8 (k1.toNat : Int), .int .u8 (k2.toNat : Int), .int .u8 (k3.toNat : Int), .int .u8 (k4.toNat : Int)] 33)) (by simp)) hk2 (by simp))
      have hq := fun j u h => hk2.cell (new_cell w1 [.int .u8 (k1.toNat : Int), .int .u8 (k2.toNat : Int), .int .u8 (k3.toNat : Int), .int .u8 (k4.toNat : Int)] 33 j u h) (by simp)
      rw [hs1] at hq
      have q0 := hq 0 _ rfl
      have q1 := hq 1 _ rfl
      have q2 := hq 2 _ rfl
      have q3 := hq 3 _ rfl
      have hs2 := hk2.size
      simp at hs2
      clear hk2 hq
      have hacc : acc.length + todo.length = rs.length := by have := HPM.out.length_eq; simpa using this
      have htl : todo.length = t'.length + 1 := by have := HP'.out.length_eq; simpa using this
      have HPN := hid (show ((acc ++ [((⟨k1, k2, k3, k4⟩ : K4), rr)]) ++ t').Perm rs by rw [List.append_assoc]; exact (HP'.out.symm.append_left acc).trans HPM.out)
      have HSN := hid (keyed_snoc p acc ⟨k1, k2, k3, k4⟩ rr)
      have hkl := keyed_len p acc
      cases hpr : p rr.r with
      | false =>
        have HPR := hid hpr
        clear hpr
        go_wp2_with fail
        go_roundg t'.length
        case measure => omega
        case rel => exact ⟨t', acc ++ [((⟨k1, k2, k3, k4⟩ : K4), rr)], by show World.ownsRow _ _ _ _ _ _ _; rw [HSN.out, HPR.out]; simpa using HO2.out, HPN.out, HR2.out, HKW2.out, Nat.le_refl _, by omega⟩
      | true =>
        have HPR := hid hpr
        clear hpr
        go_wp2_with (at_builtin; refine Here.mk ?_)
        refine Here.of ?_
        have hcn := fun j u h => cells_new w2 (K4.f ⟨k1, k2, k3, k4⟩) 33 j u h
        have hm1 : w0.heap.size ≤ w2.heap.size := by omega
        refine wpList_append_is rfl _ _ 53 rfl 33 _ 4 4 Tryz.underlying53 HF.out rfl (by decide) (by decide) w0.heap.size _ (keyed p acc).length _ rfl (HO2.out.alloc (.cells (K4.f ⟨k1, k2, k3, k4⟩).toArray 33)) ⟨w2.heap.size, 0, none⟩ 1 1 (K4.f ⟨k1, k2, k3, k4⟩) rfl rfl hcn (by simp [K4.f, Value.oneCell']) (by omega) (by simp; omega) ?_
        intro v' w3 hown3 hgrow hnil
        obtain ⟨S, hS1, hS2⟩ := ownsRow_grownL (HO2.out.alloc _) hgrow
        have HA := hid ((Kept.refl [] w2).alloc (.cells (K4.f ⟨k1, k2, k3, k4⟩).toArray 33))
        have HR3 := hid ((HR2.out.kept HA.out (by simp) (by simp)).kept hS1 (fun hx => by have := hS2 _ hx; omega) (fun hx => by have := hS2 _ hx; omega))
        have HK3 := hid ((HKW2.out.trans HA.out (fun x hx => by cases hx)).trans hS1 (fun x hx => .inr (by have := hS2 x hx; omega)))
        have hsz3 : w2.heap.size ≤ w3.heap.size := Nat.le_trans HA.out.size hS1.size
        have HO3 := hid hown3
        clear hown3 hgrow hnil hS1
        go_wp2_with fail
        go_roundg t'.length
        case measure => omega
        case rel =>
          refine ⟨t', acc ++ [((⟨k1, k2, k3, k4⟩ : K4), rr)], ?_, HPN.out, HR3.out, HK3.out, Nat.le_refl _, by omega⟩
          show World.ownsRow _ _ _ _ _ _ _
          rw [HSN.out, HPR.out, if_pos rfl, List.flatMap_append, List.length_append]
          simpa using HO3.out
    · refine Here.of ?_
      have ht : todo = [] := by
        cases todo with
        | nil => rfl
        | cons p t => simp [rowsL] at hd0
      subst ht
      have hperm : (keyed p acc).Perm (keyed p rs) := keyed_perm p (by have := HPM.out; simpa using this)
      have hkl := keyed_len p acc
      have hacc : acc.length = rs.length := by have := HPM.out.length_eq; simpa using this
      refine (lsort_any _ w0.heap.size (keyed p acc).length (keyed p acc) wo HO.out rfl (by omega)).mono ?_
      rintro e w3 ⟨rfl, hown, hk3⟩
      rw [sortK_permeq hperm] at hown
      have hlen : (keyed p acc).length = (sortK (keyed p rs)).length := by rw [(sortK_perm _).length_eq, hperm.length_eq]
      rw [hlen] at hown
      have HO3 := hid hown
      have HK3 := hid (HK.out.trans hk3 (fun x hx => .inr (by have := HO.out.lt x (by simpa using hx); omega)))
      clear hown hk3 hlen hperm
      go_wp2_with fail
      go_returns
      exact ⟨_, rfl, ownsRow_base HO3.out (by omega), HK3.out⟩
--@@ end
--@@ (*lock.Table).Held$1
theorem heldC_any (P : Nat) (hv qv : Value) (r : Ro) (W : World) (H : RowIs W P hv qv r) :
    Calls Tryz.prog 87 (#[.pointer (some ⟨P, 0, none⟩)] ++ #[]) W fun e w' => e = .returned (.bool (decide (0 < r.h.length))) ∧ Kept [] W w' := by
  obtain ⟨c0, c1, f0, f1⟩ := H.c0
  obtain ⟨a, c, rfl⟩ := ownsRow_slice H.h
  clear H
  go_enter Tryz.func87, Tryz.ntmps87
  go_wp2
  go_ret
  refine ⟨?_, Kept.refl _ _⟩
  first
    | rfl
    | (congr 3; apply decide_eq_decide.2; omega)
    | simp
theorem heldCE : ∀ args w, (callFunc 87 args).run Tryz.prog w = .ok (.enter 87 args) w := enters_of Tryz.func87 (by kernel_rfl) rfl
--@@ (*lock.Table).Keys$1
theorem heldI_ge (l : List Wi) (tx : Int) : decide (0 ≤ heldI l tx) = (heldAt l tx).isSome := by
  unfold heldI heldAt idxI
  cases l.findIdx? fun x => decide (x.tx = tx) with
  | none => simp
  | some i => simp
set_option maxHeartbeats 1000000 in
theorem keysC_any (P b : Nat) (hv qv : Value) (r : Ro) (tx : Int) (W : World) (H : RowIs W P hv qv r) (hb : W.cell? ⟨b, 0, none⟩ = some (.int .i64 tx)) (hl : r.h.length < 1000000) :
    Calls Tryz.prog 79 (#[.pointer (some ⟨P, 0, none⟩)] ++ #[.pointer (some ⟨b, 0, none⟩)]) W fun e w' => e = .returned (.bool (heldAt r.h tx).isSome) ∧ Kept [] W w' := by
  have HH := hid (held_any P hv qv r tx W H (by omega))
  have HG := hid (heldI_ge r.h tx)
  clear H
  go_enter Tryz.func79, Tryz.ntmps79
  go_wp2_with (first
    | (go_at_call 80; refine HH.out.mono ?_; rintro e w2 ⟨rfl, hk2⟩))
  go_ret
  exact ⟨by rw [← HG.out]; rfl, hk2⟩
theorem keysCE : ∀ args w, (callFunc 79 args).run Tryz.prog w = .ok (.enter 79 args) w := enters_of Tryz.func79 (by kernel_rfl) rfl
--@@ (*lock.Table).Held
set_option maxHeartbeats 1000000 in
theorem heldT_any (A R M : Nat) (lim : Int) (rs : List (K4 × RR)) (ws : List (Int × K4)) (w : World) (H : TabIs w A R M lim rs ws) (hl : rs.length ≤ 100000) :
    Calls Tryz.prog 53 #[.pointer (some ⟨A, 0, none⟩)] w fun e w' => ∃ v, e = .returned v ∧ w'.ownsRow w.heap.size 33 4 v (tabT lim rs ws).heldT.length ((tabT lim rs ws).heldT.flatMap K4.f) ∧ Kept [] w w' := by
  have HW := hid (keysW_any A R M lim rs ws 87 #[] (fun r => decide (0 < r.h.length)) w H hl heldCE (fun W hk x hx => heldC_any x.2.P x.2.hv x.2.qv x.2.r W ((H.each x hx).kept hk (fun _ _ => by simp))))
  clear H
  go_enter Tryz.func53, Tryz.ntmps53
  go_wp2_with (first
    | (go_at_call 78; refine HW.out.mono ?_; rintro e w2 ⟨v, rfl, ho, hk2⟩))
  go_ret
  exact ⟨v, rfl, ho, hk2⟩
--@@ (*lock.Table).Keys
set_option maxHeartbeats 1000000 in
theorem keysT_any (A R M : Nat) (lim : Int) (rs : List (K4 × RR)) (ws : List (Int × K4)) (tx : Int) (w : World) (H : TabIs w A R M lim rs ws) (hl : rs.length ≤ 100000) (hl2 : (tabT lim rs ws).le 100000) :
    Calls Tryz.prog 42 #[.pointer (some ⟨A, 0, none⟩), .int .i64 tx] w fun e w' => ∃ v, e = .returned v ∧ w'.ownsRow w.heap.size 33 4 v ((tabT lim rs ws).keysT tx).length (((tabT lim rs ws).keysT tx).flatMap K4.f) ∧ Kept [] w w' := by
  have H1 := H.kept ((Kept.refl [] w).alloc (.cells #[.int .i64 tx] 3)) (fun _ _ => by simp)
  have HW := hid (keysW_any A R M lim rs ws 79 #[.pointer (some ⟨w.heap.size, 0, none⟩)] (fun r => (heldAt r.h tx).isSome) (w.alloc (.cells #[.int .i64 tx] 3)) H1 hl keysCE
    (fun W hk x hx => keysC_any x.2.P w.heap.size x.2.hv x.2.qv x.2.r tx W ((H1.each x hx).kept hk (fun _ _ => by simp)) (hk.cell (new_cell w [.int .i64 tx] 3 0 _ rfl) (by simp)) (by have := le_tab.1 hl2 x hx; omega)))
  clear H H1
  go_enter Tryz.func42, Tryz.ntmps42
  go_wp2_with (first
    | (go_at_call 78; refine HW.out.mono ?_; rintro e w2 ⟨v, rfl, ho, hk2⟩))
  go_ret
  exact ⟨v, rfl, ownsRow_base ho (by simp), ((Kept.refl [] w).alloc _).trans hk2 (fun x hx => by cases hx)⟩
--@@ end
theorem own_keys {w : World} {base g cap n : Nat} {e : TypeId} {l : List K4} (h : w.ownsRow base e 4 (.slice (some ⟨g, 0, none⟩) n cap) n (l.flatMap K4.f)) {i : Nat} (hi : i < l.length) :
    w.cell? ⟨g, i * 4, none⟩ = some (.int .u8 (l[i].a.toNat : Int)) ∧ w.cell? ⟨g, i * 4 + 1, none⟩ = some (.int .u8 (l[i].b.toNat : Int)) ∧ w.cell? ⟨g, i * 4 + 2, none⟩ = some (.int .u8 (l[i].c.toNat : Int)) ∧ w.cell? ⟨g, i * 4 + 3, none⟩ = some (.int .u8 (l[i].d.toNat : Int)) := by
  have key : ∀ j, j < 4 → ∀ u, (K4.f l[i])[j]? = some u → w.cell? ⟨g, i * 4 + j, none⟩ = some u := fun j hj u hu => by
    have hg := rowK_at (enc := K4.f) (k := 4) k4_len l (i * 4 + j) (by omega)
    rw [show (i * 4 + j) / 4 = i by omega, show (i * 4 + j) % 4 = j by omega] at hg
    have := h.cells (g := g) rfl (i * 4 + j) u (by rw [hg, getElem!_pos l i hi]; exact hu)
    rw [Addr.add_lit, Nat.zero_add] at this
    exact this
  exact ⟨key 0 (by omega) _ rfl, key 1 (by omega) _ rfl, key 2 (by omega) _ rfl, key 3 (by omega) _ rfl⟩
--@@ (*lock.Table).Free
theorem dropboth_end {w3 w4 w6 : World} {P : Nat} {hv qv v1 v2 : Value} {r : Ro} {tx : Int} (HR : RowIs w3 P hv qv r) (h1 : Dropped w3 w4 hv v1 r.h tx) (h2 : Dropped (w4.setCell ⟨P, 0, none⟩ v1) w6 qv v2 r.q tx) :
    RowIs (w6.setCell ⟨P, 1, none⟩ v2) P v1 v2 ⟨dropR r.h tx, dropR r.q tx⟩ ∧ rowBs P v1 v2 = rowBs P hv qv ∧ Kept (rowBs P hv qv) w3 (w6.setCell ⟨P, 1, none⟩ v2) := by
  obtain ⟨r1, b1, k1, _⟩ := droph_end HR h1
  obtain ⟨r2, b2, k2, _⟩ := dropq_end r1 h2
  refine ⟨r2, b2.trans b1, ?_⟩
  refine (k1.mono (T := rowBs P hv qv) (fun x hx => ?_)).trans k2 (fun x hx => .inl ?_)
  · simp only [rowBs, List.mem_cons, List.mem_append] at hx ⊢
    exact hx.elim (fun h => .inl h) (fun h => .inr (.inl h))
  · simp only [rowBs, List.mem_cons, List.mem_append] at hx ⊢
    exact hx.elim (fun h => .inl h) (fun h => .inr (.inr h))
set_option maxHeartbeats 8000000 in
set_option maxRecDepth 100000 in
theorem free_any (A R M : Nat) (lim : Int) (rs : List (K4 × RR)) (ws : List (Int × K4)) (tx : Int) (w : World) (H : TabIs w A R M lim rs ws) (hl : rs.length ≤ 50000) (hle : (tabT lim rs ws).le 100000) :
    Calls Tryz.prog 84 #[.pointer (some ⟨A, 0, none⟩), .int .i64 tx] w fun e w' => e = .returned (.tuple #[]) ∧ ∃ rs' ws', TabIs w' A R M lim rs' ws' ∧ tabT lim rs' ws' = (tabT lim rs ws).freeT tx ∧ Kept (tabBs A R M rs) w w' ∧ (∀ b ∈ tabBs A R M rs', b ∈ tabBs A R M rs ∨ w.heap.size ≤ b) := by
  have hA := H.lt A (by simp [tabBs])
  have HKEYS := hid (keysT_any A R M lim rs ws tx w H (by omega) hle)
  have HT0 := hid H
  have HLT := hid H.lt
  have HF := hid (show (Tryz.prog.info? 33).map (fun i => (i.zero, i.size, i.bytes)) = some (some (.agg #[.int .u8 0, .int .u8 0, .int .u8 0, .int .u8 0]), 4, 4) by kernel_rfl)
  obtain ⟨kl, hkl⟩ : ∃ kl, kl = (tabT lim rs ws).keysT tx := ⟨_, rfl⟩
  have hkll : kl.length ≤ rs.length := by
    rw [hkl]
    unfold Ta.keysT
    rw [keyed_tab, (sortK_perm _).length_eq]
    exact keyed_len _ _
  rw [← hkl] at HKEYS
  have hfree : (tabT lim rs ws).freeT tx = (compK (sortK (kl ++ (aget tx ws).toList))).foldl Ta.on ((compK (sortK (kl ++ (aget tx ws).toList))).foldl (Ta.drop1 tx) (tabT lim rs (adel tx ws))) := by
    rw [hkl]; rfl
  rw [hfree]
  have HLK := hid (fun W (h : TabIs W A R M lim rs ws) => h.lookw tx)
  obtain ⟨kk, hkk⟩ : ∃ kk, kk = keyO (aget tx ws) := ⟨_, rfl⟩
  obtain ⟨ok, hok⟩ : ∃ ok, ok = (aget tx ws).isSome := ⟨_, rfl⟩
  simp only [← hkk, ← hok] at HLK
  have HKK := hid hkk
  have HOK := hid hok
  have HLE := hid hle
  obtain ⟨a0, a1, a2⟩ := H.cells
  clear hkl hfree hkk hok H hle
  obtain ⟨k1, k2, k3, k4⟩ := kk
  simp only [K4.v] at HLK
  go_enter Tryz.func84, Tryz.ntmps84
  go_upto_if 24 with (first
    | (go_at_call 42; refine HKEYS.out.mono ?_; rintro e w1 ⟨v, rfl, ho, hk1⟩; obtain ⟨va, vc, hv⟩ := ownsRow_slice ho; subst hv; have HO1 := hid ho; have HK1 := hid hk1; have HT1 := hid (HT0.out.kept hk1 (fun _ _ => by simp)); clear a0 a1 a2; obtain ⟨a0, a1, a2⟩ := HT1.out.cells; have hL := HLK.out w1 HT1.out; clear ho hk1))
  go_cut [4] (fun s4 wx => ∃ l n, Aside (wx.ownsRow w.heap.size 33 4 s4 n (l.flatMap K4.f)) ∧ n = l.length ∧ Aside (l = kl ++ (aget tx ws).toList) ∧ Aside (TabIs wx A R M lim rs (adel tx ws)) ∧ Aside (Kept (tabBs A R M rs) w wx))
  case first =>
    have hkl2 : kl.length ≤ 50000 := by omega
    have HOA := hid (own_below HO1.out ((Kept.refl [] w1).alloc (.cells #[.int .u8 (k1.toNat : Int), .int .u8 (k2.toNat : Int), .int .u8 (k3.toNat : Int), .int .u8 (k4.toNat : Int)] 33)) (by simp))
    have HTA := hid (HT1.out.kept ((Kept.refl [] w1).alloc (.cells #[.int .u8 (k1.toNat : Int), .int .u8 (k2.toNat : Int), .int .u8 (k3.toNat : Int), .int .u8 (k4.toNat : Int)] 33)) (fun _ _ => by simp))
    have HKA := hid ((HK1.out.mono (T := tabBs A R M rs) (by simp)).alloc (.cells #[.int .u8 (k1.toNat : Int), .int .u8 (k2.toNat : Int), .int .u8 (k3.toNat : Int), .int .u8 (k4.toNat : Int)] 33))
    have hsz1 := HK1.out.size
    cases ok with
    | false =>
      have HN := hid (show aget tx ws = none by cases h : aget tx ws with | none => rfl | some x => have := HOK.out; rw [h] at this; cases this)
      go_wp2_with fail
      go_meet
      refine ⟨kl, kl.length, HOA.out, rfl, ?_, ?_, HKA.out⟩
      · show kl = _
        rw [HN.out]; simp
      · show TabIs _ _ _ _ _ _ _
        rw [tdel_none HN.out]; exact HTA.out
    | true =>
      have HN := hid (show aget tx ws = some ⟨k1, k2, k3, k4⟩ by cases h : aget tx ws with | none => have := HOK.out; rw [h] at this; cases this | some x => have := HKK.out; rw [h] at this; simpa [keyO] using this.symm)
      go_wp2_with (at_builtin; refine Here.mk ?_)
      refine Here.of ?_
      have HA2 := hid ((Kept.refl [] (w1.alloc (.cells #[.int .u8 (k1.toNat : Int), .int .u8 (k2.toNat : Int), .int .u8 (k3.toNat : Int), .int .u8 (k4.toNat : Int)] 33))).alloc (.cells (K4.f ⟨k1, k2, k3, k4⟩).toArray 33))
      refine wpList_append_is rfl _ _ 53 rfl 33 _ 4 4 Tryz.underlying53 HF.out rfl (by decide) (by decide) w.heap.size _ kl.length _ rfl (HOA.out.alloc _) _ 1 1 (K4.f ⟨k1, k2, k3, k4⟩) rfl rfl (fun j u h => by have := cells_new (w1.alloc (.cells #[.int .u8 (k1.toNat : Int), .int .u8 (k2.toNat : Int), .int .u8 (k3.toNat : Int), .int .u8 (k4.toNat : Int)] 33)) (K4.f ⟨k1, k2, k3, k4⟩) 33 j u h; rw [World.size_alloc] at this; exact this) (by simp [K4.f, Value.oneCell']) (by omega) (by simp; omega) ?_
      intro v' w3 hown3 hgrow hnil
      obtain ⟨S, hS1, hS2⟩ := ownsRow_grownL (HOA.out.alloc _) hgrow
      have hnT : ∀ b ∈ tabBs A R M rs, b ∉ S := fun b hb hx => by have := HLT.out b hb; have := hS2 b hx; omega
      have HT3 := hid ((HTA.out.kept HA2.out (fun _ _ => by simp)).kept hS1 hnT)
      have HK3 := hid ((HKA.out.trans HA2.out (fun x hx => by cases hx)).trans hS1 (fun x hx => .inr (hS2 x hx)))
      have HO3 := hid hown3
      clear a0 a1 a2
      obtain ⟨a0, a1, a2⟩ := HT3.out.cells
      have hMw := HLT.out M (by simp [tabBs])
      clear hown3 hgrow hnil hS1 hnT hL
      go_wp2_with (first
        | (at_delete; refine wpList_delete_is rfl _ _ 113 3 rfl 3 33 (KeyOK.int (k := .i64) Tryz.underlying3) Tryz.underlying113 rfl tx rfl HT3.out.waits ?_; intro w4 hM4 hK4; refine Here.mk ?_))
      refine Here.of ?_
      rw [adel_map K4.v] at hM4
      have HT4 := hid (HT3.out.setw hM4 (tdel_nodup _ _ HT3.out.wn) hK4)
      have HO4 := hid (own_below HO3.out hK4 (fun x hx => by simp at hx; omega))
      have HK4 := hid (HK3.out.trans hK4 (fun x hx => .inl (by simp at hx; subst hx; simp [tabBs])))
      clear hM4 hK4
      go_wp2_with fail
      go_meet
      refine ⟨kl ++ [⟨k1, k2, k3, k4⟩], kl.length + 1, ?_, by simp, ?_, HT4.out, HK4.out⟩
      · show World.ownsRow _ _ _ _ _ _ _
        rw [List.flatMap_append]
        simpa using HO4.out
      · show _ = _
        rw [HN.out]; rfl
  case rest =>
  obtain ⟨l, n, HOX, hnl, HLX, HTX, HKX⟩ := hcut
  clear a0 a1 a2 hL HO1 HK1 HT1 HKEYS HT0 HLK HKK HOK
  rename World => wx
  have hll : l.length ≤ 50001 := by rw [HLX.out]; cases aget tx ws <;> simp <;> omega
  have hsx := HKX.out.size
  go_wp2_with (go_at_call 104; refine Here.mk ?_)
  refine Here.of ?_
  refine (lsort_any _ w.heap.size n l wx HOX.out hnl (by omega)).mono ?_
  rintro e w5 ⟨rfl, ho5, hk5⟩
  have HK5 := hid (HKX.out.trans hk5 (fun x hx => .inr (by have := HOX.out.lt x (by simpa using hx); omega)))
  have HT5 := hid (HTX.out.kept hk5 (fun b hb hx => by have := HLT.out b hb; have := HOX.out.lt b (by simpa using hx); omega))
  have HO5 := hid ho5
  clear ho5 hk5
  go_wp2_with (go_at_call 108; refine Here.mk ?_)
  refine Here.of ?_
  refine (compactK_any _ w.heap.size n (sortK l) w5 HO5.out (by rw [hnl, (sortK_perm l).length_eq]) (by rw [(sortK_perm l).length_eq]; omega)).mono ?_
  rintro e w6 ⟨v, rfl, ho6, hk6, hb6⟩
  obtain ⟨va, vc, hv⟩ := ownsRow_slice ho6
  subst hv
  have HK6 := hid (HK5.out.trans hk6 (fun x hx => .inr (by have := HO5.out.lt x (by simpa using hx); omega)))
  have HT6 := hid (HT5.out.kept hk6 (fun b hb hx => by have := HLT.out b hb; have := HO5.out.lt b (by simpa using hx); omega))
  have HO6 := hid ho6
  clear ho6 hk6 hb6
  have HKS := hid (show compK (sortK (kl ++ (aget tx ws).toList)) = compK (sortK l) by rw [HLX.out])
  obtain ⟨ks, hks⟩ : ∃ ks, ks = compK (sortK l) := ⟨_, rfl⟩
  rw [← hks] at HO6 HKS
  rw [← hks]
  have hkn : ks.length ≤ 50001 := by
    rw [hks]
    have := compN_len (sortK l) (sortK l).length
    rw [(sortK_perm l).length_eq] at this
    unfold compK
    rw [(sortK_perm l).length_eq]
    omega
  clear hks
  rename World => wz
  go_wp2_with fail
  obtain ⟨hMA, hMM⟩ : A ∈ tabBs A R M rs ∧ R ∈ tabBs A R M rs := ⟨by simp [tabBs], by simp [tabBs]⟩
  have hsz6 := HK6.out.size
  have HDIS6 := hid (show ∀ b ∈ (Value.slice va ks.length vc).ownBlock.toList, b ∉ tabBs A R M rs from fun b hb hx => by have := HLT.out b hx; have := HO6.out.lt b (by simpa using hb); omega)
  go_loopg [40] ks.length (fun kx s40 wr => ∃ (i : Nat) (rsi : List (K4 × RR)), s40 = .int .i64 i ∧ i ≤ ks.length ∧ ks.length - i ≤ kx ∧ Aside (TabIs wr A R M lim rsi (adel tx ws)) ∧ Aside (tabT lim rsi (adel tx ws) = (ks.take i).foldl (Ta.drop1 tx) (tabT lim rs (adel tx ws))) ∧ Aside (wr.ownsRow w.heap.size 33 4 (.slice va ks.length vc) ks.length (ks.flatMap K4.f)) ∧ Aside (∀ b ∈ (Value.slice va ks.length vc).ownBlock.toList, b ∉ tabBs A R M rsi) ∧ Aside (Kept (tabBs A R M rs) w wr) ∧ Aside (∀ b ∈ tabBs A R M rsi, b ∈ tabBs A R M rs ∨ w.heap.size ≤ b))
  case atStart => exact ⟨0, rs, by first | rfl | go_num, by omega, by omega, HT6.out, rfl, HO6.out, HDIS6.out, HK6.out, fun b hb => .inl hb⟩
  case round =>
    clear HT6 HO6 HDIS6 HK6 HK5 HT5 HO5 HKX HTX HOX hsz6
    obtain ⟨i, rsi, rfl, hin, hkx, HTI, HEI, HOI, HDI, HKI, HBI⟩ := hrel
    rename World => wo
    by_cases hb : i < ks.length
    · have hltz : (i : Int) < (ks.length : Int) := by omega
      obtain ⟨g, hva⟩ : ∃ g, va = some ⟨g, 0, none⟩ := by
        rcases HOI.out.2 with ⟨hv, hz⟩ | ⟨g, cap, cur, hv, _⟩
        · omega
        · cases hv; exact ⟨g, rfl⟩
      subst hva
      obtain ⟨d0, d1, d2, d3⟩ := own_keys HOI.out hb
      have HTK := hid (show (ks.take (i + 1)).foldl (Ta.drop1 tx) (tabT lim rs (adel tx ws)) = Ta.drop1 tx ((ks.take i).foldl (Ta.drop1 tx) (tabT lim rs (adel tx ws))) ks[i] from foldl_take_succ _ ks i hb _)
      have HLEI := hid (show Ta.le 100000 (tabT lim rsi (adel tx ws)) by rw [HEI.out]; exact Ta.le.foldl_drop _ (show (tabT lim rs (adel tx ws)).le 100000 from HLE.out))
      obtain ⟨a0, a1, a2⟩ := HTI.out.cells
      have hAl := HTI.out.lt A (by simp [tabBs])
      have hAne : wo.heap.size ≠ A := by omega
      have hgl : g < wo.heap.size := (Array.getElem?_eq_some_iff.1 (show ∃ c, wo.heap[g]? = some c from by
        rcases HOI.out.2 with ⟨hv, _⟩ | ⟨g', cap, cur, hv, _, hg, _⟩
        · cases hv
        · cases hv; exact ⟨_, hg⟩).choose_spec).1
      have hgne : wo.heap.size ≠ g := by omega
      generalize ks[i] = y at *
      have HIB := hid hb
      clear hb
      obtain ⟨y1, y2, y3, y4⟩ := y
      dsimp only at d0 d1 d2 d3
      obtain ⟨r0, hr0⟩ : ∃ r0, r0 = (tabT lim rsi (adel tx ws)).row ⟨y1, y2, y3, y4⟩ := ⟨_, rfl⟩
      have hln := Ta.le.row (k := ⟨y1, y2, y3, y4⟩) HLEI.out
      have HRW := hid (row_any A R M lim rsi (adel tx ws) ⟨y1, y2, y3, y4⟩ (wo.alloc (.cells #[.int .u8 (y1.toNat : Int), .int .u8 (y2.toNat : Int), .int .u8 (y3.toNat : Int), .int .u8 (y4.toNat : Int)] 33)) (HTI.out.kept ((Kept.refl [] wo).alloc _) (fun _ _ => by simp)))
      rw [← hr0] at HRW hln
      have HR0 := hid hr0
      clear hr0
      obtain ⟨h0, l0⟩ := r0
      simp only [K4.v] at HRW
      dsimp only at hln
      go_wp2_with (first
        | (go_at_call 69; refine Here.mk ?_))
      refine Here.of ?_
      refine HRW.out.mono ?_
      rintro e w3 ⟨rs3, ⟨P, hv, qv, r3⟩, rfl, hT3, hg3, hn3, hr3, hk3, hb3⟩
      dsimp only at hr3
      subst hr3
      have HT3 := hid hT3
      have HG3 := hid hg3
      have HN3 := hid hn3
      have HR3 := hid (show RowIs w3 P hv qv ⟨h0, l0⟩ from hT3.at' hg3)
      obtain ⟨c0, c1, f0, f1⟩ := HR3.out.c0
      have HB3 := hid hb3
      have HK3 := hid (((Kept.refl [R] wo).alloc (.cells #[.int .u8 (y1.toNat : Int), .int .u8 (y2.toNat : Int), .int .u8 (y3.toNat : Int), .int .u8 (y4.toNat : Int)] 33)).trans hk3 (fun x hx => .inl hx))
      clear d0 d1 d2 d3 a0 a1 a2 hT3 hg3 hn3 hb3 hk3 HRW
      go_wp2_with (go_at_call 92; refine Here.mk ?_)
      refine Here.of ?_
      refine (drop_any hv h0 tx w3 (own_wrow HR3.out.h) (by omega)).mono ?_
      rintro e w4 ⟨v1, rfl, hdr⟩
      obtain ⟨xa, xn, xc, hv1⟩ := Dropped.slice hdr
      subst hv1
      have HD1 := hid (show Dropped w3 w4 hv (.slice xa xn xc) h0 tx from hdr)
      have HE1 := hid (droph_end (r := ⟨h0, l0⟩) HR3.out HD1.out)
      have hb4 := HE1.out.2.2.2
      obtain ⟨b0, b1, g0, g1⟩ := two_cells hb4
      have hb5 := set1 hb4 (.slice xa xn xc)
      obtain ⟨e0, e1, g2, g3⟩ := two_cells hb5
      clear hdr c0 c1 f0 f1 hb4 hb5
      go_wp2_with (go_at_call 92; refine Here.mk ?_)
      refine Here.of ?_
      refine (drop_any qv l0 tx _ HE1.out.1.q (by omega)).mono ?_
      rintro e w6 ⟨v2, rfl, hdr⟩
      obtain ⟨za, zn, zc, hv2⟩ := Dropped.slice hdr
      subst hv2
      have HE2 := hid (dropboth_end (r := ⟨h0, l0⟩) HR3.out HD1.out hdr)
      have hb6 := (dropq_end HE1.out.1 hdr).2.2.2
      obtain ⟨e0', e1', g2', g3'⟩ := two_cells hb6
      clear hdr b0 b1 g0 g1 e0 e1 g2 g3 hb6
      go_wp2_with fail
      have hsz3 := HK3.out.size
      have HRE := row_end (w := wo) (rs := rsi) HT3.out HG3.out (Kept.refl [] w3) HE2.out.1 (fun b hb => .inl (by rw [HE2.out.2.1] at hb; exact hb)) HE2.out.2.2 (fun b hb => hb) (fun b hb => (HB3.out b hb).imp_right (fun h => by simp at h; omega)) (HK3.out.mono (fun x hx => by simp at hx; subst hx; simp [tabBs]))
      have HRS := hid HRE
      clear HRE
      go_roundg (ks.length - (i + 1))
      case measure => have := HIB.out; omega
      case rel =>
        have hwsz := HKI.out.size
        refine ⟨i + 1, _, by first | rfl | go_num, by have := HIB.out; omega, Nat.le_refl _, HRS.out.1, ?_, ?_, ?_, HKI.out.trans HRS.out.2.2.1 (fun x hx => HBI.out x hx), ?_⟩
        · show _ = _
          rw [HRS.out.2.1, HN3.out, HTK.out, ← HEI.out]
          have := HR0.out
          unfold Ta.drop1
          rw [← this]
        · exact own_kept HOI.out HRS.out.2.2.1 (fun x hx => HDI.out x (by simpa using hx))
        · show ∀ b ∈ (Value.slice (some ⟨g, 0, none⟩) ks.length vc).ownBlock.toList, b ∉ tabBs A R M _
          intro b hb hx
          rcases HRS.out.2.2.2 b hx with h | h
          · exact HDI.out b hb h
          · simp [Value.ownBlock] at hb; omega
        · show ∀ b ∈ tabBs A R M _, _
          intro b hb
          rcases HRS.out.2.2.2 b hb with h | h
          · exact HBI.out b h
          · exact .inr (by omega)
    · obtain rfl : i = ks.length := by omega
      have hltz : ¬ (ks.length : Int) < (ks.length : Int) := by omega
      go_wp2_with fail
      have HT0 := hid (show tabT lim rsi (adel tx ws) = ks.foldl (Ta.drop1 tx) (tabT lim rs (adel tx ws)) by have := HEI.out; rw [List.take_length] at this; exact this)
      obtain ⟨t0, ht0⟩ : ∃ t0, t0 = ks.foldl (Ta.drop1 tx) (tabT lim rs (adel tx ws)) := ⟨_, rfl⟩
      rw [← ht0] at HT0
      have HLE0 := hid (show Ta.le 100000 t0 by rw [ht0]; exact Ta.le.foldl_drop _ (show (tabT lim rs (adel tx ws)).le 100000 from HLE.out))
      have HT0E := hid ht0
      clear ht0
      go_loopg [68] ks.length (fun kx s68 wr => ∃ (i : Nat) (rsj : List (K4 × RR)) (wsj : List (Int × K4)), s68 = .int .i64 i ∧ i ≤ ks.length ∧ ks.length - i ≤ kx ∧ Aside (TabIs wr A R M lim rsj wsj) ∧ Aside (tabT lim rsj wsj = (ks.take i).foldl Ta.on t0) ∧ Aside (wr.ownsRow w.heap.size 33 4 (.slice va ks.length vc) ks.length (ks.flatMap K4.f)) ∧ Aside (∀ b ∈ (Value.slice va ks.length vc).ownBlock.toList, b ∉ tabBs A R M rsj) ∧ Aside (Kept (tabBs A R M rs) w wr) ∧ Aside (∀ b ∈ tabBs A R M rsj, b ∈ tabBs A R M rs ∨ w.heap.size ≤ b))
      case atStart => exact ⟨0, rsi, _, by first | rfl | go_num, by omega, by omega, HTI.out, HT0.out, HOI.out, HDI.out, HKI.out, HBI.out⟩
      case round =>
        clear HTI HEI HOI HDI HKI HBI HT0 hltz
        obtain ⟨i, rsj, wsj, rfl, hin, hkx, HTI, HEI, HOI, HDI, HKI, HBI⟩ := hrel
        rename World => wo
        by_cases hb : i < ks.length
        · have hltz : (i : Int) < (ks.length : Int) := by omega
          obtain ⟨g, hva⟩ : ∃ g, va = some ⟨g, 0, none⟩ := by
            rcases HOI.out.2 with ⟨hv, hz⟩ | ⟨g, cap, cur, hv, _⟩
            · omega
            · cases hv; exact ⟨g, rfl⟩
          subst hva
          obtain ⟨d0, d1, d2, d3⟩ := own_keys HOI.out hb
          have HTK := hid (show (ks.take (i + 1)).foldl Ta.on t0 = Ta.on ((ks.take i).foldl Ta.on t0) ks[i] from foldl_take_succ _ ks i hb _)
          have HLEI := hid (show Ta.le 100000 (tabT lim rsj wsj) by rw [HEI.out]; exact Ta.le.foldl_on _ HLE0.out)
          obtain ⟨a0, a1, a2⟩ := HTI.out.cells
          have hgl : g < wo.heap.size := (Array.getElem?_eq_some_iff.1 (show ∃ c, wo.heap[g]? = some c from by
            rcases HOI.out.2 with ⟨hv, _⟩ | ⟨g', cap, cur, hv, _, hg, _⟩
            · cases hv
            · cases hv; exact ⟨_, hg⟩).choose_spec).1
          generalize ks[i] = y at *
          have HIB := hid hb
          clear hb
          obtain ⟨y1, y2, y3, y4⟩ := y
          dsimp only at d0 d1 d2 d3
          have HON := hid (tabOn_any A R M lim rsj wsj ⟨y1, y2, y3, y4⟩ (wo.alloc (.cells #[.int .u8 (y1.toNat : Int), .int .u8 (y2.toNat : Int), .int .u8 (y3.toNat : Int), .int .u8 (y4.toNat : Int)] 33)) (HTI.out.kept ((Kept.refl [] wo).alloc _) (fun _ _ => by simp)) (fun p hp => by have := le_tab.1 HLEI.out p hp; omega))
          simp only [K4.v] at HON
          go_wp2_with (first
            | (go_at_call 93; refine Here.mk ?_))
          refine Here.of ?_
          refine HON.out.mono ?_
          rintro e w3 ⟨rfl, rs3, ws3, hT3, hn3, hk3, hb3⟩
          have HT3 := hid hT3
          have HN3 := hid hn3
          have HB3 := hid hb3
          have HK3 := hid (((Kept.refl (tabBs A R M rsj) wo).alloc (.cells #[.int .u8 (y1.toNat : Int), .int .u8 (y2.toNat : Int), .int .u8 (y3.toNat : Int), .int .u8 (y4.toNat : Int)] 33)).trans hk3 (fun x hx => .inl hx))
          clear d0 d1 d2 d3 a0 a1 a2 hT3 hn3 hb3 hk3 HON
          go_wp2_with fail
          go_roundg (ks.length - (i + 1))
          case measure => have := HIB.out; omega
          case rel =>
            have hwsz := HKI.out.size
            refine ⟨i + 1, rs3, ws3, by first | rfl | go_num, by have := HIB.out; omega, Nat.le_refl _, HT3.out, ?_, ?_, ?_, HKI.out.trans HK3.out (fun x hx => HBI.out x hx), ?_⟩
            · show _ = _
              rw [HN3.out, HTK.out, ← HEI.out]
            · exact own_kept HOI.out HK3.out (fun x hx => HDI.out x (by simpa using hx))
            · show ∀ b ∈ (Value.slice (some ⟨g, 0, none⟩) ks.length vc).ownBlock.toList, b ∉ tabBs A R M _
              intro b hb hx
              rcases HB3.out b hx with h | h
              · exact HDI.out b hb h
              · simp [Value.ownBlock] at hb h; omega
            · show ∀ b ∈ tabBs A R M _, _
              intro b hb
              rcases HB3.out b hb with h | h
              · exact HBI.out b h
              · simp at h; exact .inr (by omega)
        · obtain rfl : i = ks.length := by omega
          have hltz : ¬ (ks.length : Int) < (ks.length : Int) := by omega
          go_wp2_with fail
          go_end0
          refine ⟨rfl, rsj, wsj, HTI.out, ?_, HKI.out, HBI.out⟩
          have := HEI.out
          rw [List.take_length, HT0E.out] at this
          rw [HKS.out]
          exact this
--@@ end
def lateP (now lim : Int) (x : Wi) : Bool := decide (IntKind.i64.wrap (x.since + lim) ≤ now)
def lateL (now lim : Int) (q : List Wi) : List Int := (q.filter (lateP now lim)).map (·.tx)
def lates (now lim : Int) (l : List (K4 × RR)) : List Int := l.flatMap fun p => lateL now lim p.2.r.q
def Ta.lateT (t : Ta) (now : Int) : List Int := srtI (t.rows.flatMap fun p => lateL now t.lim p.2.q)
theorem lateL_len (now lim : Int) (q : List Wi) : (lateL now lim q).length ≤ q.length := by
  unfold lateL
  rw [List.length_map]
  exact List.length_filter_le _ _
theorem lates_len (now lim : Int) : ∀ (l : List (K4 × RR)), (∀ p ∈ l, p.2.r.h.length + p.2.r.q.length ≤ 100000) → (lates now lim l).length ≤ l.length * 100000
  | [], _ => by simp [lates]
  | p :: l, h => by
    have ih := lates_len now lim l (fun q hq => h q (List.mem_cons_of_mem _ hq))
    have h1 := h p List.mem_cons_self
    have h2 := lateL_len now lim p.2.r.q
    simp only [lates, List.flatMap_cons, List.length_append, List.length_cons] at ih ⊢
    omega
theorem lates_snoc (now lim : Int) (l : List (K4 × RR)) (k : K4) (rr : RR) : lates now lim (l ++ [(k, rr)]) = lates now lim l ++ lateL now lim rr.r.q := by
  unfold lates
  rw [List.flatMap_append]
  simp
theorem lateL_snoc (now lim : Int) (q : List Wi) (x : Wi) : lateL now lim (q ++ [x]) = lateL now lim q ++ (if lateP now lim x = true then [x.tx] else []) := by
  unfold lateL
  rw [List.filter_append, List.map_append]
  congr 1
  by_cases h : lateP now lim x = true <;> simp [h]
theorem late_tab (now lim : Int) (rs : List (K4 × RR)) (ws : List (Int × K4)) : (tabT lim rs ws).lateT now = srtI (lates now lim rs) := by
  unfold Ta.lateT tabT lates
  dsimp only
  rw [List.flatMap_map]
--@@ (*lock.Table).Late
theorem sortI_any (v : Value) (base n : Nat) (ps : List Int) (w : World) (hown : w.ownsRow base 3 1 v n (ps.map (Value.int .i64))) (hnl : n = ps.length) (hl : ps.length ≤ 100000000000) :
    Calls Tryz.prog 82 #[v] w fun e w' => e = .returned (.tuple #[]) ∧ w'.ownsRow base 3 1 v n ((srtI ps).map (Value.int .i64)) ∧ Kept v.ownBlock.toList w w' := by
  subst hnl
  rcases hown.2 with ⟨rfl, hz⟩ | ⟨g, cap, cur, rfl, hb, hg, hle, hm, hs, ht⟩
  · have hps : ps = [] := List.eq_nil_of_length_eq_zero hz
    subst hps
    refine (AnyM.slices_Sort_int_none Tryz.sort82 none 0 w).mono ?_
    rintro e w' ⟨rfl, rfl⟩
    exact ⟨rfl, by rw [show srtI [] = [] by simp [srtI]]; exact hown, Kept.refl _ _⟩
  · have hgl := (Array.getElem?_eq_some_iff.1 hg).1
    refine (AnyM.slices_Sort_int Tryz.sort82 g 0 cap ps w (holds_of_blockI hg (by simpa using ht)) hgl (by omega)).mono ?_
    rintro e w' ⟨rfl, n, os, rfl⟩
    have hlen : (srtI ps).length = ps.length := (srtI_perm ps).length_eq
    refine ⟨rfl, ⟨by simp [hlen], .inr ⟨g, cap, _, rfl, hb, heap_sortedI _ hg, hle, hm, by simpa [putCells] using hs, ?_⟩⟩, Kept.of_grown (grownBy_sortedI _) _ (fun k hk => by cases hk; simp [Value.ownBlock])⟩
    have := take_putCellsI cur (srtI ps) (by omega)
    rw [hlen] at this
    simpa [srtI] using this
set_option maxHeartbeats 8000000 in
set_option maxRecDepth 100000 in
theorem late_any (A R M : Nat) (lim : Int) (rs : List (K4 × RR)) (ws : List (Int × K4)) (now : Int) (w : World) (H : TabIs w A R M lim rs ws) (hl : rs.length ≤ 100000) (hle : (tabT lim rs ws).le 100000) :
    Calls Tryz.prog 77 #[.pointer (some ⟨A, 0, none⟩), .int .i64 now] w fun e w' => ∃ v, e = .returned v ∧ w'.ownsRow w.heap.size 3 1 v ((tabT lim rs ws).lateT now).length (((tabT lim rs ws).lateT now).map (Value.int .i64)) ∧ Kept [] w w' := by
  obtain ⟨a0, a1, a2⟩ := H.cells
  have HT := hid H
  have HF := hid (show (Tryz.prog.info? 3).map (fun i => (i.zero, i.size, i.bytes)) = some (some (.int .i64 0), 1, 8) by kernel_rfl)
  have hRw := H.rows.lt
  have hAw := H.lt A (by simp [tabBs])
  have HLE := hid (le_tab.1 hle)
  rw [late_tab]
  clear H
  go_enter Tryz.func77, Tryz.ntmps77
  go_wp2_with (first | (at_range; refine wpList_range_is rfl _ 112 rfl _ _ Tryz.underlying112 rfl HT.out.rows ?_; intro w0 hR hk hsz0))
  go_frame
  have HR := hid (show RangeIs w0 R w.heap.size K4.v (rowsL rs) from hR)
  have HK := hid hk
  clear hR hk
  go_loopg [5] rs.length (fun kx s5 wr => ∃ (todo acc : List (K4 × RR)), Aside (wr.ownsRow w0.heap.size 3 1 s5 (lates now lim acc).length ((lates now lim acc).map (Value.int .i64))) ∧ Aside ((acc ++ todo).Perm rs) ∧ Aside (RangeIs wr R w.heap.size K4.v (rowsL todo)) ∧ Aside (Kept [] w wr) ∧ todo.length ≤ kx ∧ w0.heap.size ≤ wr.heap.size)
  case atStart => exact ⟨rs, [], ⟨rfl, .inl ⟨rfl, rfl⟩⟩, List.Perm.refl _, HR.out, HK.out, Nat.le_refl _, Nat.le_refl _⟩
  case round =>
    clear HR HK
    obtain ⟨todo, acc, HO, HPM, HR, HK, hkx, hsz⟩ := hrel
    rename World => wo
    go_wp2_with (first
      | (at_next; refine wpList_next_is rfl _ rfl rfl HR.out ?_ ?_; (intro hd0); rotate_left; (intro x u T w1 hp hR1 hk1 hs1 hen; obtain ⟨rr, t', rfl, rfl, hp'⟩ := rows_perm hp; have HP' := hid hp'; have HR1 := hid hR1; have HK1 := hid hk1; clear hp hp' hR1 hk1; refine Here.mk ?_))
      | (go_at_call 82; refine Here.mk ?_))
    · refine Here.of ?_
      have hmem : (x, rr) ∈ rs := HPM.out.subset (List.mem_append_right _ (HP'.out.symm.subset List.mem_cons_self))
      have HKW := hid (HK.out.trans HK1.out (fun x hx => .inr (by simp at hx; omega)))
      have hlr := HLE.out _ hmem
      have HRI := hid (HT.out.each _ hmem)
      obtain ⟨P, hv, qv, ⟨rh, rq⟩⟩ := rr
      dsimp only at hlr
      obtain ⟨qa, qc, hqv⟩ := wrow_slice HRI.out.q
      dsimp only at hqv
      subst hqv
      have HRJ := hid (show RowIs w P hv (.slice qa rq.length qc) ⟨rh, rq⟩ from HRI.out)
      obtain ⟨c0, c1, f0, f1⟩ := (HRJ.out.kept HKW.out (fun _ _ => by simp)).c0
      have hacc : acc.length + todo.length = rs.length := by have := HPM.out.length_eq; simpa using this
      have htl : todo.length = t'.length + 1 := by have := HP'.out.length_eq; simpa using this
      have HPN := hid (show ((acc ++ [(x, (⟨P, hv, .slice qa rq.length qc, ⟨rh, rq⟩⟩ : RR))]) ++ t').Perm rs by rw [List.append_assoc]; exact (HP'.out.symm.append_left acc).trans HPM.out)
      have HSN := hid (show lates now lim (acc ++ [(x, (⟨P, hv, .slice qa rq.length qc, ⟨rh, rq⟩⟩ : RR))]) = lates now lim acc ++ lateL now lim rq from lates_snoc now lim acc x ⟨P, hv, .slice qa rq.length qc, ⟨rh, rq⟩⟩)
      have hlt := lates_len now lim acc (fun p hp => HLE.out p (HPM.out.subset (List.mem_append_left _ hp)))
      have HO1 := hid (own_below HO.out HK1.out (fun x hx => by simp at hx; omega))
      clear hmem HRI
      dsimp only at hen ⊢
      obtain ⟨la, hla⟩ : ∃ la, la = lates now lim acc := ⟨_, rfl⟩
      rw [← hla] at HO1 HSN hlt
      have HLA := hid hla
      clear hla HO HPM HP' HK HR
      go_wp2_with fail
      clear c0 c1 f0 f1 hen
      go_loopg [5, 24] rq.length (fun kx s5 s24 wr => ∃ (j : Nat), s24 = .int .i64 j ∧ j ≤ rq.length ∧ rq.length - j ≤ kx ∧ Aside (wr.ownsRow w0.heap.size 3 1 s5 (la ++ lateL now lim (rq.take j)).length ((la ++ lateL now lim (rq.take j)).map (Value.int .i64))) ∧ Aside (RangeIs wr R w.heap.size K4.v (rowsL t')) ∧ Aside (Kept [] w wr) ∧ w1.heap.size ≤ wr.heap.size)
      case atStart => exact ⟨0, by first | rfl | go_num, by omega, by omega, by show World.ownsRow _ _ _ _ _ _ _; simpa [lateL] using HO1.out, HR1.out, HKW.out, Nat.le_refl _⟩
      case round =>
        clear HO1 HR1 HKW
        obtain ⟨j, rfl, hjr, hjx, HO2, HR2, HK2, hsz2⟩ := hrel
        rename World => wi
        by_cases hb : j < rq.length
        · have hltz : (j : Int) < (rq.length : Int) := by omega
          have hwq := HRJ.out.q.kept HK2.out (by simp)
          dsimp only at hwq
          rcases hwq with ⟨_, h2⟩ | ⟨g, off, cap, sz, h1, h2⟩
          · rw [h2] at hb; simp at hb
          injection h1 with e1 e2 e3
          subst e1
          subst e3
          obtain ⟨d0, d1, d2, d3⟩ := wish_cells (fun j u hj => h2.cell hj) hb
          have HTK := hid (show lateL now lim (rq.take (j + 1)) = lateL now lim (rq.take j) ++ (if lateP now lim rq[j] = true then [rq[j].tx] else []) by rw [List.take_succ_eq_append_getElem hb, lateL_snoc])
          clear h2
          generalize rq[j] = y at *
          have HB := hid hb
          obtain ⟨x1, x2, x3, x4⟩ := y
          dsimp only at d0 d1 d2 d3 HTK
          obtain ⟨lj, hlj⟩ : ∃ lj, lj = lateL now lim (rq.take j) := ⟨_, rfl⟩
          rw [← hlj] at HO2 HTK
          have hljl : lj.length ≤ rq.length := by rw [hlj]; have := lateL_len now lim (rq.take j); simp at this; omega
          clear hlj
          obtain ⟨sm, hsm⟩ : ∃ sm, IntKind.i64.wrap (x3 + lim) = sm := ⟨_, rfl⟩
          have HTA := hid (HT.out.kept (HK2.out.alloc (.cells #[.int .i64 x1, .bool x2, .int .i64 x3, .bool x4] 129)) (fun _ _ => by simp))
          obtain ⟨a0, a1, a2⟩ := HTA.out.cells
          have HOA := hid (own_below HO2.out ((Kept.refl [] wi).alloc (.cells #[.int .i64 x1, .bool x2, .int .i64 x3, .bool x4] 129)) (by simp))
          have HRA := hid (HR2.out.kept ((Kept.refl [] wi).alloc (.cells #[.int .i64 x1, .bool x2, .int .i64 x3, .bool x4] 129)) (by simp) (by simp))
          have HKA := hid (HK2.out.alloc (.cells #[.int .i64 x1, .bool x2, .int .i64 x3, .bool x4] 129))
          by_cases hlat : sm ≤ now
          · have HLP := hid (show lateP now lim ⟨x1, x2, x3, x4⟩ = true by unfold lateP; dsimp only; rw [hsm]; exact decide_eq_true hlat)
            go_wp2_with fail
            go_quiet (fail)
            have hkq := ((Kept.refl [] wi).alloc (.cells #[.int .i64 x1, .bool x2, .int .i64 x3, .bool x4] 129)).drewN nq
            have z0 := ((Kept.refl [] _).drewN nq).cell (new_cell wi [.int .i64 x1, .bool x2, .int .i64 x3, .bool x4] 129 0 _ rfl) (by simp)
            have HOQ := hid (own_below HO2.out hkq (by simp))
            have HRQ := hid (HR2.out.kept hkq (by simp) (by simp))
            have HKQ := hid (HK2.out.trans hkq (fun x hx => by cases hx))
            have hszq := hkq.size
            clear d0 d1 d2 d3 a0 a1 a2 hkq HTA HOA HRA HKA
            generalize (wi.alloc (.cells #[.int .i64 x1, .bool x2, .int .i64 x3, .bool x4] 129)).drewN nq = wq at *
            go_wp2_with (at_builtin; refine Here.mk ?_)
            refine Here.of ?_
            refine wpList_append_is rfl _ _ 55 rfl 3 _ 1 8 Tryz.underlying55 HF.out rfl (by decide) (by decide) w0.heap.size _ (la ++ lj).length _ rfl (HOQ.out.alloc _) _ 1 1 [.int .i64 x1] rfl rfl (fun j u h => cells_new wq [.int .i64 x1] 3 j u h) (by simp [Value.oneCell']) (by simp; omega) (by simp; omega) ?_
            intro v' w3 hown3 hgrow hnil
            obtain ⟨S, hS1, hS2⟩ := ownsRow_grownL (HOQ.out.alloc _) hgrow
            have HA2 := hid ((Kept.refl [] wq).alloc (.cells #[.int .i64 x1] 3))
            have HR3 := hid ((HRQ.out.kept HA2.out (by simp) (by simp)).kept hS1 (fun hx => by have := hS2 _ hx; omega) (fun hx => by have := hS2 _ hx; omega))
            have HK3 := hid ((HKQ.out.trans HA2.out (fun x hx => by cases hx)).trans hS1 (fun x hx => .inr (by have := hS2 x hx; omega)))
            have hsz3 : wq.heap.size ≤ w3.heap.size := Nat.le_trans HA2.out.size hS1.size
            have HO3 := hid hown3
            clear hown3 hgrow hnil hS1
            go_wp2_with fail
            go_roundg (rq.length - (j + 1))
            case measure => have := HB.out; omega
            case rel =>
              refine ⟨j + 1, by first | rfl | go_num, by have := HB.out; omega, Nat.le_refl _, ?_, HR3.out, HK3.out, by omega⟩
              show World.ownsRow _ _ _ _ _ _ _
              rw [HTK.out, HLP.out, if_pos rfl, ← List.append_assoc, List.map_append, List.length_append]
              exact HO3.out
          · have HLP := hid (show lateP now lim ⟨x1, x2, x3, x4⟩ = false by unfold lateP; dsimp only; rw [hsm]; exact decide_eq_false hlat)
            go_wp2_with fail
            go_quiet (fail)
            have hkq := ((Kept.refl [] wi).alloc (.cells #[.int .i64 x1, .bool x2, .int .i64 x3, .bool x4] 129)).drewN nq
            have z0 := ((Kept.refl [] _).drewN nq).cell (new_cell wi [.int .i64 x1, .bool x2, .int .i64 x3, .bool x4] 129 0 _ rfl) (by simp)
            have HOQ := hid (own_below HO2.out hkq (by simp))
            have HRQ := hid (HR2.out.kept hkq (by simp) (by simp))
            have HKQ := hid (HK2.out.trans hkq (fun x hx => by cases hx))
            have hszq := hkq.size
            clear d0 d1 d2 d3 a0 a1 a2 hkq HTA HOA HRA HKA
            generalize (wi.alloc (.cells #[.int .i64 x1, .bool x2, .int .i64 x3, .bool x4] 129)).drewN nq = wq at *
            go_wp2_with fail
            go_roundg (rq.length - (j + 1))
            case measure => have := HB.out; omega
            case rel =>
              refine ⟨j + 1, by first | rfl | go_num, by have := HB.out; omega, Nat.le_refl _, ?_, HRQ.out, HKQ.out, by omega⟩
              show World.ownsRow _ _ _ _ _ _ _
              rw [HTK.out, HLP.out, if_neg (by simp), List.append_nil]
              exact HOQ.out
        · obtain rfl : j = rq.length := by omega
          have hltz : ¬ (rq.length : Int) < (rq.length : Int) := by omega
          have HO4 := hid (show wi.ownsRow w0.heap.size 3 1 u5 (lates now lim (acc ++ [(x, (⟨P, hv, .slice qa rq.length qc, ⟨rh, rq⟩⟩ : RR))])).length ((lates now lim (acc ++ [(x, (⟨P, hv, .slice qa rq.length qc, ⟨rh, rq⟩⟩ : RR))])).map (Value.int .i64)) by
            rw [HSN.out]
            have := HO2.out
            rw [List.take_length] at this
            exact this)
          go_wp2_with fail
          go_roundg t'.length
          case measure => omega
          case rel => exact ⟨t', _, HO4.out, HPN.out, HR2.out, HK2.out, Nat.le_refl _, by omega⟩
    · refine Here.of ?_
      have ht : todo = [] := by
        cases todo with
        | nil => rfl
        | cons p t => simp [rowsL] at hd0
      subst ht
      have hperm : (lates now lim acc).Perm (lates now lim rs) := List.Perm.flatMap_right _ (by have := HPM.out; simpa using this)
      have hacc : acc.length = rs.length := by have := HPM.out.length_eq; simpa using this
      have hlt := lates_len now lim acc (fun p hp => HLE.out p (HPM.out.subset (List.mem_append_left _ hp)))
      refine (sortI_any _ w0.heap.size (lates now lim acc).length (lates now lim acc) wo HO.out rfl (by omega)).mono ?_
      rintro e w3 ⟨rfl, hown, hk3⟩
      rw [srtI_permeq hperm] at hown
      have hlen : (lates now lim acc).length = (srtI (lates now lim rs)).length := by rw [(srtI_perm _).length_eq, hperm.length_eq]
      rw [hlen] at hown
      have HO3 := hid hown
      have HK3 := hid (HK.out.trans hk3 (fun x hx => .inr (by have := HO.out.lt x (by simpa using hx); omega)))
      clear hown hk3 hlen hperm
      go_wp2_with fail
      go_returns
      exact ⟨_, rfl, ownsRow_base HO3.out (by omega), HK3.out⟩
--@@ end
theorem has_mem {l : List Wi} {tx : Int} : has l tx = true ↔ tx ∈ l.map (·.tx) := by
  rw [has_iff]; simp
theorem has_app (l m : List Wi) (tx : Int) : has (l ++ m) tx = (has l tx || has m tx) := by simp [has]
theorem has_cons (x : Wi) (l : List Wi) (tx : Int) : has (x :: l) tx = (decide (x.tx = tx) || has l tx) := by simp [has]
theorem has_grant (h : List Wi) (w : Wi) (tx : Int) (hn : (h.map (·.tx)).Nodup) : has (grantR h w) tx = (has h tx || decide (w.tx = tx)) := by
  rw [grantR_eq h w hn, Bool.eq_iff_iff, has_mem, grantM_tx]
  split
  · rename_i hh
    rw [Bool.or_eq_true, has_mem, decide_eq_true_eq]
    refine ⟨.inl, fun h => h.elim id fun e => ?_⟩
    rw [← e]; exact has_mem.1 hh
  · rw [Bool.or_eq_true, has_mem, decide_eq_true_eq, List.mem_append, List.mem_singleton]
    exact or_congr Iff.rfl ⟨fun e => e.symm, fun e => e.symm⟩
theorem has_drop (l : List Wi) (t tx : Int) : has (dropR l t) tx = (has l tx && decide (tx ≠ t)) := by
  rw [Bool.eq_iff_iff, has_iff, Bool.and_eq_true, has_iff, decide_eq_true_eq]
  unfold dropR
  constructor
  · rintro ⟨w, hw, rfl⟩
    rw [List.mem_filter, decide_eq_true_eq] at hw
    exact ⟨⟨w, hw.1, rfl⟩, hw.2⟩
  · rintro ⟨⟨w, hw, rfl⟩, hne⟩
    exact ⟨w, List.mem_filter.2 ⟨hw, by simpa using hne⟩, rfl⟩
theorem drop_id {l : List Wi} {t : Int} (h : has l t = false) : dropR l t = l := by
  unfold dropR
  rw [List.filter_eq_self]
  intro w hw
  simpa using has_false.1 h w hw
structure RowOk (h q : List Wi) : Prop where
  safe : Safe h
  qn : (q.map (·.tx)).Nodup
  hb : ∀ x ∈ h, 1 ≤ x.tx ∧ x.tx ≤ 1048576
  qb : ∀ x ∈ q, 1 ≤ x.tx ∧ x.tx ≤ 1048576
  ri : ∀ x ∈ q, x.ri = has h x.tx
  rx : ∀ x ∈ q, x.ri = true → x.ex = true
  ro : q.Pairwise (fun x y => y.ri = true → x.ri = true)
def Stop (h q : List Wi) : Prop := ∀ x q', q = x :: q' → mayR h x = false
theorem RowOk.nil : RowOk [] [] := ⟨Safe.nil, by simp, by simp, by simp, by simp, by simp, by simp⟩
theorem Stop.nil (h : List Wi) : Stop h [] := fun _ _ e => by cases e
theorem RowOk.grant {h q : List Wi} {w : Wi} (H : RowOk h q) (hm : mayR h w = true) (hx : has h w.tx = true → w.ex = true) (hw : 1 ≤ w.tx ∧ w.tx ≤ 1048576) (hq : has q w.tx = false) : RowOk (grantR h w) q := by
  refine ⟨H.safe.grant w hm hx, H.qn, fun y hy => ?_, H.qb, fun y hy => ?_, H.rx, H.ro⟩
  · have h1 : has (grantR h w) y.tx = true := has_iff.2 ⟨y, hy, rfl⟩
    rw [has_grant h w y.tx H.safe.n, Bool.or_eq_true, decide_eq_true_eq] at h1
    rcases h1 with h1 | h1
    · obtain ⟨z, hz, e⟩ := has_iff.1 h1
      have := H.hb z hz
      rw [e] at this; exact this
    · rw [← h1]; exact hw
  · rw [H.ri y hy, has_grant h w y.tx H.safe.n]
    have : w.tx ≠ y.tx := fun e => has_false.1 hq y hy e.symm
    simp [this]
theorem RowOk.tail {h q : List Wi} {x : Wi} (H : RowOk h (x :: q)) : RowOk h q :=
  ⟨H.safe, (List.nodup_cons.1 H.qn).2, H.hb, fun y hy => H.qb y (List.mem_cons_of_mem _ hy), fun y hy => H.ri y (List.mem_cons_of_mem _ hy), fun y hy => H.rx y (List.mem_cons_of_mem _ hy), (List.pairwise_cons.1 H.ro).2⟩
theorem RowOk.drop {h q : List Wi} (H : RowOk h q) (tx : Int) : RowOk (dropR h tx) (dropR q tx) :=
  ⟨H.safe.drop tx, H.qn.sublist (List.filter_sublist.map _), fun x hx => H.hb x (List.mem_filter.1 hx).1, fun x hx => H.qb x (List.mem_filter.1 hx).1,
    fun x hx => by
      have h1 := List.mem_filter.1 hx
      rw [H.ri x h1.1, has_drop, h1.2]; simp,
    fun x hx => H.rx x (List.mem_filter.1 hx).1, H.ro.sublist List.filter_sublist⟩
theorem RowOk.dropq {h q : List Wi} (H : RowOk h q) (tx : Int) : RowOk h (dropR q tx) :=
  ⟨H.safe, H.qn.sublist (List.filter_sublist.map _), H.hb, fun x hx => H.qb x (List.mem_filter.1 hx).1, fun x hx => H.ri x (List.mem_filter.1 hx).1, fun x hx => H.rx x (List.mem_filter.1 hx).1, H.ro.sublist List.filter_sublist⟩
theorem onR_same {h q : List Wi} (hs : Stop h q) : onR h q = (h, q) := by
  cases q with
  | nil => exact onR_nil h
  | cons x q => exact onR_stop (hs x q rfl)
theorem onR_ok : ∀ (q h : List Wi), RowOk h q → RowOk (onR h q).1 (onR h q).2 ∧ Stop (onR h q).1 (onR h q).2 ∧ (∃ g, q = g ++ (onR h q).2) ∧ (∀ tx, how h tx ≤ how (onR h q).1 tx) ∧ ∀ tx, has (onR h q).1 tx = true → has h tx = true ∨ has q tx = true
  | [], h, H => by
    rw [onR_nil]
    exact ⟨H, Stop.nil h, ⟨[], rfl⟩, fun tx => Int.le_refl _, fun tx h => .inl h⟩
  | x :: q, h, H => by
    cases hm : mayR h x with
    | false =>
      rw [onR_stop hm]
      refine ⟨H, fun y q' e => ?_, ⟨[], rfl⟩, fun tx => Int.le_refl _, fun tx h => .inl h⟩
      injection e with e1 e2
      rw [← e1]; exact hm
    | true =>
      rw [onR_go hm]
      have hq : has q x.tx = false := by
        have := (List.nodup_cons.1 H.qn).1
        cases hh : has q x.tx with
        | false => rfl
        | true => exact absurd (has_mem.1 hh) this
      have H1 := H.tail.grant hm (fun hh => H.rx x List.mem_cons_self (by rw [H.ri x List.mem_cons_self]; exact hh)) (H.qb x List.mem_cons_self) hq
      obtain ⟨i1, i2, ⟨g, i3⟩, i4, i5⟩ := onR_ok q (grantR h x) H1
      refine ⟨i1, i2, ⟨x :: g, by rw [List.cons_append, ← i3]⟩, fun tx => Int.le_trans (how_grant h x H.safe.n tx) (i4 tx), fun tx ht => ?_⟩
      rcases i5 tx ht with h1 | h1
      · rw [has_grant h x tx H.safe.n, Bool.or_eq_true, decide_eq_true_eq] at h1
        rcases h1 with h1 | h1
        · exact .inl h1
        · exact .inr (by rw [has_cons]; simp [h1])
      · exact .inr (by rw [has_cons, h1]; simp)
section
variable {t : Ta} {k j : K4} {r : Ro} {tx : Int}
theorem Ta.row_need : (t.need k).row j = t.row j := by
  unfold Ta.need
  split
  · rfl
  · rename_i hs
    have hn : aget k t.rows = none := by
      cases hg : aget k t.rows with
      | none => rfl
      | some v => rw [hg] at hs; simp at hs
    unfold Ta.row
    dsimp only
    rw [← tput_none k ⟨[], []⟩ hn, tget_put]
    by_cases e : k = j
    · subst e; rw [if_pos rfl, hn]; rfl
    · rw [if_neg e]
theorem Ta.row_setRow : (t.setRow k r).row j = if k = j then r else t.row j := by
  unfold Ta.row Ta.setRow
  dsimp only
  rw [tget_put]
  split <;> rfl
theorem Ta.kn_need (h : (t.rows.map (·.1)).Nodup) : ((t.need k).rows.map (·.1)).Nodup := by
  unfold Ta.need
  split
  · exact h
  · rename_i hs
    have hn : aget k t.rows = none := by
      cases hg : aget k t.rows with
      | none => rfl
      | some v => rw [hg] at hs; simp at hs
    dsimp only
    rw [← tput_none k ⟨[], []⟩ hn]
    exact tput_nodup _ _ _ h
theorem Ta.kn_set (h : (t.rows.map (·.1)).Nodup) : (((t.need k).setRow k r).rows.map (·.1)).Nodup := tput_nodup _ _ _ (Ta.kn_need h)
theorem Ta.row_both : ((t.need k).setRow k r).row j = if k = j then r else t.row j := by rw [Ta.row_setRow, Ta.row_need]
theorem Ta.waits_need : (t.need k).waits = t.waits := by unfold Ta.need; split <;> rfl
theorem Ta.waits_set : ((t.need k).setRow k r).waits = t.waits := Ta.waits_need
theorem Ta.row_on (hn : (t.rows.map (·.1)).Nodup) : (t.on k).row j = if k = j then ⟨(onR (t.row k).h (t.row k).q).1, (onR (t.row k).h (t.row k).q).2⟩ else t.row j := by
  have hb := Ta.row_both (t := t) (k := k) (j := j) (r := ⟨(onR (t.row k).h (t.row k).q).1, (onR (t.row k).h (t.row k).q).2⟩)
  have hk := Ta.kn_set (k := k) (r := ⟨(onR (t.row k).h (t.row k).q).1, (onR (t.row k).h (t.row k).q).2⟩) hn
  unfold Ta.on
  dsimp only
  by_cases hz : (onR (t.row k).h (t.row k).q).1.length + (onR (t.row k).h (t.row k).q).2.length = 0
  · rw [if_pos hz]
    show (aget j (adel k _)).getD _ = _
    rw [tget_del _ _ _ hk]
    by_cases e : k = j
    · rw [if_pos e, if_pos e]
      have h1 : (onR (t.row k).h (t.row k).q).1 = [] := List.eq_nil_of_length_eq_zero (by omega)
      have h2 : (onR (t.row k).h (t.row k).q).2 = [] := List.eq_nil_of_length_eq_zero (by omega)
      rw [h1, h2]; rfl
    · rw [if_neg e]
      exact hb
  · rw [if_neg hz]
    exact hb
theorem Ta.kn_on (hn : (t.rows.map (·.1)).Nodup) : ((t.on k).rows.map (·.1)).Nodup := by
  have hk := Ta.kn_set (k := k) (r := ⟨(onR (t.row k).h (t.row k).q).1, (onR (t.row k).h (t.row k).q).2⟩) hn
  unfold Ta.on
  dsimp only
  split
  · exact tdel_nodup _ _ hk
  · exact hk
theorem fold_adel (tx : Int) : ∀ (g : List Wi) (ws : List (Int × K4)), (ws.map (·.1)).Nodup → ((g.foldl (fun ws w => adel w.tx ws) ws).map (·.1)).Nodup ∧ aget tx (g.foldl (fun ws w => adel w.tx ws) ws) = if has g tx = true then none else aget tx ws
  | [], ws, h => ⟨h, by simp [has]⟩
  | x :: g, ws, h => by
    obtain ⟨h1, h2⟩ := fold_adel tx g (adel x.tx ws) (tdel_nodup _ _ h)
    refine ⟨h1, ?_⟩
    rw [List.foldl_cons, h2, tget_del _ _ _ h, has_cons]
    by_cases e : x.tx = tx
    · simp [e]
    · simp [e]
structure SemiOk (t : Ta) : Prop where
  kn : (t.rows.map (·.1)).Nodup
  wn : (t.waits.map (·.1)).Nodup
  row : ∀ k, RowOk (t.row k).h (t.row k).q
  wq : ∀ tx k, aget tx t.waits = some k ↔ has (t.row k).q tx = true
structure TaOk (t : Ta) : Prop extends SemiOk t where
  stop : ∀ k, Stop (t.row k).h (t.row k).q
theorem SemiOk.one (H : SemiOk t) {i : K4} (h1 : has (t.row k).q tx = true) (h2 : has (t.row i).q tx = true) : k = i := by
  have e1 := (H.wq tx k).2 h1
  have e2 := (H.wq tx i).2 h2
  rw [e1] at e2
  exact Option.some.inj e2
theorem SemiOk.on (H : SemiOk t) (k : K4) : SemiOk (t.on k) := by
  obtain ⟨r1, r2, ⟨g, r3⟩, r4, r5⟩ := onR_ok _ _ (H.row k)
  have hw : (t.on k).waits = ((t.row k).q.take ((t.row k).q.length - (onR (t.row k).h (t.row k).q).2.length)).foldl (fun ws w => adel w.tx ws) t.waits := rfl
  have hg : (t.row k).q.take ((t.row k).q.length - (onR (t.row k).h (t.row k).q).2.length) = g := by
    have hl := congrArg List.length r3
    rw [List.length_append] at hl
    rw [hl, Nat.add_sub_cancel]
    exact (congrArg (List.take g.length) r3).trans List.take_left
  rw [hg] at hw
  refine ⟨Ta.kn_on H.kn, ?_, fun j => ?_, fun tx j => ?_⟩
  · rw [hw]; exact (fold_adel 0 g t.waits H.wn).1
  · rw [Ta.row_on H.kn]
    split
    · exact r1
    · exact H.row j
  · rw [hw, (fold_adel tx g t.waits H.wn).2, Ta.row_on H.kn]
    have hq : has (t.row k).q tx = (has g tx || has (onR (t.row k).h (t.row k).q).2 tx) := (congrArg (fun l => has l tx) r3).trans (has_app _ _ _)
    have hnd : has g tx = true → has (onR (t.row k).h (t.row k).q).2 tx = false := fun hh => by
      have hn := (H.row k).qn
      have hn2 := (congrArg (fun l => (l.map (·.tx)).Nodup) r3).mp hn
      rw [List.map_append, List.nodup_append] at hn2
      cases h2 : has (onR (t.row k).h (t.row k).q).2 tx with
      | false => rfl
      | true => exact absurd rfl (hn2.2.2 tx (has_mem.1 hh) tx (has_mem.1 h2))
    cases hgt : has g tx with
    | true =>
      rw [if_pos rfl]
      have hk : has (t.row k).q tx = true := by rw [hq, hgt]; rfl
      constructor
      · intro e; cases e
      · intro e
        exfalso
        by_cases hkj : k = j
        · rw [if_pos hkj] at e
          have := hnd hgt
          rw [this] at e; cases e
        · rw [if_neg hkj] at e
          exact hkj (H.one hk e)
    | false =>
      rw [if_neg (by simp), H.wq tx j]
      by_cases hkj : k = j
      · rw [if_pos hkj, ← hkj, hq, hgt, Bool.false_or]
      · rw [if_neg hkj]
theorem SemiOk.foldOn : ∀ (ks : List K4) {t : Ta}, SemiOk t → SemiOk (ks.foldl Ta.on t) ∧ ∀ j, (ks.foldl Ta.on t).row j = if j ∈ ks then ⟨(onR (t.row j).h (t.row j).q).1, (onR (t.row j).h (t.row j).q).2⟩ else t.row j
  | [], t, H => ⟨H, fun j => by simp⟩
  | k :: ks, t, H => by
    obtain ⟨h1, h2⟩ := SemiOk.foldOn ks (H.on k)
    refine ⟨h1, fun j => ?_⟩
    rw [List.foldl_cons, h2, Ta.row_on H.kn]
    by_cases e : k = j
    · subst e
      rw [if_pos rfl]
      dsimp only
      rw [onR_same (onR_ok _ _ (H.row k)).2.1]
      simp
    · rw [if_neg e]
      have : (j ∈ k :: ks) = (j ∈ ks) := by simp [Ne.symm e]
      simp only [this]
theorem Ta.foldDrop (tx : Int) : ∀ (ks : List K4) (t : Ta), (t.rows.map (·.1)).Nodup → ((ks.foldl (Ta.drop1 tx) t).rows.map (·.1)).Nodup ∧ (ks.foldl (Ta.drop1 tx) t).waits = t.waits ∧ ∀ j, (ks.foldl (Ta.drop1 tx) t).row j = if j ∈ ks then ⟨dropR (t.row j).h tx, dropR (t.row j).q tx⟩ else t.row j
  | [], t, h => ⟨h, rfl, fun j => by simp⟩
  | k :: ks, t, h => by
    obtain ⟨h1, h2, h3⟩ := Ta.foldDrop tx ks (t.drop1 tx k) (Ta.kn_set h)
    refine ⟨h1, h2.trans Ta.waits_set, fun j => ?_⟩
    have hr : (t.drop1 tx k).row j = if k = j then ⟨dropR (t.row k).h tx, dropR (t.row k).q tx⟩ else t.row j := Ta.row_both
    have hd : ∀ l : List Wi, dropR (dropR l tx) tx = dropR l tx := fun l => drop_id (by rw [has_drop]; simp)
    rw [List.foldl_cons, h3, hr]
    by_cases e : k = j
    · subst e
      rw [if_pos rfl]
      dsimp only
      rw [hd, hd]
      simp
    · rw [if_neg e]
      have : (j ∈ k :: ks) = (j ∈ ks) := by simp [Ne.symm e]
      simp only [this]
theorem Ta.row_mem (hn : (t.rows.map (·.1)).Nodup) : (k, r) ∈ t.rows → t.row k = r := fun h => by
  unfold Ta.row; rw [tget_of_mem hn h]; rfl
theorem mem_keysS (hn : (t.rows.map (·.1)).Nodup) (p : Ro → Bool) (hp : p ⟨[], []⟩ = false) : k ∈ t.keysS p ↔ p (t.row k) = true := by
  unfold Ta.keysS
  rw [(sortK_perm _).mem_iff, List.mem_map]
  constructor
  · rintro ⟨⟨k', r⟩, h1, rfl⟩
    rw [List.mem_filter] at h1
    rw [Ta.row_mem hn h1.1]
    exact h1.2
  · intro h
    unfold Ta.row at h
    cases hg : aget k t.rows with
    | none => rw [hg] at h; simp only [Option.getD_none] at h; rw [hp] at h; cases h
    | some r =>
      rw [hg] at h
      exact ⟨(k, r), List.mem_filter.2 ⟨tget_mem hg, h⟩, rfl⟩
theorem mem_keysT (hn : (t.rows.map (·.1)).Nodup) : k ∈ t.keysT tx ↔ has (t.row k).h tx = true := by
  unfold Ta.keysT
  rw [mem_keysS hn _ rfl, heldAt_isSome]
theorem mem_heldT (hn : (t.rows.map (·.1)).Nodup) : k ∈ t.heldT ↔ (t.row k).h ≠ [] := by
  unfold Ta.heldT
  rw [mem_keysS hn _ rfl, decide_eq_true_eq, List.length_pos_iff]
theorem mem_ownT (H : SemiOk t) : k ∈ t.ownT tx ↔ has (t.row k).h tx = true ∨ has (t.row k).q tx = true := by
  unfold Ta.ownT
  rw [mem_compK, (sortK_perm _).mem_iff, List.mem_append, mem_keysT H.kn, ← H.wq tx k, Option.mem_toList]
theorem TaOk.free (H : TaOk t) (tx : Int) : TaOk (t.freeT tx) ∧ ∀ k, (t.freeT tx).row k = ⟨(onR (dropR (t.row k).h tx) (dropR (t.row k).q tx)).1, (onR (dropR (t.row k).h tx) (dropR (t.row k).q tx)).2⟩ := by
  obtain ⟨d1, d2, d3⟩ := Ta.foldDrop tx (t.ownT tx) { t with waits := adel tx t.waits } H.kn
  have d4 : ∀ j, ((t.ownT tx).foldl (Ta.drop1 tx) { t with waits := adel tx t.waits }).row j = ⟨dropR (t.row j).h tx, dropR (t.row j).q tx⟩ := fun j => by
    rw [d3]
    show (if j ∈ t.ownT tx then (⟨dropR (t.row j).h tx, dropR (t.row j).q tx⟩ : Ro) else t.row j) = _
    split
    · rfl
    · rename_i hj
      rw [mem_ownT H.toSemiOk, not_or, Bool.not_eq_true, Bool.not_eq_true] at hj
      rw [drop_id hj.1, drop_id hj.2]
  have hS : SemiOk ((t.ownT tx).foldl (Ta.drop1 tx) { t with waits := adel tx t.waits }) := by
    refine ⟨d1, ?_, fun k => ?_, fun x k => ?_⟩
    · rw [d2]; exact tdel_nodup _ _ H.wn
    · rw [d4]; exact (H.row k).drop tx
    · rw [d2, d4]
      show aget x (adel tx t.waits) = some k ↔ has (dropR (t.row k).q tx) x = true
      rw [tget_del _ _ _ H.wn, has_drop, Bool.and_eq_true, decide_eq_true_eq, ← H.wq x k]
      by_cases e : tx = x
      · subst e; simp
      · rw [if_neg e]
        exact ⟨fun h => ⟨h, fun e' => e e'.symm⟩, fun h => h.1⟩
  obtain ⟨o1, o2⟩ := SemiOk.foldOn (t.ownT tx) hS
  have o3 : ∀ k, (t.freeT tx).row k = ⟨(onR (dropR (t.row k).h tx) (dropR (t.row k).q tx)).1, (onR (dropR (t.row k).h tx) (dropR (t.row k).q tx)).2⟩ := fun k => by
    have := o2 k
    rw [d4] at this
    refine this.trans ?_
    split
    · rfl
    · rename_i hj
      rw [mem_ownT H.toSemiOk, not_or, Bool.not_eq_true, Bool.not_eq_true] at hj
      rw [drop_id hj.1, drop_id hj.2, onR_same (H.stop k)]
  exact ⟨⟨o1, fun k => by rw [o3]; exact (onR_ok _ _ ((H.row k).drop tx)).2.1⟩, o3⟩
theorem TaOk.quit (H : TaOk t) (tx : Int) : TaOk (t.quit tx).2 ∧ ∀ k x, how (t.row k).h x ≤ how ((t.quit tx).2.row k).h x := by
  unfold Ta.quit
  cases hw : aget tx t.waits with
  | none => exact ⟨H, fun k x => Int.le_refl _⟩
  | some k =>
    dsimp only
    have hr : ∀ j, (((Ta.need { t with waits := adel tx t.waits } k).setRow k ⟨(Ta.row { t with waits := adel tx t.waits } k).h, dropR (Ta.row { t with waits := adel tx t.waits } k).q tx⟩)).row j = ⟨(t.row j).h, dropR (t.row j).q tx⟩ := fun j => by
      rw [Ta.row_both]
      show (if k = j then (⟨(t.row k).h, dropR (t.row k).q tx⟩ : Ro) else t.row j) = _
      by_cases e : k = j
      · subst e; rw [if_pos rfl]
      · rw [if_neg e, drop_id]
        cases h2 : has (t.row j).q tx with
        | false => rfl
        | true => exact absurd (H.one ((H.wq tx k).1 hw) h2) e
    have hS : SemiOk ((Ta.need { t with waits := adel tx t.waits } k).setRow k ⟨(Ta.row { t with waits := adel tx t.waits } k).h, dropR (Ta.row { t with waits := adel tx t.waits } k).q tx⟩) := by
      refine ⟨Ta.kn_set H.kn, ?_, fun j => ?_, fun x j => ?_⟩
      · rw [Ta.waits_set]; exact tdel_nodup _ _ H.wn
      · rw [hr]; exact (H.row j).dropq tx
      · rw [Ta.waits_set, hr]
        show aget x (adel tx t.waits) = some j ↔ has (dropR (t.row j).q tx) x = true
        rw [tget_del _ _ _ H.wn, has_drop, Bool.and_eq_true, decide_eq_true_eq, ← H.wq x j]
        by_cases e : tx = x
        · subst e; simp
        · rw [if_neg e]
          exact ⟨fun h => ⟨h, fun e' => e e'.symm⟩, fun h => h.1⟩
    have hrow : ∀ j, (Ta.on ((Ta.need { t with waits := adel tx t.waits } k).setRow k ⟨(Ta.row { t with waits := adel tx t.waits } k).h, dropR (Ta.row { t with waits := adel tx t.waits } k).q tx⟩) k).row j = if k = j then ⟨(onR (t.row k).h (dropR (t.row k).q tx)).1, (onR (t.row k).h (dropR (t.row k).q tx)).2⟩ else t.row j := fun j => by
      rw [Ta.row_on hS.kn, hr]
      split
      · rfl
      · rename_i e
        rw [hr, drop_id]
        cases h2 : has (t.row j).q tx with
        | false => rfl
        | true => exact absurd (H.one ((H.wq tx k).1 hw) h2) e
    refine ⟨⟨hS.on k, fun j => ?_⟩, fun j x => ?_⟩
    · rw [hrow]
      split
      · exact (onR_ok _ _ ((H.row k).dropq tx)).2.1
      · exact H.stop j
    · rw [hrow]
      split
      · rename_i e
        subst e
        exact (onR_ok _ _ ((H.row k).dropq tx)).2.2.2.1 x
      · exact Int.le_refl _
end
theorem how_nil (tx : Int) : how [] tx = 0 := rfl
theorem holds_how (t : Ta) (tx : Int) (k : K4) : t.holds tx k = how (t.row k).h tx := by
  unfold Ta.holds Ta.row
  cases aget k t.rows with
  | none => rfl
  | some r => exact (how_heldAt r.h tx).symm
theorem waitR_perm (q : List Wi) (w : Wi) : (waitR q w).Perm (w :: q) := by
  unfold waitR
  refine List.perm_middle.trans ?_
  rw [List.take_append_drop]
theorem mem_waitR {q : List Wi} {w x : Wi} : x ∈ waitR q w ↔ x = w ∨ x ∈ q := by
  rw [(waitR_perm q w).mem_iff, List.mem_cons]
theorem has_waitR (q : List Wi) (w : Wi) (tx : Int) : has (waitR q w) tx = (decide (w.tx = tx) || has q tx) := by
  rw [← has_cons, Bool.eq_iff_iff, has_iff, has_iff]
  constructor
  · rintro ⟨x, hx, e⟩; exact ⟨x, (waitR_perm q w).mem_iff.1 hx, e⟩
  · rintro ⟨x, hx, e⟩; exact ⟨x, (waitR_perm q w).mem_iff.2 hx, e⟩
theorem waitAt_ri {q : List Wi} {w : Wi} (h : w.ri = true) : ∀ x ∈ q.take (waitAt q w), x.ri = true := by
  intro x hx
  unfold waitAt at hx
  rw [if_pos h] at hx
  cases hf : q.findIdx? (fun x => !x.ri) with
  | none =>
    rw [List.findIdx?_eq_none_iff] at hf
    have := hf x (List.mem_of_mem_take hx)
    simpa using this
  | some i =>
    rw [hf, Option.getD_some] at hx
    rw [List.findIdx?_eq_some_iff_getElem] at hf
    obtain ⟨hi, _, hall⟩ := hf
    obtain ⟨j, hj, rfl⟩ := List.mem_iff_getElem.1 hx
    rw [List.length_take] at hj
    have := hall j (by omega)
    rw [List.getElem_take]
    simpa using this
theorem RowOk.wait {h q : List Wi} {w : Wi} (H : RowOk h q) (hq : has q w.tx = false) (hw : 1 ≤ w.tx ∧ w.tx ≤ 1048576) (hri : w.ri = has h w.tx) (hrx : w.ri = true → w.ex = true) : RowOk h (waitR q w) := by
  refine ⟨H.safe, ?_, H.hb, fun x hx => ?_, fun x hx => ?_, fun x hx => ?_, ?_⟩
  · rw [((waitR_perm q w).map (·.tx)).nodup_iff, List.map_cons, List.nodup_cons]
    refine ⟨fun hm => ?_, H.qn⟩
    rw [has_mem.2 hm] at hq; cases hq
  · rcases mem_waitR.1 hx with rfl | hx
    · exact hw
    · exact H.qb x hx
  · rcases mem_waitR.1 hx with rfl | hx
    · exact hri
    · exact H.ri x hx
  · rcases mem_waitR.1 hx with rfl | hx
    · exact hrx
    · exact H.rx x hx
  · have hro := H.ro
    have e : q = q.take (waitAt q w) ++ q.drop (waitAt q w) := (List.take_append_drop _ _).symm
    rw [e, List.pairwise_append] at hro
    unfold waitR
    rw [List.pairwise_append, List.pairwise_cons]
    refine ⟨hro.1, ⟨fun y hy hyr => ?_, hro.2.1⟩, fun x hx y hy hyr => ?_⟩
    · cases hwr : w.ri with
      | true => rfl
      | false =>
        unfold waitAt at hy
        rw [if_neg (by rw [hwr]; simp), List.drop_length] at hy
        cases hy
    · rcases List.mem_cons.1 hy with rfl | hy
      · exact waitAt_ri hyr x hx
      · exact hro.2.2 x hx y hy hyr
theorem Stop.wait {h q : List Wi} {w : Wi} (hs : Stop h q) (hm : ¬ (mayR h w = true ∧ (q = [] ∨ w.ri = true))) : Stop h (waitR q w) := by
  have hf : (q = [] ∨ w.ri = true) → mayR h w = false := fun h1 => by
    cases hh : mayR h w with
    | false => rfl
    | true => exact absurd ⟨hh, h1⟩ hm
  intro x q' e
  unfold waitR at e
  by_cases hz : waitAt q w = 0
  · rw [hz, List.take_zero, List.nil_append] at e
    injection e with e1 e2
    rw [← e1]
    refine hf ?_
    by_cases hr : w.ri = true
    · exact .inr hr
    · unfold waitAt at hz
      rw [if_neg hr] at hz
      exact .inl (List.eq_nil_of_length_eq_zero hz)
  · cases q with
    | nil => exact absurd (by have := waitAt_le [] w; simpa using this) hz
    | cons y q =>
      obtain ⟨n, hn⟩ : ∃ n, waitAt (y :: q) w = n + 1 := ⟨waitAt (y :: q) w - 1, by omega⟩
      rw [hn, List.take_succ_cons, List.cons_append] at e
      injection e with e1 e2
      rw [← e1]
      exact hs y q rfl
theorem Stop.grant {h q : List Wi} {w : Wi} (hn : (h.map (·.tx)).Nodup) (hq : has q w.tx = false) (hm : q = [] ∨ w.ri = true) (hri : w.ri = has h w.tx) : Stop (grantR h w) q := by
  intro y q' e
  rcases hm with hm | hm
  · rw [hm] at e; cases e
  · have hh : has h w.tx = true := by rw [← hri]; exact hm
    obtain ⟨x, hx, hxt⟩ := has_iff.1 hh
    have hmem : setEx x ∈ grantR h w := by
      rw [grantR_eq h w hn]
      unfold grantM
      rw [if_pos hh]
      exact List.mem_map.2 ⟨x, hx, by rw [if_pos hxt]⟩
    have hne : (setEx x).tx ≠ y.tx := fun e' => has_false.1 hq y (by rw [e]; exact List.mem_cons_self) (e'.symm.trans hxt)
    cases hmy : mayR (grantR h w) y with
    | false => rfl
    | true =>
      have := (mayR_iff.1 hmy _ hmem hne).1
      cases this
section
variable {t : Ta} {k : K4} {tx : Int}
theorem TaOk.ask (H : TaOk t) (tx : Int) (k : K4) (ex : Bool) (now : Int) : TaOk (t.ask tx k ex now).2 ∧ ∀ j x, how (t.row j).h x ≤ how ((t.ask tx k ex now).2.row j).h x := by
  unfold Ta.ask
  rw [holds_how]
  by_cases h1 : tx < 1 ∨ tx > 1048576 ∨ now < 0 ∨ now > 1099511627776
  · rw [if_pos h1]; exact ⟨H, fun _ _ => Int.le_refl _⟩
  rw [if_neg h1]
  dsimp only
  by_cases h2 : how (t.row k).h tx = 2 ∨ (how (t.row k).h tx = 1 ∧ ex = false)
  · rw [if_pos h2]; exact ⟨H, fun _ _ => Int.le_refl _⟩
  rw [if_neg h2]
  cases hw : aget tx t.waits with
  | some other =>
    dsimp only
    split <;> exact ⟨H, fun _ _ => Int.le_refl _⟩
  | none =>
    dsimp only
    have hq : ∀ j, has (t.row j).q tx = false := fun j => by
      cases hh : has (t.row j).q tx with
      | false => rfl
      | true => have := (H.wq tx j).2 hh; rw [hw] at this; cases this
    have hb := how_bounds (t.row k).h tx
    have hp := how_pos (h := (t.row k).h) (tx := tx)
    have hri : decide (how (t.row k).h tx = 1) = has (t.row k).h tx := by
      cases hh : has (t.row k).h tx with
      | false => rw [how_none hh]; rfl
      | true =>
        have := hp.2 hh
        refine decide_eq_true ?_
        omega
    have hex : has (t.row k).h tx = true → ex = true := fun hh => by
      have := hp.2 hh
      cases ex with
      | true => rfl
      | false =>
        refine absurd ?_ h2
        by_cases e : how (t.row k).h tx = 2
        · exact .inl e
        · exact .inr ⟨by omega, rfl⟩
    have hwx : (1 : Int) ≤ tx ∧ tx ≤ 1048576 := by omega
    have e3 : (⟨tx, ex, now, decide (how (t.row k).h tx = 1)⟩ : Wi).ri = has (t.row k).h tx := hri
    by_cases hm : mayR (t.row k).h ⟨tx, ex, now, decide (how (t.row k).h tx = 1)⟩ = true ∧ ((t.row k).q = [] ∨ decide (how (t.row k).h tx = 1) = true)
    · rw [if_pos hm]
      dsimp only
      have hR : RowOk (grantR (t.row k).h ⟨tx, ex, now, decide (how (t.row k).h tx = 1)⟩) (t.row k).q := (H.row k).grant hm.1 hex hwx (hq k)
      refine ⟨⟨⟨Ta.kn_set H.kn, by rw [Ta.waits_set]; exact H.wn, fun j => ?_, fun x j => ?_⟩, fun j => ?_⟩, fun j x => ?_⟩
      · rw [Ta.row_both]; split
        · exact hR
        · exact H.row j
      · rw [Ta.waits_set, Ta.row_both, H.wq x j]
        by_cases e : k = j
        · subst e; rw [if_pos rfl]
        · rw [if_neg e]
      · rw [Ta.row_both]; split
        · exact Stop.grant (H.row k).safe.n (hq k) hm.2 e3
        · exact H.stop j
      · rw [Ta.row_both]; split
        · rename_i e; subst e
          exact how_grant _ _ (H.row k).safe.n x
        · exact Int.le_refl _
    · rw [if_neg hm]
      dsimp only
      have hR : RowOk (t.row k).h (waitR (t.row k).q ⟨tx, ex, now, decide (how (t.row k).h tx = 1)⟩) := (H.row k).wait (hq k) hwx e3 (fun hr => hex (e3.symm.trans hr))
      have hrow : ∀ j, Ta.row { (t.need k).setRow k ⟨(t.row k).h, waitR (t.row k).q ⟨tx, ex, now, decide (how (t.row k).h tx = 1)⟩⟩ with waits := aput tx k t.waits } j = if k = j then ⟨(t.row k).h, waitR (t.row k).q ⟨tx, ex, now, decide (how (t.row k).h tx = 1)⟩⟩ else t.row j := fun j => Ta.row_both
      refine ⟨⟨⟨Ta.kn_set H.kn, tput_nodup _ _ _ H.wn, fun j => ?_, fun x j => ?_⟩, fun j => ?_⟩, fun j x => ?_⟩
      · rw [hrow]; split
        · exact hR
        · exact H.row j
      · rw [hrow]
        show aget x (aput tx k t.waits) = some j ↔ _
        rw [tget_put]
        by_cases e : k = j
        · subst e
          rw [if_pos rfl]
          dsimp only
          rw [has_waitR, Bool.or_eq_true, decide_eq_true_eq, ← H.wq x k]
          by_cases et : tx = x
          · rw [if_pos et]; simp [et]
          · rw [if_neg et]; simp [et]
        · rw [if_neg e]
          by_cases et : tx = x
          · rw [if_pos et, ← et, hq j]
            constructor
            · intro h; exact absurd (Option.some.inj h) e
            · intro h; cases h
          · rw [if_neg et, H.wq x j]
      · rw [hrow]; split
        · exact (H.stop k).wait hm
        · exact H.stop j
      · rw [hrow]; split
        · rename_i e; subst e; exact Int.le_refl _
        · exact Int.le_refl _
theorem Ta.need_len : (t.need k).rows.length = if (aget k t.rows).isSome = true then t.rows.length else t.rows.length + 1 := by
  unfold Ta.need
  split <;> simp
theorem Ta.need_get : (aget k (t.need k).rows).isSome = true := by
  unfold Ta.need
  split
  · assumption
  · rename_i hs
    have hn : aget k t.rows = none := by
      cases hg : aget k t.rows with
      | none => rfl
      | some v => rw [hg] at hs; simp at hs
    dsimp only
    rw [← tput_none k ⟨[], []⟩ hn, tget_put, if_pos rfl]; rfl
theorem Ta.both_len {r : Ro} : ((t.need k).setRow k r).rows.length = if (aget k t.rows).isSome = true then t.rows.length else t.rows.length + 1 := by
  unfold Ta.setRow
  dsimp only
  rw [tput_len, if_pos Ta.need_get, Ta.need_len]
theorem Ta.on_len : (t.on k).rows.length ≤ t.rows.length := by
  have hb := Ta.both_len (t := t) (k := k) (r := ⟨(onR (t.row k).h (t.row k).q).1, (onR (t.row k).h (t.row k).q).2⟩)
  have hg : (aget k ((t.need k).setRow k ⟨(onR (t.row k).h (t.row k).q).1, (onR (t.row k).h (t.row k).q).2⟩).rows).isSome = true := by
    unfold Ta.setRow
    dsimp only
    rw [tget_put, if_pos rfl]; rfl
  unfold Ta.on
  dsimp only
  by_cases hs : (aget k t.rows).isSome = true
  · rw [if_pos hs] at hb
    split
    · rw [tdel_len, if_pos hg, hb]; omega
    · rw [hb]; exact Nat.le_refl _
  · rw [if_neg hs] at hb
    have hr : t.row k = ⟨[], []⟩ := by
      unfold Ta.row
      cases hg : aget k t.rows with
      | none => rfl
      | some v => rw [hg] at hs; simp at hs
    rw [if_pos (by rw [hr, onR_nil]; rfl), tdel_len, if_pos hg, hb]; omega
theorem Ta.foldOn_len : ∀ (ks : List K4) (t : Ta), (ks.foldl Ta.on t).rows.length ≤ t.rows.length
  | [], t => Nat.le_refl _
  | k :: ks, t => Nat.le_trans (Ta.foldOn_len ks (t.on k)) Ta.on_len
theorem Ta.foldDrop_len (tx : Int) : ∀ (ks : List K4) (t : Ta), (∀ k ∈ ks, (aget k t.rows).isSome = true) → (ks.foldl (Ta.drop1 tx) t).rows.length = t.rows.length
  | [], t, _ => rfl
  | k :: ks, t, h => by
    have hk := h k List.mem_cons_self
    have h1 : (t.drop1 tx k).rows.length = t.rows.length := by unfold Ta.drop1; rw [Ta.both_len, if_pos hk]
    refine (Ta.foldDrop_len tx ks (t.drop1 tx k) fun j hj => ?_).trans h1
    unfold Ta.drop1 Ta.setRow Ta.need
    rw [if_pos hk]
    dsimp only
    rw [tget_put]
    split
    · rfl
    · exact h j (List.mem_cons_of_mem _ hj)
theorem Ta.row_some (h : t.row k ≠ ⟨[], []⟩) : (aget k t.rows).isSome = true := by
  cases hg : aget k t.rows with
  | some v => rfl
  | none => exact absurd (by unfold Ta.row; rw [hg]; rfl) h
theorem has_row_some (h : has (t.row k).h tx = true ∨ has (t.row k).q tx = true) : (aget k t.rows).isSome = true := Ta.row_some fun e => by
  rw [e] at h
  rcases h with h | h <;> cases h
theorem TaOk.free_len (H : TaOk t) (tx : Int) : (t.freeT tx).rows.length ≤ t.rows.length := by
  unfold Ta.freeT
  refine Nat.le_trans (Ta.foldOn_len _ _) (Nat.le_of_eq (Ta.foldDrop_len tx _ { t with waits := adel tx t.waits } fun k hk => ?_))
  exact has_row_some ((mem_ownT H.toSemiOk).1 hk)
theorem TaOk.quit_len (H : TaOk t) (tx : Int) : (t.quit tx).2.rows.length ≤ t.rows.length := by
  unfold Ta.quit
  cases hw : aget tx t.waits with
  | none => exact Nat.le_refl _
  | some k =>
    dsimp only
    refine Nat.le_trans Ta.on_len ?_
    rw [Ta.both_len]
    have := has_row_some (t := t) (k := k) (tx := tx) (.inr ((H.wq tx k).1 hw))
    rw [if_pos this]
    exact Nat.le_refl _
theorem Ta.ask_len (tx : Int) (k : K4) (ex : Bool) (now : Int) : (t.ask tx k ex now).2.rows.length ≤ t.rows.length + 1 := by
  have hb : ∀ r : Ro, ((t.need k).setRow k r).rows.length ≤ t.rows.length + 1 := fun r => by rw [Ta.both_len]; split <;> omega
  unfold Ta.ask
  split
  · exact Nat.le_succ _
  · dsimp only
    split
    · exact Nat.le_succ _
    · split
      · split <;> exact Nat.le_succ _
      · split
        · exact hb _
        · exact hb _
end
structure Cl where
  what : Int
  tx : Int
  key : K4
  ex : Bool
  now : Int
def stepT (t : Ta) (c : Cl) : Ta := if c.what = 0 then (t.ask c.tx c.key c.ex c.now).2 else if c.what = 1 then t.freeT c.tx else if c.what = 2 then (t.quit c.tx).2 else t
def doT (cs : List Cl) : Ta := cs.foldl stepT ⟨5, [], []⟩
theorem doT_snoc (cs : List Cl) (c : Cl) : doT (cs ++ [c]) = stepT (doT cs) c := by unfold doT; rw [List.foldl_append]; rfl
theorem TaOk.none (n : Int) : TaOk ⟨n, [], []⟩ := ⟨⟨by simp, by simp, fun k => RowOk.nil, fun tx k => by constructor <;> intro h <;> cases h⟩, fun k => Stop.nil _⟩
theorem TaOk.step {t : Ta} (H : TaOk t) (c : Cl) : TaOk (stepT t c) := by
  unfold stepT
  split
  · exact (H.ask _ _ _ _).1
  · split
    · exact (H.free _).1
    · split
      · exact (H.quit _).1
      · exact H
theorem doT_ok (cs : List Cl) : TaOk (doT cs) ∧ (doT cs).rows.length ≤ cs.length ∧ (doT cs).le cs.length := by
  have key : ∀ (cs : List Cl) (t : Ta) (n : Nat), TaOk t → t.rows.length ≤ n → t.le n → TaOk (cs.foldl stepT t) ∧ (cs.foldl stepT t).rows.length ≤ n + cs.length ∧ (cs.foldl stepT t).le (n + cs.length) := fun cs => by
    induction cs with
    | nil => intro t n h1 h2 h3; exact ⟨h1, h2, h3⟩
    | cons c cs ih =>
      intro t n h1 h2 h3
      have := ih (stepT t c) (n + 1) (h1.step c) (by
        unfold stepT
        split
        · exact Nat.le_trans (Ta.ask_len _ _ _ _) (by omega)
        · split
          · exact Nat.le_trans (h1.free_len _) (by omega)
          · split
            · exact Nat.le_trans (h1.quit_len _) (by omega)
            · omega) (by
        unfold stepT
        split
        · exact h3.ask _ _
        · split
          · exact h3.freeT.mono (by omega)
          · split
            · exact h3.quit.mono (by omega)
            · exact h3.mono (by omega))
      rw [List.foldl_cons, List.length_cons, show n + (cs.length + 1) = n + 1 + cs.length by omega]
      exact this
  have := key cs ⟨5, [], []⟩ 0 (TaOk.none 5) (Nat.le_refl _) (fun p hp => by cases hp)
  simpa [doT] using this
structure TxsOf (t : Ta) (L : List Int) : Prop where
  srt : L.Pairwise (· < ·)
  mem : ∀ tx, tx ∈ L ↔ ∃ p ∈ t.rows, has p.2.h tx = true ∨ has p.2.q tx = true
theorem TxsOf.row {t : Ta} {L : List Int} (H : TxsOf t L) (hn : (t.rows.map (·.1)).Nodup) (tx : Int) : tx ∈ L ↔ ∃ k, has (t.row k).h tx = true ∨ has (t.row k).q tx = true := by
  rw [H.mem]
  constructor
  · rintro ⟨⟨k, r⟩, hp, h⟩
    exact ⟨k, by rw [Ta.row_mem hn hp]; exact h⟩
  · rintro ⟨k, h⟩
    have hs := has_row_some h
    cases hg : aget k t.rows with
    | none => rw [hg] at hs; cases hs
    | some r =>
      refine ⟨(k, r), tget_mem hg, ?_⟩
      unfold Ta.row at h
      rw [hg] at h
      exact h
theorem TxsOf.nd {t : Ta} {L : List Int} (H : TxsOf t L) : L.Nodup := H.srt.imp fun h => by omega
def cntT (t : Ta) (k : K4) (L : List Int) (m : Int) : Nat := (L.filter fun tx => decide (m ≤ how (t.row k).h tx)).length
theorem cntT_snoc (t : Ta) (k : K4) (L : List Int) (m tx : Int) : cntT t k (L ++ [tx]) m = cntT t k L m + if m ≤ how (t.row k).h tx then 1 else 0 := by
  unfold cntT
  rw [List.filter_append, List.length_append]
  congr 1
  by_cases h : m ≤ how (t.row k).h tx <;> simp [h]
theorem filter_pair {α : Type} {l : List α} {p : α → Bool} (hn : l.Nodup) (h2 : 2 ≤ (l.filter p).length) (a : α) : ∃ b ∈ l, p b = true ∧ b ≠ a := by
  have hn' := hn.sublist (List.filter_sublist (p := p))
  cases hl : l.filter p with
  | nil => rw [hl] at h2; simp at h2
  | cons x l1 =>
    cases l1 with
    | nil => rw [hl] at h2; simp at h2
    | cons y l2 =>
      rw [hl] at hn'
      have hx : x ∈ l.filter p := by rw [hl]; simp
      have hy : y ∈ l.filter p := by rw [hl]; simp
      rw [List.mem_filter] at hx hy
      have hxy : x ≠ y := by
        rw [List.nodup_cons] at hn'
        exact fun e => hn'.1 (by rw [e]; simp)
      by_cases e : x = a
      · exact ⟨y, hy.1, hy.2, fun e' => hxy (e.trans e'.symm)⟩
      · exact ⟨x, hx.1, hx.2, e⟩
theorem how_two {h : List Wi} (H : Safe h) {a b : Int} (ha : 2 ≤ how h a) (hb : 1 ≤ how h b) : b = a := by
  obtain ⟨y, hy, rfl⟩ := has_iff.1 (how_pos.1 (show 0 < how h b by omega))
  obtain ⟨x, hx, rfl⟩ := has_iff.1 (how_pos.1 (show 0 < how h a by omega))
  rw [how_at H.n hx] at ha
  split at ha
  · rename_i he
    exact H.s x hx he y hy
  · omega
theorem law_safe {t : Ta} (H : TaOk t) {L : List Int} (hL : TxsOf t L) {k : K4} (hk : k ∈ t.heldT) : cntT t k L 1 ≠ 0 ∧ cntT t k L 2 ≤ 1 ∧ (cntT t k L 2 = 1 → cntT t k L 1 ≤ 1) := by
  rw [mem_heldT H.kn] at hk
  refine ⟨fun h0 => ?_, ?_, fun h1 => ?_⟩
  · cases hh : (t.row k).h with
    | nil => exact hk hh
    | cons x l =>
      have hx : has (t.row k).h x.tx = true := by rw [hh, has_cons]; simp
      have hm : x.tx ∈ L.filter fun tx => decide (1 ≤ how (t.row k).h tx) := by
        rw [List.mem_filter]
        refine ⟨(hL.row H.kn _).2 ⟨k, .inl hx⟩, ?_⟩
        have := how_pos.2 hx
        exact decide_eq_true (by omega)
      unfold cntT at h0
      rw [List.eq_nil_of_length_eq_zero h0] at hm
      cases hm
  · refine Nat.le_of_lt_succ (Nat.lt_of_not_le fun h2 => ?_)
    obtain ⟨a, ha, hpa, _⟩ := filter_pair hL.nd h2 0
    obtain ⟨b, hb, hpb, hne⟩ := filter_pair hL.nd h2 a
    rw [decide_eq_true_eq] at hpa hpb
    exact hne (how_two (H.row k).safe hpa (by omega))
  · refine Nat.le_of_lt_succ (Nat.lt_of_not_le fun h2 => ?_)
    have hne : L.filter (fun tx => decide (2 ≤ how (t.row k).h tx)) ≠ [] := fun e => by unfold cntT at h1; rw [e] at h1; simp at h1
    obtain ⟨a, ha⟩ := List.exists_mem_of_ne_nil _ hne
    rw [List.mem_filter, decide_eq_true_eq] at ha
    obtain ⟨b, hb, hpb, hne⟩ := filter_pair hL.nd h2 a
    rw [decide_eq_true_eq] at hpb
    exact hne (how_two (H.row k).safe ha.2 hpb)
theorem law_strict {t : Ta} (H : TaOk t) (c : Cl) (tx : Int) (k : K4) (h : ¬ (c.what = 1 ∧ c.tx = tx)) : how (t.row k).h tx ≤ how ((stepT t c).row k).h tx := by
  unfold stepT
  split
  · exact (H.ask _ _ _ _).2 k tx
  · split
    · rename_i h1
      rw [(H.free c.tx).2 k]
      refine Int.le_trans ?_ ((onR_ok _ _ ((H.row k).drop c.tx)).2.2.2.1 tx)
      rw [how_drop, if_neg (fun e => h ⟨h1, e.symm⟩)]
      exact Int.le_refl _
    · split
      · exact (H.quit _).2 k tx
      · exact Int.le_refl _
theorem free_none {t : Ta} (H : TaOk t) (tx : Int) (k : K4) : has ((t.freeT tx).row k).h tx = false ∧ has ((t.freeT tx).row k).q tx = false := by
  obtain ⟨h1, h2⟩ := H.free tx
  have hd : ∀ l : List Wi, has (dropR l tx) tx = false := fun l => by rw [has_drop]; simp
  obtain ⟨o1, o2, ⟨g, o3⟩, o4, o5⟩ := onR_ok _ _ ((H.row k).drop tx)
  rw [h2]
  refine ⟨?_, ?_⟩
  · cases hh : has (onR (dropR (t.row k).h tx) (dropR (t.row k).q tx)).1 tx with
    | false => rfl
    | true =>
      rcases o5 tx hh with h | h
      · rw [hd] at h; cases h
      · rw [hd] at h; cases h
  · have := (congrArg (fun l => has l tx) o3).symm
    rw [hd] at this
    rw [has_app, Bool.or_eq_false_iff] at this
    exact this.2
theorem law_free {t : Ta} (H : TaOk t) (tx : Int) (k : K4) : aget tx (t.freeT tx).waits = none ∧ (t.freeT tx).keysT tx = [] ∧ how ((t.freeT tx).row k).h tx = 0 := by
  have hf := (H.free tx).1
  refine ⟨?_, ?_, how_none (free_none H tx k).1⟩
  · cases hw : aget tx (t.freeT tx).waits with
    | none => rfl
    | some j => have := (hf.wq tx j).1 hw; rw [(free_none H tx j).2] at this; cases this
  · cases hk : (t.freeT tx).keysT tx with
    | nil => rfl
    | cons j l =>
      have : j ∈ (t.freeT tx).keysT tx := by rw [hk]; simp
      rw [mem_keysT hf.kn, (free_none H tx j).1] at this; cases this
theorem free_sub {t : Ta} (H : TaOk t) (tx x : Int) (k : K4) (h : has ((t.freeT tx).row k).h x = true ∨ has ((t.freeT tx).row k).q x = true) : x ≠ tx ∧ (has (t.row k).h x = true ∨ has (t.row k).q x = true) := by
  obtain ⟨h1, h2⟩ := H.free tx
  obtain ⟨o1, o2, ⟨g, o3⟩, o4, o5⟩ := onR_ok _ _ ((H.row k).drop tx)
  rw [h2] at h
  have key : has (dropR (t.row k).h tx) x = true ∨ has (dropR (t.row k).q tx) x = true := by
    rcases h with h | h
    · exact o5 x h
    · refine .inr ?_
      have := congrArg (fun l => has l x) o3
      refine this.trans ?_
      rw [has_app]
      dsimp only at h
      rw [h]; simp
  rw [has_drop, has_drop, Bool.and_eq_true, Bool.and_eq_true, decide_eq_true_eq] at key
  rcases key with h | h
  · exact ⟨h.2, .inl h.1⟩
  · exact ⟨h.2, .inr h.1⟩
def freeAll (t : Ta) (L : List Int) : Ta := L.foldl Ta.freeT t
theorem freeAll_ok : ∀ (L : List Int) {t : Ta}, TaOk t → TaOk (freeAll t L) ∧ ∀ k x, (has ((freeAll t L).row k).h x = true ∨ has ((freeAll t L).row k).q x = true) → x ∉ L ∧ (has (t.row k).h x = true ∨ has (t.row k).q x = true)
  | [], t, H => ⟨H, fun k x h => ⟨by simp, h⟩⟩
  | y :: L, t, H => by
    obtain ⟨h1, h2⟩ := freeAll_ok L (H.free y).1
    refine ⟨h1, fun k x h => ?_⟩
    obtain ⟨h3, h4⟩ := h2 k x h
    obtain ⟨h5, h6⟩ := free_sub H y x k h4
    exact ⟨by simp [h3, h5], h6⟩
theorem row_empty {t : Ta} (H : TaOk t) (h : ∀ k x, ¬ (has (t.row k).h x = true ∨ has (t.row k).q x = true)) : ∀ p ∈ t.rows, p.2.h = [] ∧ p.2.q = [] := fun p hp => by
  have hr := Ta.row_mem H.kn (k := p.1) (r := p.2) hp
  constructor
  · cases hh : p.2.h with
    | nil => rfl
    | cons x l => exact absurd (.inl (by rw [hr, hh, has_cons]; simp)) (h p.1 x.tx)
  · cases hh : p.2.q with
    | nil => rfl
    | cons x l => exact absurd (.inr (by rw [hr, hh, has_cons]; simp)) (h p.1 x.tx)
theorem law_all {t : Ta} (H : TaOk t) {L : List Int} (hL : TxsOf t L) {M : List Int} (hM : TxsOf (freeAll t L) M) (now : Int) : M = [] ∧ (freeAll t L).heldT = [] ∧ (freeAll t L).lateT now = [] := by
  obtain ⟨h1, h2⟩ := freeAll_ok L H
  have hno : ∀ k x, ¬ (has ((freeAll t L).row k).h x = true ∨ has ((freeAll t L).row k).q x = true) := fun k x h => by
    obtain ⟨h3, h4⟩ := h2 k x h
    exact h3 ((hL.row H.kn x).2 ⟨k, h4⟩)
  have he := row_empty h1 hno
  refine ⟨?_, ?_, ?_⟩
  · cases hm : M with
    | nil => rfl
    | cons x l =>
      obtain ⟨k, hk⟩ := (hM.row h1.kn x).1 (by rw [hm]; simp)
      exact absurd hk (hno k x)
  · cases hm : (freeAll t L).heldT with
    | nil => rfl
    | cons k l =>
      have : k ∈ (freeAll t L).heldT := by rw [hm]; simp
      rw [mem_heldT h1.kn] at this
      cases hh : ((freeAll t L).row k).h with
      | nil => exact absurd hh this
      | cons x l => exact absurd (.inl (by rw [hh, has_cons]; simp)) (hno k x.tx)
  · unfold Ta.lateT
    have : (freeAll t L).rows.flatMap (fun p => lateL now (freeAll t L).lim p.2.q) = [] := by
      rw [List.flatMap_eq_nil_iff]
      intro p hp
      rw [(he p hp).2]; rfl
    rw [this]
    exact List.eq_nil_of_length_eq_zero (srtI_perm []).length_eq
theorem law_waits {t : Ta} (H : TaOk t) {L : List Int} (hL : TxsOf t L) {tx : Int} {k : K4} (hw : aget tx t.waits = some k) : (∃ y ∈ L, y ≠ tx ∧ 0 < how (t.row k).h y) ∧ how (t.row k).h tx ≠ 2 ∧ t.ask tx k true 0 = (17, t) := by
  have hq := (H.wq tx k).1 hw
  have hR := H.row k
  have hother : ∃ y, y ≠ tx ∧ has (t.row k).h y = true := by
    cases hql : (t.row k).q with
    | nil => rw [hql] at hq; cases hq
    | cons x qs =>
      have hm := H.stop k x qs hql
      have hx : x ∈ (t.row k).q := by rw [hql]; simp
      obtain ⟨z, hz, hzx⟩ : ∃ z ∈ (t.row k).h, z.tx ≠ x.tx := by
        refine Decidable.byContradiction fun hno => ?_
        have : mayR (t.row k).h x = true := mayR_iff.2 fun z hz hne => absurd ⟨z, hz, hne⟩ hno
        rw [hm] at this; cases this
      cases hxr : x.ri with
      | true =>
        have hh := hR.ri x hx
        rw [hxr] at hh
        by_cases e : x.tx = tx
        · exact ⟨z.tx, by rw [← e]; exact hzx, has_iff.2 ⟨z, hz, rfl⟩⟩
        · exact ⟨x.tx, e, hh.symm⟩
      | false =>
        obtain ⟨y, hy, hyt⟩ := has_iff.1 hq
        have hyr : y.ri = false := by
          have hro := hR.ro
          rw [hql] at hro hy
          rcases List.mem_cons.1 hy with e | hy
          · rw [e]; exact hxr
          · have := (List.pairwise_cons.1 hro).1 y hy
            cases hyr : y.ri with
            | false => rfl
            | true => rw [this hyr] at hxr; cases hxr
        have hyh := hR.ri y hy
        rw [hyr, hyt] at hyh
        exact ⟨z.tx, fun e => has_false.1 hyh.symm z hz e, has_iff.2 ⟨z, hz, rfl⟩⟩
  obtain ⟨y, hy1, hy2⟩ := hother
  have hp := how_pos.2 hy2
  have h2 : how (t.row k).h tx ≠ 2 := fun e => hy1 (how_two hR.safe (by omega) (by omega))
  refine ⟨⟨y, (hL.row H.kn y).2 ⟨k, .inl hy2⟩, hy1, hp⟩, h2, ?_⟩
  obtain ⟨x, hx, hxt⟩ := has_iff.1 hq
  have hb := hR.qb x hx
  rw [hxt] at hb
  unfold Ta.ask
  rw [if_neg (by omega)]
  dsimp only
  rw [holds_how, if_neg (by simp [h2])]
  rw [hw]
  simp
structure OneRow (t : Ta) (k : K4) (h q : List Wi) : Prop where
  ok : TaOk t
  row : t.row k = ⟨h, q⟩
  no : ∀ j, j ≠ k → t.row j = ⟨[], []⟩
theorem OneRow.nil (n : Int) (k : K4) : OneRow ⟨n, [], []⟩ k [] [] := ⟨TaOk.none n, rfl, fun _ _ => rfl⟩
section
variable {t : Ta} {k : K4} {h q : List Wi}
theorem OneRow.how (H : OneRow t k h q) (tx : Int) : Ta.holds t tx k = Proofs.YtpfgpbafechncaaGreat.how h tx := by rw [holds_how, H.row]
theorem OneRow.rok (H : OneRow t k h q) : RowOk h q := by have := H.ok.row k; rw [H.row] at this; exact this
theorem OneRow.wait (H : OneRow t k h q) (tx : Int) : aget tx t.waits = if has q tx = true then some k else none := by
  cases hw : aget tx t.waits with
  | none =>
    rw [if_neg]
    intro hq
    have := (H.ok.wq tx k).2 (by rw [H.row]; exact hq)
    rw [hw] at this; cases this
  | some j =>
    have hj := (H.ok.wq tx j).1 hw
    by_cases e : j = k
    · subst e
      rw [H.row] at hj
      rw [if_pos hj]
    · rw [H.no j e] at hj; cases hj
theorem OneRow.none (H : OneRow t k [] []) {L : List Int} (hL : TxsOf t L) : L = [] := by
  cases hl : L with
  | nil => rfl
  | cons x l =>
    obtain ⟨j, hj⟩ := (hL.row H.ok.kn x).1 (by rw [hl]; simp)
    by_cases e : j = k
    · subst e; rw [H.row] at hj; rcases hj with hj | hj <;> cases hj
    · rw [H.no j e] at hj; rcases hj with hj | hj <;> cases hj
theorem OneRow.grant (H : OneRow t k h q) (tx now : Int) (ex : Bool) (hr : 1 ≤ tx ∧ tx ≤ 1048576 ∧ 0 ≤ now ∧ now ≤ 1099511627776) (hh : ¬ (Proofs.YtpfgpbafechncaaGreat.how h tx = 2 ∨ (Proofs.YtpfgpbafechncaaGreat.how h tx = 1 ∧ ex = false))) (hq : has q tx = false)
    (hm : mayR h ⟨tx, ex, now, decide (Proofs.YtpfgpbafechncaaGreat.how h tx = 1)⟩ = true ∧ (q = [] ∨ decide (Proofs.YtpfgpbafechncaaGreat.how h tx = 1) = true)) :
    (t.ask tx k ex now).1 = 0 ∧ OneRow (t.ask tx k ex now).2 k (grantR h ⟨tx, ex, now, decide (Proofs.YtpfgpbafechncaaGreat.how h tx = 1)⟩) q := by
  have hok := (H.ok.ask tx k ex now).1
  have hw := H.wait tx
  rw [hq, if_neg (by simp)] at hw
  have e : t.ask tx k ex now = (0, (t.need k).setRow k ⟨grantR h ⟨tx, ex, now, decide (Proofs.YtpfgpbafechncaaGreat.how h tx = 1)⟩, q⟩) := by
    unfold Ta.ask
    rw [if_neg (by omega)]
    dsimp only
    rw [H.how, if_neg hh, hw]
    dsimp only
    rw [H.row, if_pos hm]
  rw [e] at hok ⊢
  exact ⟨rfl, hok, by rw [Ta.row_both, if_pos rfl], fun j hj => by rw [Ta.row_both, if_neg (Ne.symm hj)]; exact H.no j hj⟩
theorem OneRow.put (H : OneRow t k h q) (tx now : Int) (ex : Bool) (hr : 1 ≤ tx ∧ tx ≤ 1048576 ∧ 0 ≤ now ∧ now ≤ 1099511627776) (hh : ¬ (Proofs.YtpfgpbafechncaaGreat.how h tx = 2 ∨ (Proofs.YtpfgpbafechncaaGreat.how h tx = 1 ∧ ex = false))) (hq : has q tx = false)
    (hm : ¬ (mayR h ⟨tx, ex, now, decide (Proofs.YtpfgpbafechncaaGreat.how h tx = 1)⟩ = true ∧ (q = [] ∨ decide (Proofs.YtpfgpbafechncaaGreat.how h tx = 1) = true))) :
    (t.ask tx k ex now).1 = 17 ∧ OneRow (t.ask tx k ex now).2 k h (waitR q ⟨tx, ex, now, decide (Proofs.YtpfgpbafechncaaGreat.how h tx = 1)⟩) := by
  have hok := (H.ok.ask tx k ex now).1
  have hw := H.wait tx
  rw [hq, if_neg (by simp)] at hw
  have e : t.ask tx k ex now = (17, { (t.need k).setRow k ⟨h, waitR q ⟨tx, ex, now, decide (Proofs.YtpfgpbafechncaaGreat.how h tx = 1)⟩⟩ with waits := aput tx k t.waits }) := by
    unfold Ta.ask
    rw [if_neg (by omega)]
    dsimp only
    rw [H.how, if_neg hh, hw]
    dsimp only
    rw [H.row, if_neg hm]
  rw [e] at hok ⊢
  have hrow : ∀ j, Ta.row { (t.need k).setRow k ⟨h, waitR q ⟨tx, ex, now, decide (Proofs.YtpfgpbafechncaaGreat.how h tx = 1)⟩⟩ with waits := aput tx k t.waits } j = if k = j then ⟨h, waitR q ⟨tx, ex, now, decide (Proofs.YtpfgpbafechncaaGreat.how h tx = 1)⟩⟩ else t.row j := fun j => Ta.row_both
  exact ⟨rfl, hok, by rw [hrow, if_pos rfl], fun j hj => by rw [hrow, if_neg (Ne.symm hj)]; exact H.no j hj⟩
theorem OneRow.same (H : OneRow t k h q) (tx now : Int) (ex : Bool) (hr : 1 ≤ tx ∧ tx ≤ 1048576 ∧ 0 ≤ now ∧ now ≤ 1099511627776) (hh : Proofs.YtpfgpbafechncaaGreat.how h tx = 2 ∨ (Proofs.YtpfgpbafechncaaGreat.how h tx = 1 ∧ ex = false)) : t.ask tx k ex now = (0, t) := by
  unfold Ta.ask
  rw [if_neg (by omega)]
  dsimp only
  rw [H.how, if_pos hh]
theorem OneRow.waits (H : OneRow t k h q) (tx now : Int) (ex : Bool) (hr : 1 ≤ tx ∧ tx ≤ 1048576 ∧ 0 ≤ now ∧ now ≤ 1099511627776) (hh : ¬ (Proofs.YtpfgpbafechncaaGreat.how h tx = 2 ∨ (Proofs.YtpfgpbafechncaaGreat.how h tx = 1 ∧ ex = false))) (hq : has q tx = true) : t.ask tx k ex now = (17, t) := by
  have hw := H.wait tx
  rw [if_pos hq] at hw
  unfold Ta.ask
  rw [if_neg (by omega)]
  dsimp only
  rw [H.how, if_neg hh, hw]
  simp
theorem ask_out (t : Ta) (tx now : Int) (k : K4) (ex : Bool) (h : tx < 1 ∨ 1048576 < tx) : t.ask tx k ex now = (11, t) := by
  unfold Ta.ask
  rw [if_pos (by omega)]
theorem OneRow.free (H : OneRow t k h q) (tx : Int) : OneRow (t.freeT tx) k (onR (dropR h tx) (dropR q tx)).1 (onR (dropR h tx) (dropR q tx)).2 := by
  obtain ⟨h1, h2⟩ := H.ok.free tx
  exact ⟨h1, by rw [h2, H.row], fun j hj => by rw [h2, H.no j hj]; show (⟨(onR [] []).1, (onR [] []).2⟩ : Ro) = _; rw [onR_nil]⟩
end
def exq (l : List (Int × Int)) : List Wi := l.map fun p => ⟨p.1, true, p.2, false⟩
theorem has_exq (l : List (Int × Int)) (tx : Int) : has (exq l) tx = decide (tx ∈ l.map (·.1)) := by
  rw [Bool.eq_iff_iff, has_mem, decide_eq_true_eq]
  unfold exq
  rw [List.map_map]; rfl
def OrdIs (t : Ta) (k : K4) (first : Int × Int) (l : List (Int × Int)) : Prop := OneRow t k (exq [first]) (exq l) ∧ ¬ first.1 ∈ l.map (·.1)
theorem how_one (f : Int × Int) (tx : Int) : how (exq [f]) tx = if f.1 = tx then 2 else 0 := by
  unfold how exq
  by_cases e : f.1 = tx <;> simp [e]
theorem mayR_one (f g : Int × Int) (b : Bool) (h : f.1 ≠ g.1) : mayR (exq [f]) ⟨g.1, true, g.2, b⟩ = false := by
  cases hm : mayR (exq [f]) ⟨g.1, true, g.2, b⟩ with
  | false => rfl
  | true =>
    have := (mayR_iff.1 hm ⟨f.1, true, f.2, false⟩ (by simp [exq]) h).1
    cases this
theorem ord_first {t : Ta} {k : K4} {f : Int × Int} {l : List (Int × Int)} (H : OrdIs t k f l) (now : Int) (hr : 1 ≤ f.1 ∧ f.1 ≤ 1048576 ∧ 0 ≤ now ∧ now ≤ 1099511627776) : t.ask f.1 k true now = (0, t) :=
  H.1.same f.1 now true hr (.inl (by rw [how_one, if_pos rfl]))
theorem ord_known {t : Ta} {k : K4} {f : Int × Int} {l : List (Int × Int)} (H : OrdIs t k f l) (n now : Int) (hr : 1 ≤ n ∧ n ≤ 1048576 ∧ 0 ≤ now ∧ now ≤ 1099511627776) (hn : n ≠ f.1) (hl : n ∈ l.map (·.1)) : t.ask n k true now = (17, t) :=
  H.1.waits n now true hr (by rw [how_one, if_neg (Ne.symm hn)]; simp) (by rw [has_exq]; exact decide_eq_true hl)
theorem ord_new {t : Ta} {k : K4} {f : Int × Int} {l : List (Int × Int)} (H : OrdIs t k f l) (n now : Int) (hr : 1 ≤ n ∧ n ≤ 1048576 ∧ 0 ≤ now ∧ now ≤ 1099511627776) (hn : n ≠ f.1) (hl : ¬ n ∈ l.map (·.1)) :
    (t.ask n k true now).1 = 17 ∧ OrdIs (t.ask n k true now).2 k f (l ++ [(n, now)]) := by
  have h0 : how (exq [f]) n = 0 := by rw [how_one, if_neg (Ne.symm hn)]
  obtain ⟨h1, h2⟩ := H.1.put n now true hr (by rw [h0]; simp) (by rw [has_exq]; exact decide_eq_false hl) (by
    rw [mayR_one f (n, now) _ (Ne.symm hn)]; simp)
  refine ⟨h1, ?_, ?_⟩
  · rw [h0] at h2
    have e : waitR (exq l) ⟨n, true, now, decide ((0 : Int) = 1)⟩ = exq (l ++ [(n, now)]) := by
      unfold waitR waitAt
      rw [if_neg (by simp), List.take_length, List.drop_length]
      unfold exq
      rw [List.map_append]; rfl
    rw [e] at h2
    exact h2
  · rw [List.map_append, List.mem_append, not_or]
    exact ⟨H.2, by simp; exact fun e => hn e.symm⟩
theorem dropR_one (f : Int × Int) : dropR (exq [f]) f.1 = [] := by simp [dropR, exq]
theorem ord_free {t : Ta} {k : K4} {f : Int × Int} {l : List (Int × Int)} (H : OrdIs t k f l) : match l with
    | [] => OneRow (t.freeT f.1) k [] []
    | g :: l => OrdIs (t.freeT f.1) k g l := by
  have h1 := H.1.free f.1
  have hq : has (exq l) f.1 = false := by rw [has_exq]; exact decide_eq_false H.2
  rw [dropR_one, drop_id hq] at h1
  cases l with
  | nil =>
    have e : onR [] (exq []) = ([], []) := onR_nil []
    rw [e] at h1
    exact h1
  | cons g l =>
    have hn := H.1.rok.qn
    have hnd : ¬ g.1 ∈ l.map (·.1) := by
      unfold exq at hn
      rw [List.map_map] at hn
      have := (List.nodup_cons.1 hn).1
      exact this
    have e : onR [] (exq (g :: l)) = (exq [g], exq l) := by
      show onR [] (⟨g.1, true, g.2, false⟩ :: exq l) = _
      rw [onR_go rfl]
      show onR (exq [g]) (exq l) = _
      cases l with
      | nil => exact onR_nil _
      | cons y l =>
        show onR (exq [g]) (⟨y.1, true, y.2, false⟩ :: exq l) = _
        rw [onR_stop (mayR_one g y false (fun e => hnd (by rw [e]; simp)))]
        rfl
    rw [e] at h1
    exact ⟨h1, hnd⟩
structure ShIs (t : Ta) (k : K4) (l : List Int) (h : List Wi) : Prop where
  one : OneRow t k h []
  ne : ∀ x ∈ h, x.ex = false
  mem : ∀ tx, has h tx = true ↔ tx ∈ l
theorem sh_how {t : Ta} {k : K4} {l : List Int} {h : List Wi} (H : ShIs t k l h) (tx : Int) : how h tx = if tx ∈ l then 1 else 0 := by
  by_cases e : tx ∈ l
  · rw [if_pos e]
    obtain ⟨x, hx, rfl⟩ := has_iff.1 ((H.mem tx).2 e)
    rw [how_at H.one.rok.safe.n hx, if_neg (by rw [H.ne x hx]; simp)]
  · rw [if_neg e]
    refine how_none ?_
    cases hh : has h tx with
    | false => rfl
    | true => exact absurd ((H.mem tx).1 hh) e
theorem sh_ask {t : Ta} {k : K4} {l : List Int} {h : List Wi} (H : ShIs t k l h) (tx : Int) (hr : 1 ≤ tx ∧ tx ≤ 1048576) : (t.ask tx k false 0).1 = 0 ∧ ∃ h', ShIs (t.ask tx k false 0).2 k (l ++ [tx]) h' := by
  have hh := sh_how H tx
  by_cases e : tx ∈ l
  · rw [if_pos e] at hh
    rw [H.one.same tx 0 false ⟨hr.1, hr.2, by omega, by omega⟩ (.inr ⟨hh, rfl⟩)]
    exact ⟨rfl, h, H.one, H.ne, fun x => by rw [H.mem x, List.mem_append, List.mem_singleton]; exact ⟨.inl, fun h => h.elim id fun e' => e' ▸ e⟩⟩
  · rw [if_neg e] at hh
    have hm : mayR h ⟨tx, false, 0, decide (how h tx = 1)⟩ = true := mayR_iff.2 fun x hx _ => ⟨H.ne x hx, rfl⟩
    have hno : has h tx = false := by
      cases hh : has h tx with
      | false => rfl
      | true => exact absurd ((H.mem tx).1 hh) e
    obtain ⟨h1, h2⟩ := H.one.grant tx 0 false ⟨hr.1, hr.2, by omega, by omega⟩ (by rw [hh]; simp) rfl ⟨hm, .inl rfl⟩
    have hn := H.one.rok.safe.n
    refine ⟨h1, _, h2, fun x hx => ?_, fun x => ?_⟩
    · rw [grantR_eq _ _ hn] at hx
      unfold grantM at hx
      rw [if_neg (by rw [hno]; simp)] at hx
      rcases List.mem_append.1 hx with hx | hx
      · exact H.ne x hx
      · rw [List.mem_singleton] at hx; rw [hx]
    · rw [has_grant _ _ _ hn, Bool.or_eq_true, H.mem x, decide_eq_true_eq, List.mem_append, List.mem_singleton]
      exact or_congr Iff.rfl ⟨fun e => e.symm, fun e => e.symm⟩
theorem sh_wait {t : Ta} {k : K4} {l : List Int} {h : List Wi} (H : ShIs t k l h) (tx : Int) (hr : 1 ≤ tx ∧ tx ≤ 1048576) (y : Int) (hy : y ∈ l) (hne : y ≠ tx) : (t.ask tx k true 0).1 = 17 ∧ (t.ask tx k true 0).2.holds tx k < 2 := by
  have hh := sh_how H tx
  have hle : how h tx < 2 := by rw [hh]; split <;> omega
  obtain ⟨x, hx, hxt⟩ := has_iff.1 ((H.mem y).2 hy)
  have hm : ∀ b, mayR h ⟨tx, true, 0, b⟩ = false := fun b => by
    cases hmm : mayR h ⟨tx, true, 0, b⟩ with
    | false => rfl
    | true => have := (mayR_iff.1 hmm x hx (by rw [hxt]; exact hne)).2; cases this
  obtain ⟨h1, h2⟩ := H.one.put tx 0 true ⟨hr.1, hr.2, by omega, by omega⟩ (by
    intro h
    rcases h with h | h
    · omega
    · cases h.2) rfl (by rw [hm]; simp)
  exact ⟨h1, by rw [h2.how]; exact hle⟩
theorem sh_alone {t : Ta} {k : K4} {l : List Int} {h : List Wi} (H : ShIs t k l h) (tx : Int) (hr : 1 ≤ tx ∧ tx ≤ 1048576) (hall : ∀ y ∈ l, y = tx) : (t.ask tx k true 0).1 = 0 ∧ (t.ask tx k true 0).2.holds tx k = 2 := by
  have hh := sh_how H tx
  have hle : how h tx < 2 := by rw [hh]; split <;> omega
  have hn := H.one.rok.safe.n
  have hm : ∀ b, mayR h ⟨tx, true, 0, b⟩ = true := fun b => mayR_iff.2 fun x hx hne => absurd (hall x.tx ((H.mem x.tx).1 (has_iff.2 ⟨x, hx, rfl⟩))) hne
  obtain ⟨h1, h2⟩ := H.one.grant tx 0 true ⟨hr.1, hr.2, by omega, by omega⟩ (by
    intro h
    rcases h with h | h
    · omega
    · cases h.2) rfl ⟨hm _, .inl rfl⟩
  refine ⟨h1, ?_⟩
  rw [h2.how]
  have hn2 := h2.rok.safe.n
  have hin : ∃ y ∈ grantR h ⟨tx, true, 0, decide (how h tx = 1)⟩, y.tx = tx ∧ y.ex = true := by
    rw [grantR_eq _ _ hn]
    unfold grantM
    by_cases hx : has h tx = true
    · rw [if_pos hx]
      obtain ⟨x, hx1, hx2⟩ := has_iff.1 hx
      exact ⟨setEx x, List.mem_map.2 ⟨x, hx1, by rw [if_pos hx2]⟩, hx2, rfl⟩
    · rw [if_neg hx]
      exact ⟨_, List.mem_append_right _ (List.mem_singleton.2 rfl), rfl, rfl⟩
  obtain ⟨y, hy, hy1, hy2⟩ := hin
  have := how_at hn2 hy
  rw [hy1, hy2] at this
  exact this
def keyA : K4 := ⟨1, 0, 0, 0⟩
def tA0 : Ta := ⟨5, [], []⟩
def tA1 : Ta := ⟨5, [(keyA, ⟨[⟨1, false, 0, false⟩], []⟩)], []⟩
def tA2 : Ta := ⟨5, [(keyA, ⟨[⟨1, false, 0, false⟩, ⟨2, false, 0, false⟩], []⟩)], []⟩
def tA3 : Ta := ⟨5, [(keyA, ⟨[⟨1, false, 0, false⟩, ⟨2, false, 0, false⟩], [⟨1, true, 3, true⟩]⟩)], [(1, keyA)]⟩
def tA4 : Ta := ⟨5, [(keyA, ⟨[⟨1, false, 0, false⟩, ⟨2, false, 0, false⟩], [⟨1, true, 3, true⟩, ⟨3, false, 3, false⟩]⟩)], [(1, keyA), (3, keyA)]⟩
def tA5 : Ta := ⟨5, [(keyA, ⟨[⟨1, true, 0, false⟩], [⟨3, false, 3, false⟩]⟩)], [(3, keyA)]⟩
def tA6 : Ta := ⟨5, [(keyA, ⟨[⟨1, true, 0, false⟩], []⟩)], []⟩
theorem tA_1 : tA0.ask 1 keyA false 0 = (0, tA1) := rfl
theorem tA_2 : tA1.ask 2 keyA false 0 = (0, tA2) := rfl
theorem tA_3 : tA2.ask 1 keyA true 3 = (17, tA3) := rfl
theorem tA_4 : tA3.ask 3 keyA false 3 = (17, tA4) := rfl
theorem tA_6 : tA5.quit 3 = (true, tA6) := rfl
theorem sortK_one (k : K4) : sortK [k] = [k] := by unfold sortK; exact List.mergeSort_singleton k
theorem tA_5 : tA4.freeT 2 = tA5 := by
  have h1 : tA4.keysT 2 = [keyA] := by
    unfold Ta.keysT Ta.keysS
    exact sortK_one keyA
  have h2 : tA4.ownT 2 = [keyA] := by
    unfold Ta.ownT
    rw [h1]
    show compK (sortK [keyA]) = _
    rw [sortK_one]; rfl
  unfold Ta.freeT
  rw [h2]
  rfl
theorem tA_late : tA4.lateT 8 = [1, 3] := by
  have h1 : (tA4.rows.flatMap fun p => lateL 8 tA4.lim p.2.q) = [1, 3] := rfl
  unfold Ta.lateT
  rw [h1]
  unfold srtI
  refine List.mergeSort_of_pairwise ?_
  simp
theorem tA_keys : tA6.keysT 1 = [keyA] := by
  unfold Ta.keysT Ta.keysS
  exact sortK_one keyA
theorem tA_held : tA6.heldT = [keyA] := by
  unfold Ta.heldT Ta.keysS
  exact sortK_one keyA
theorem tA_txs {L : List Int} (h : TxsOf tA6 L) : L = [1] := by
  have hm : ∀ x, x ∈ L ↔ x = 1 := fun x => by
    rw [h.mem]
    simp only [tA6, has, List.mem_singleton, exists_eq_left, List.any_cons, List.any_nil, Bool.or_false, decide_eq_true_eq, Bool.false_eq_true, or_false]
    exact ⟨fun h => h.symm, fun h => h.symm⟩
  have hs := h.srt
  cases hl : L with
  | nil => have := (hm 1).2 rfl; rw [hl] at this; cases this
  | cons a l =>
    have ha : a = 1 := (hm a).1 (by rw [hl]; simp)
    cases l with
    | nil => rw [ha]
    | cons b l =>
      have hb : b = 1 := (hm b).1 (by rw [hl]; simp)
      rw [hl] at hs
      have := (List.pairwise_cons.1 hs).1 b (by simp)
      omega
structure Sw where
  state : Int
  err : Int
  ws : List (K4 × V)
  deriving DecidableEq
structure Sp where
  base : List Pr
  tab : Ta
  works : List (Int × Sw)
def addK (d : List K4) (k : K4) : List K4 := if k ∈ d then d else d ++ [k]
def distK (l : List K4) : List K4 := l.foldl addK []
def thereK (l : List Pr) : List K4 := (l.filter fun p => p.val.there).map (·.key)
namespace Sp
def may (s : Sp) (tx : Int) : Int := if tx < 1 ∨ 1048576 < tx then 11 else if (aget tx s.works).isSome = true then 13 else if 8 ≤ s.works.length then 16 else 0
def begin_ (s : Sp) (tx : Int) : Int × Sp := if s.may tx = 0 then (0, { s with works := s.works ++ [(tx, ⟨1, 0, []⟩)] }) else (s.may tx, s)
def drafts (s : Sp) : List Pr := s.works.flatMap fun x => x.2.ws.map toPr
def passed (s : Sp) (more : List Pr) : Bool := decide (64 < (distK (thereK (s.base ++ more ++ s.drafts))).length)
def refused (w : Option Sw) (kind : Int) : Int := if kind < 1 ∨ 4 < kind then 10 else match w with
  | none => 12
  | some x => if x.state = 3 then 20 else x.err
def get (s : Sp) (w : Sw) (k : K4) : V := (aget k w.ws).getD (findP s.base k)
def put (s : Sp) (w : Sw) (k : K4) (v : V) : Int × List (K4 × V) := if v.there = true ∧ s.passed [⟨k, v⟩] = true then (16, w.ws) else dPut w.ws k v
def doom (s : Sp) (tx e : Int) : Bool × Sp := match aget tx s.works with
  | none => (false, s)
  | some w => if w.state ≠ 1 ∨ e = 0 then (false, s) else (true, { s with works := aput tx ⟨2, e, w.ws⟩ s.works, tab := (s.tab.quit tx).2 })
def valOf (kind n : Int) : V := if kind = 2 then ⟨true, n⟩ else V.zero
def doOp (s : Sp) (kind tx : Int) (k : K4) (n now : Int) : (Int × V) × Sp :=
  if refused (aget tx s.works) kind ≠ 0 then ((refused (aget tx s.works) kind, V.zero), s)
  else if kind = 4 then ((0, V.zero), (s.doom tx 19).2)
  else match aget tx s.works with
    | none => ((0, V.zero), s)
    | some w =>
      if (s.tab.ask tx k (decide (kind ≠ 1)) now).1 ≠ 0 then (((s.tab.ask tx k (decide (kind ≠ 1)) now).1, V.zero), { s with tab := (s.tab.ask tx k (decide (kind ≠ 1)) now).2 })
      else if kind = 1 then ((0, s.get w k), { s with tab := (s.tab.ask tx k (decide (kind ≠ 1)) now).2 })
      else (((s.put w k (valOf kind n)).1, V.zero), (Sp.doom { s with tab := (s.tab.ask tx k (decide (kind ≠ 1)) now).2, works := aput tx ⟨w.state, w.err, (s.put w k (valOf kind n)).2⟩ s.works } tx (s.put w k (valOf kind n)).1).2)
def late (s : Sp) (now : Int) : List Int × Sp := (s.tab.lateT now, (s.tab.lateT now).foldl (fun s tx => (s.doom tx 18).2) s)
def forget (s : Sp) (tx : Int) : Sp := { s with works := adel tx s.works, tab := s.tab.freeT tx }
def vote (s : Sp) (tx : Int) (mask : Nat) : (Int × List Rc × Int) × Sp := match aget tx s.works with
  | none => ((0, [], 12), s)
  | some w =>
    if w.state = 3 then ((0, [], 20), s)
    else if mask = 0 then ((0, [], 10), s)
    else if w.state = 2 ∨ (aget tx s.tab.waits).isSome = true then ((0, [], 0), s.forget tx)
    else if w.ws.length = 0 then ((2, [], 0), s.forget tx)
    else ((1, recsP tx s.base (keysP (w.ws.map toPr)) ++ [⟨2, tx, mask, ⟨0, 0, 0, 0⟩, V.zero, V.zero⟩], 0), { s with works := aput tx ⟨3, w.err, w.ws⟩ s.works })
def end_ (s : Sp) (tx : Int) (commit : Bool) : Int × Sp := match aget tx s.works with
  | none => (12, s)
  | some w =>
    if commit = true ∧ w.state ≠ 3 then (19, s)
    else (0, Sp.forget { s with base := if commit = true then sortP (s.base ++ keysP (w.ws.map toPr)) else s.base } tx)
def draftedN : Nat → List (K4 × V) → Option K4 → List Pr → Option (List (K4 × V))
  | _, d, _, [] => some d
  | i, d, last, p :: l => if (dPut d p.key p.val).1 ≠ 0 ∨ (∃ k, last = some k ∧ p.key.num ≤ k.num) then none else draftedN (i + 1) (dPut d p.key p.val).2 (some p.key) l
def drafted (l : List Pr) : Option (List (K4 × V)) := if l = [] then none else draftedN 0 [] none l
def askAll (t : Ta) (tx : Int) (l : List Pr) : Ta := l.foldl (fun t p => (t.ask tx p.key true 0).2) t
def restore (s : Sp) (tx : Int) (l : List Pr) : Int × Sp :=
  if s.may tx ≠ 0 then (s.may tx, s) else match drafted l with
    | none => (10, s)
    | some d =>
      if l.any (fun p => decide (p.key ∈ s.tab.heldT)) = true then (17, s)
      else if s.passed l = true then (16, s)
      else (0, { s with works := s.works ++ [(tx, ⟨3, 0, d⟩)], tab := askAll s.tab tx l })
def stateOf (s : Sp) (tx : Int) : Int := ((aget tx s.works).map (·.state)).getD 0
def draftOf (s : Sp) (tx : Int) : List Pr := ((aget tx s.works).map fun w => keysP (w.ws.map toPr)).getD []
def txs (s : Sp) : List Int := srtI (s.works.map (·.1))
end Sp
theorem how_two_mem {h : List Wi} {y : Int} (hh : how h y = 2) : ∃ x ∈ h, x.tx = y ∧ x.ex = true := by
  unfold how at hh
  cases hf : h.find? fun w => decide (w.tx = y) with
  | none => rw [hf] at hh; cases hh
  | some x =>
    rw [hf] at hh
    have h1 := List.find?_some hf
    refine ⟨x, List.mem_of_find?_eq_some hf, by simpa using h1, ?_⟩
    cases hx : x.ex with
    | true => rfl
    | false => dsimp only at hh; rw [hx] at hh; simp at hh
section
variable {t : Ta}
theorem ask_sub (H : TaOk t) (tx : Int) (k : K4) (ex : Bool) (now : Int) (j : K4) (x : Int) :
    (has ((t.ask tx k ex now).2.row j).h x = true → x = tx ∨ has (t.row j).h x = true) ∧ (has ((t.ask tx k ex now).2.row j).q x = true → x = tx ∨ has (t.row j).q x = true) := by
  unfold Ta.ask
  by_cases h1 : tx < 1 ∨ tx > 1048576 ∨ now < 0 ∨ now > 1099511627776
  · rw [if_pos h1]; exact ⟨.inr, .inr⟩
  rw [if_neg h1]
  dsimp only
  split
  · exact ⟨.inr, .inr⟩
  · split
    · split <;> exact ⟨.inr, .inr⟩
    · split
      · dsimp only
        rw [Ta.row_both]
        split
        · rename_i e
          subst e
          refine ⟨fun h => ?_, .inr⟩
          rw [has_grant _ _ _ (H.row k).safe.n, Bool.or_eq_true, decide_eq_true_eq] at h
          rcases h with h | h
          · exact .inr h
          · exact .inl h.symm
        · exact ⟨.inr, .inr⟩
      · dsimp only
        have hrow : Ta.row { (t.need k).setRow k ⟨(t.row k).h, waitR (t.row k).q ⟨tx, ex, now, decide (t.holds tx k = 1)⟩⟩ with waits := aput tx k t.waits } j = if k = j then ⟨(t.row k).h, waitR (t.row k).q ⟨tx, ex, now, decide (t.holds tx k = 1)⟩⟩ else t.row j := Ta.row_both
        rw [hrow]
        split
        · rename_i e
          subst e
          refine ⟨.inr, fun h => ?_⟩
          rw [has_waitR, Bool.or_eq_true, decide_eq_true_eq] at h
          rcases h with h | h
          · exact .inl h.symm
          · exact .inr h
        · exact ⟨.inr, .inr⟩
theorem ask_got (H : TaOk t) (tx : Int) (k : K4) (ex : Bool) (now : Int) (h0 : (t.ask tx k ex now).1 = 0) : 1 ≤ how ((t.ask tx k ex now).2.row k).h tx ∧ (ex = true → how ((t.ask tx k ex now).2.row k).h tx = 2) := by
  have hok := (H.ask tx k ex now).1
  have hs := (hok.row k).safe
  unfold Ta.ask at h0 hs ⊢
  by_cases h1 : tx < 1 ∨ tx > 1048576 ∨ now < 0 ∨ now > 1099511627776
  · rw [if_pos h1] at h0; cases h0
  rw [if_neg h1] at h0 hs ⊢
  dsimp only at h0 hs ⊢
  by_cases h2 : t.holds tx k = 2 ∨ (t.holds tx k = 1 ∧ ex = false)
  · rw [if_pos h2]
    rw [holds_how] at h2
    dsimp only
    rcases h2 with h2 | ⟨h2, h3⟩
    · exact ⟨by omega, fun _ => h2⟩
    · exact ⟨by omega, fun e => by rw [h3] at e; cases e⟩
  rw [if_neg h2] at h0 hs ⊢
  cases hw : aget tx t.waits with
  | some other =>
    rw [hw] at h0
    dsimp only at h0
    split at h0 <;> cases h0
  | none =>
    rw [hw] at h0 hs
    dsimp only at h0 hs ⊢
    split at h0
    · rename_i hm
      rw [if_pos hm] at hs ⊢
      dsimp only at hs ⊢
      rw [Ta.row_both, if_pos rfl] at hs ⊢
      dsimp only at hs ⊢
      have hg := has_grant (t.row k).h ⟨tx, ex, now, decide (t.holds tx k = 1)⟩ tx (H.row k).safe.n
      have hp := how_pos (h := grantR (t.row k).h ⟨tx, ex, now, decide (t.holds tx k = 1)⟩) (tx := tx)
      rw [hg] at hp
      have hpos := hp.2 (by simp)
      refine ⟨by omega, fun he => ?_⟩
      subst he
      have hmem : ∃ y ∈ grantR (t.row k).h ⟨tx, true, now, decide (t.holds tx k = 1)⟩, y.tx = tx ∧ y.ex = true := by
        rw [grantR_eq _ _ (H.row k).safe.n]
        unfold grantM
        split
        · rename_i hh
          obtain ⟨y, hy, hyt⟩ := has_iff.1 hh
          exact ⟨setEx y, List.mem_map.2 ⟨y, hy, by rw [if_pos hyt]⟩, hyt, rfl⟩
        · exact ⟨_, List.mem_append_right _ (List.mem_singleton.2 rfl), rfl, rfl⟩
      obtain ⟨y, hy, hyt, hye⟩ := hmem
      have := how_at hs.n hy
      rw [hyt, if_pos hye] at this
      exact this
    · cases h0
theorem ask_shut (H : TaOk t) (tx y : Int) (k : K4) (ex : Bool) (now : Int) (hy : how (t.row k).h y = 2) (hne : y ≠ tx) : (t.ask tx k ex now).1 ≠ 0 := by
  unfold Ta.ask
  by_cases h1 : tx < 1 ∨ tx > 1048576 ∨ now < 0 ∨ now > 1099511627776
  · rw [if_pos h1]; exact (by decide : (11 : Int) ≠ 0)
  rw [if_neg h1]
  dsimp only
  have hno : ¬ 1 ≤ how (t.row k).h tx := fun h => hne (how_two (H.row k).safe (by omega) h).symm
  have h2 : ¬ (t.holds tx k = 2 ∨ (t.holds tx k = 1 ∧ ex = false)) := by rw [holds_how]; omega
  rw [if_neg h2]
  split
  · split
    · exact (by decide : (17 : Int) ≠ 0)
    · exact (by decide : (13 : Int) ≠ 0)
  · split
    · rename_i hm
      obtain ⟨x, hx, hxt, hxe⟩ := how_two_mem hy
      have := (mayR_iff.1 hm.1 x hx (by rw [hxt]; exact hne)).1
      rw [hxe] at this
      cases this
    · exact (by decide : (17 : Int) ≠ 0)
theorem row_congr {t t' : Ta} (h : t.rows = t'.rows) (i : K4) : t.row i = t'.row i := by unfold Ta.row; rw [h]
theorem stop_nil {q : List Wi} (h : Stop [] q) : q = [] := by
  cases q with
  | nil => rfl
  | cons x q => have := h x q rfl; simp [mayR] at this
theorem ask_open (H : TaOk t) (tx : Int) (k : K4) (hk : (t.row k).h = []) (hw : aget tx t.waits = none) (hr : 1 ≤ tx ∧ tx ≤ 1048576) : t.ask tx k true 0 = (0, (t.need k).setRow k ⟨[⟨tx, true, 0, false⟩], []⟩) := by
  have hq : (t.row k).q = [] := stop_nil (by have := H.stop k; rwa [hk] at this)
  unfold Ta.ask
  rw [if_neg (by omega)]
  dsimp only
  have hh : t.holds tx k = 0 := by rw [holds_how, hk]; rfl
  rw [hh, if_neg (by simp), hw]
  dsimp only
  rw [hk, hq, if_pos (by simp [mayR])]
  simp [grantR, heldAt]
theorem quit_sub (H : TaOk t) (tx : Int) (j : K4) (x : Int) :
    (has ((t.quit tx).2.row j).h x = true → has (t.row j).h x = true ∨ has (t.row j).q x = true) ∧ (has ((t.quit tx).2.row j).q x = true → x ≠ tx ∧ has (t.row j).q x = true) := by
  unfold Ta.quit
  cases hw : aget tx t.waits with
  | none =>
    refine ⟨.inl, fun h => ⟨fun e => ?_, h⟩⟩
    subst e
    have := (H.wq x j).2 h
    rw [hw] at this; cases this
  | some k =>
    dsimp only
    have hkn := Ta.kn_set (k := k) (r := ⟨(t.row k).h, dropR (t.row k).q tx⟩) H.kn
    have e1 : ∀ (t1 : Ta), t1.rows = t.rows → ((t1.need k).setRow k ⟨(t1.row k).h, dropR (t1.row k).q tx⟩).rows = ((t.need k).setRow k ⟨(t.row k).h, dropR (t.row k).q tx⟩).rows := fun t1 h1 => by
      have : t1.row k = t.row k := row_congr h1 k
      rw [this]
      unfold Ta.setRow Ta.need
      rw [h1]
      split <;> simp_all
    have e2 := e1 { t with waits := adel tx t.waits } rfl
    generalize hT : (({ t with waits := adel tx t.waits } : Ta).need k).setRow k ⟨(({ t with waits := adel tx t.waits } : Ta).row k).h, dropR (({ t with waits := adel tx t.waits } : Ta).row k).q tx⟩ = T at e2
    have hrowT : ∀ i, T.row i = if k = i then ⟨(t.row k).h, dropR (t.row k).q tx⟩ else t.row i := fun i => by
      have : T.row i = ((t.need k).setRow k ⟨(t.row k).h, dropR (t.row k).q tx⟩).row i := row_congr e2 i
      rw [this, Ta.row_both]
    rw [Ta.row_on (by rw [e2]; exact hkn)]
    by_cases e : k = j
    · subst e
      rw [if_pos rfl]
      dsimp only
      rw [hrowT k, if_pos rfl]
      dsimp only
      obtain ⟨_, _, ⟨g, hg⟩, _, h5⟩ := onR_ok _ _ ((H.row k).dropq tx)
      refine ⟨fun h => ?_, fun h => ?_⟩
      · rcases h5 x h with h | h
        · exact .inl h
        · rw [has_drop, Bool.and_eq_true] at h; exact .inr h.1
      · have h6 : has (dropR (t.row k).q tx) x = true := by rw [hg, has_app, h, Bool.or_true]
        rw [has_drop, Bool.and_eq_true, decide_eq_true_eq] at h6
        exact ⟨h6.2, h6.1⟩
    · rw [if_neg e, hrowT j, if_neg e]
      refine ⟨.inl, fun h => ⟨fun ex => ?_, h⟩⟩
      subst ex
      exact e (H.toSemiOk.one ((H.wq x k).1 hw) h)
theorem free_q (H : TaOk t) (tx : Int) (j : K4) (x : Int) (h : has ((t.freeT tx).row j).q x = true) : x ≠ tx ∧ has (t.row j).q x = true := by
  rw [(H.free tx).2 j] at h
  dsimp only at h
  obtain ⟨_, _, ⟨g, hg⟩, _, _⟩ := onR_ok _ _ ((H.row j).drop tx)
  have h6 : has (dropR (t.row j).q tx) x = true := by rw [hg, has_app, h, Bool.or_true]
  rw [has_drop, Bool.and_eq_true, decide_eq_true_eq] at h6
  exact ⟨h6.2, h6.1⟩
theorem free_how (H : TaOk t) (tx : Int) (j : K4) (x : Int) (hx : x ≠ tx) : how (t.row j).h x ≤ how ((t.freeT tx).row j).h x :=
  law_strict H ⟨1, tx, j, false, 0⟩ x j (fun h => hx h.2.symm)
end
theorem addK_mem {d : List K4} {k y : K4} : y ∈ addK d k ↔ y ∈ d ∨ y = k := by
  unfold addK
  split
  · rename_i h
    exact ⟨fun h' => .inl h', fun h' => h'.elim id fun e => e ▸ h⟩
  · simp
theorem addK_nodup {d : List K4} {k : K4} (h : d.Nodup) : (addK d k).Nodup := by
  unfold addK
  split
  · exact h
  · rename_i hk
    rw [List.nodup_append]
    exact ⟨h, by simp, fun a ha b hb => by simp at hb; subst hb; exact fun e => hk (e ▸ ha)⟩
theorem foldl_addK_mem {y : K4} : ∀ {l d : List K4}, y ∈ l.foldl addK d ↔ y ∈ d ∨ y ∈ l
  | [], d => by simp
  | k :: l, d => by rw [List.foldl_cons, foldl_addK_mem, addK_mem, List.mem_cons, or_assoc]
theorem foldl_addK_nodup : ∀ {l d : List K4}, d.Nodup → (l.foldl addK d).Nodup
  | [], _, h => h
  | k :: l, d, h => by rw [List.foldl_cons]; exact foldl_addK_nodup (addK_nodup h)
theorem nodup_len : ∀ {l l' : List K4}, l.Nodup → (∀ y, y ∈ l → y ∈ l') → l.length ≤ l'.length
  | [], _, _, _ => Nat.zero_le _
  | k :: l, l', h, hs => by
    rw [List.nodup_cons] at h
    have hk : k ∈ l' := hs k (by simp)
    have h2 : l.length ≤ (l'.erase k).length := nodup_len h.2 fun y hy => (List.mem_erase_of_ne (show y ≠ k from fun e => h.1 (by rw [← e]; exact hy))).2 (hs y (by simp [hy]))
    have := List.length_pos_of_mem hk
    rw [List.length_erase_of_mem hk] at h2
    rw [List.length_cons]
    omega
theorem foldl_addK_len {l l' d d' : List K4} (hd : d.Nodup) (hd' : d'.Nodup) (h : ∀ y, (y ∈ d ∨ y ∈ l) ↔ (y ∈ d' ∨ y ∈ l')) : (l.foldl addK d).length = (l'.foldl addK d').length :=
  Nat.le_antisymm (nodup_len (foldl_addK_nodup hd) fun y hy => foldl_addK_mem.2 ((h y).1 (foldl_addK_mem.1 hy))) (nodup_len (foldl_addK_nodup hd') fun y hy => foldl_addK_mem.2 ((h y).2 (foldl_addK_mem.1 hy)))
theorem distK_len {l l' : List K4} (h : ∀ y, y ∈ l ↔ y ∈ l') : (distK l).length = (distK l').length :=
  foldl_addK_len List.nodup_nil List.nodup_nil fun y => by simp [h y]
theorem thereK_append (l l' : List Pr) : thereK (l ++ l') = thereK l ++ thereK l' := by simp [thereK]
theorem thereK_mem {l : List Pr} {y : K4} : y ∈ thereK l ↔ ∃ p ∈ l, p.val.there = true ∧ p.key = y := by
  simp only [thereK, List.mem_map, List.mem_filter, and_assoc]
theorem distK_sub {l l' : List K4} (h : ∀ y ∈ l, y ∈ l') : (distK l).length ≤ (distK l').length :=
  nodup_len (foldl_addK_nodup List.nodup_nil) fun y hy => by
    have := foldl_addK_mem.1 hy
    exact foldl_addK_mem.2 (this.imp id (h y))
theorem distK_self {l : List K4} (h : l.Nodup) : l.length ≤ (distK l).length := nodup_len h fun y hy => foldl_addK_mem.2 (.inr hy)
structure SwOk (t : Ta) (tx : Int) (w : Sw) : Prop where
  st : w.state = 1 ∧ w.err = 0 ∨ w.state = 2 ∧ w.err ≠ 0 ∨ w.state = 3 ∧ w.err = 0
  kn : (w.ws.map (·.1)).Nodup
  len : w.ws.length ≤ 16
  ri : ∀ x ∈ w.ws, x.2.right = true
  own : ∀ x ∈ w.ws, how (t.row x.1).h tx = 2
  num : 1 ≤ tx ∧ tx ≤ 1048576
structure SpOk (s : Sp) : Prop where
  ta : TaOk s.tab
  kn : (s.works.map (·.1)).Nodup
  each : ∀ x ∈ s.works, SwOk s.tab x.1 x.2
  len : s.works.length ≤ 8
  hold : ∀ k tx, has (s.tab.row k).h tx = true ∨ has (s.tab.row k).q tx = true → tx ∈ s.works.map (·.1)
  srt : Srt s.base
  bt : ∀ p ∈ s.base, p.val.there = true
  quota : (distK (thereK (s.base ++ s.drafts))).length ≤ 64
theorem SwOk.mono {t t' : Ta} {tx : Int} {w : Sw} (h : SwOk t tx w) (hm : ∀ k, how (t.row k).h tx ≤ how (t'.row k).h tx) : SwOk t' tx w :=
  ⟨h.st, h.kn, h.len, h.ri, fun x hx => by
    have h1 := h.own x hx
    have h2 := hm x.1
    have h3 := (how_bounds (t'.row x.1).h tx).2
    omega, h.num⟩
theorem mem_drafts {s : Sp} {p : Pr} : p ∈ s.drafts ↔ ∃ x ∈ s.works, p ∈ x.2.ws.map toPr := by
  unfold Sp.drafts
  rw [List.mem_flatMap]
theorem quota_of {b b' d d' : List Pr} (h : ∀ p ∈ b' ++ d', p.val.there = true → ∃ q ∈ b ++ d, q.val.there = true ∧ q.key = p.key) (hq : (distK (thereK (b ++ d))).length ≤ 64) : (distK (thereK (b' ++ d'))).length ≤ 64 :=
  Nat.le_trans (distK_sub fun y hy => by
    obtain ⟨p, hp, ht, rfl⟩ := thereK_mem.1 hy
    obtain ⟨q, h1, h2, h3⟩ := h p hp ht
    exact thereK_mem.2 ⟨q, h1, h2, h3⟩) hq
theorem quota_sub {b b' d d' : List Pr} (h : ∀ p ∈ b' ++ d', p ∈ b ++ d) (hq : (distK (thereK (b ++ d))).length ≤ 64) : (distK (thereK (b' ++ d'))).length ≤ 64 :=
  quota_of (fun p hp ht => ⟨p, h p hp, ht, rfl⟩) hq
theorem tput_len_some {α β : Type} [DecidableEq α] {k : α} {v u : β} {l : List (α × β)} (h : aget k l = some u) : (aput k v l).length = l.length := by rw [tput_len, h]; rfl
theorem tput_keys_some {α β : Type} [DecidableEq α] {k : α} {v u : β} {l : List (α × β)} (h : aget k l = some u) : (aput k v l).map (·.1) = l.map (·.1) := by rw [tput_keys, h]; rfl
section
variable {s : Sp}
theorem SpOk.turn (H : SpOk s) {tx : Int} {w w' : Sw} {t' : Ta} (hx : aget tx s.works = some w) (ht : TaOk t') (hm : ∀ k x, how (s.tab.row k).h x ≤ how (t'.row k).h x)
    (hh : ∀ k x, has (t'.row k).h x = true ∨ has (t'.row k).q x = true → x = tx ∨ has (s.tab.row k).h x = true ∨ has (s.tab.row k).q x = true) (hw : SwOk t' tx w')
    (hq : (distK (thereK (s.base ++ Sp.drafts ⟨s.base, t', aput tx w' s.works⟩))).length ≤ 64) : SpOk ⟨s.base, t', aput tx w' s.works⟩ := by
  have hk := tput_keys_some (v := w') hx
  refine ⟨ht, by rw [hk]; exact H.kn, fun y hy => ?_, by dsimp only; rw [tput_len_some hx]; exact H.len, fun k x h => ?_, H.srt, H.bt, hq⟩
  · rcases mem_aputK H.kn hy with rfl | ⟨hy, _⟩
    · exact hw
    · exact (H.each y hy).mono fun k => hm k _
  · dsimp only
    rw [hk]
    rcases hh k x h with rfl | h
    · exact List.mem_map.2 ⟨_, tget_mem hx, rfl⟩
    · exact H.hold k x h
theorem drafts_aput {b : List Pr} {t : Ta} {ws : List (Int × Sw)} {tx : Int} {w : Sw} {p : Pr} (h : p ∈ Sp.drafts ⟨b, t, aput tx w ws⟩) : p ∈ w.ws.map toPr ∨ p ∈ Sp.drafts ⟨b, t, ws⟩ := by
  obtain ⟨x, hx, hp⟩ := mem_drafts.1 h
  rcases mem_aput' hx with rfl | hx
  · exact .inl hp
  · exact .inr (mem_drafts.2 ⟨x, hx, hp⟩)
theorem SpOk.quotaW (H : SpOk s) {tx : Int} {w w' : Sw} {t' : Ta} (hx : aget tx s.works = some w) (hw : ∀ p ∈ w'.ws, p ∈ w.ws) : (distK (thereK (s.base ++ Sp.drafts ⟨s.base, t', aput tx w' s.works⟩))).length ≤ 64 :=
  quota_sub (fun p hp => by
    rw [List.mem_append] at hp ⊢
    rcases hp with hp | hp
    · exact .inl hp
    · right
      rcases drafts_aput hp with hp | hp
      · obtain ⟨y, hy, rfl⟩ := List.mem_map.1 hp
        exact mem_drafts.2 ⟨_, tget_mem hx, List.mem_map.2 ⟨y, hw y hy, rfl⟩⟩
      · exact hp) H.quota
theorem SpOk.doom (H : SpOk s) (tx e : Int) : SpOk (s.doom tx e).2 := by
  unfold Sp.doom
  cases hx : aget tx s.works with
  | none => exact H
  | some w =>
    dsimp only
    split
    · exact H
    · rename_i h
      obtain ⟨h1, h2⟩ := not_or.1 h
      have hw := H.each _ (tget_mem hx)
      have hq := H.ta.quit tx
      exact H.turn hx hq.1 hq.2 (fun k x hh => .inr (hh.elim (fun h => (quit_sub H.ta tx k x).1 h) (fun h => .inr ((quit_sub H.ta tx k x).2 h).2))) ((⟨.inr (.inl ⟨rfl, h2⟩), hw.kn, hw.len, hw.ri, hw.own, hw.num⟩ : SwOk s.tab tx ⟨2, e, w.ws⟩).mono fun k => hq.2 k tx) (H.quotaW hx fun p hp => hp)
theorem SpOk.dooms (H : SpOk s) : ∀ l : List Int, SpOk (l.foldl (fun s tx => (s.doom tx 18).2) s) := fun l => by
  induction l generalizing s with
  | nil => exact H
  | cons x l ih => exact ih (H.doom x 18)
theorem SpOk.late (H : SpOk s) (now : Int) : SpOk (s.late now).2 := H.dooms _
theorem SpOk.begin_ (H : SpOk s) (tx : Int) : SpOk (s.begin_ tx).2 := by
  unfold Sp.begin_
  split
  · rename_i h
    unfold Sp.may at h
    split at h
    · cases h
    rename_i h1
    split at h
    · cases h
    rename_i h2
    split at h
    · cases h
    rename_i h3
    have h2' : aget tx s.works = none := by simpa using h2
    refine ⟨H.ta, ?_, fun y hy => ?_, by simp; omega, fun k x hh => by simp only [List.map_append, List.mem_append]; exact .inl (H.hold k x hh), H.srt, H.bt, ?_⟩
    · rw [List.map_append, List.nodup_append]
      exact ⟨H.kn, by simp, fun a ha b hb e => by simp at hb; subst hb; subst e; exact tget_none.1 h2' ha⟩
    · rcases List.mem_append.1 hy with hy | hy
      · exact H.each y hy
      · simp only [List.mem_singleton] at hy
        subst hy
        exact ⟨.inl ⟨rfl, rfl⟩, List.nodup_nil, by simp, fun x hx => by simp at hx, fun x hx => by simp at hx, by omega, by omega⟩
    · have : Sp.drafts ⟨s.base, s.tab, s.works ++ [(tx, ⟨1, 0, []⟩)]⟩ = s.drafts := by simp [Sp.drafts]
      dsimp only
      rw [this]
      exact H.quota
  · exact H
theorem refused_zero {w : Option Sw} {kind : Int} (h : Sp.refused w kind = 0) : 1 ≤ kind ∧ kind ≤ 4 ∧ ∃ x, w = some x ∧ x.state ≠ 3 ∧ x.err = 0 := by
  unfold Sp.refused at h
  split at h
  · cases h
  rename_i h1
  cases w with
  | none => cases h
  | some x =>
    dsimp only at h
    split at h
    · cases h
    rename_i h2
    exact ⟨by omega, by omega, x, rfl, h2, h⟩
theorem SpOk.ask (H : SpOk s) {tx : Int} {w : Sw} (hx : aget tx s.works = some w) (k : K4) (ex : Bool) (now : Int) : SpOk ⟨s.base, (s.tab.ask tx k ex now).2, s.works⟩ := by
  have ha := H.ta.ask tx k ex now
  refine ⟨ha.1, H.kn, fun y hy => (H.each y hy).mono fun k => ha.2 k _, H.len, fun j x hh => ?_, H.srt, H.bt, H.quota⟩
  have hs := ask_sub H.ta tx k ex now j x
  rcases hh with hh | hh
  · rcases hs.1 hh with rfl | h
    · exact List.mem_map.2 ⟨_, tget_mem hx, rfl⟩
    · exact H.hold j x (.inl h)
  · rcases hs.2 hh with rfl | h
    · exact List.mem_map.2 ⟨_, tget_mem hx, rfl⟩
    · exact H.hold j x (.inr h)
theorem dPut_parts (l : List (K4 × V)) (k : K4) (v : V) (hn : (l.map (·.1)).Nodup) (hl : l.length ≤ 16) (hr : ∀ x ∈ l, V.right x.2 = true) :
    (((dPut l k v).2.map (·.1)).Nodup ∧ (dPut l k v).2.length ≤ 16 ∧ ∀ x ∈ (dPut l k v).2, V.right x.2 = true) ∧ (∀ x ∈ (dPut l k v).2, x = (k, v) ∨ x ∈ l) := by
  unfold dPut
  split
  · exact ⟨⟨hn, hl, hr⟩, fun x hx => .inr hx⟩
  rename_i h1
  split
  · exact ⟨⟨hn, hl, hr⟩, fun x hx => .inr hx⟩
  rename_i h2
  refine ⟨⟨tput_nodup _ _ _ hn, ?_, fun x hx => ?_⟩, fun x hx => mem_aput' hx⟩
  · rw [tput_len]
    split
    · exact hl
    · rename_i h3
      have : aget k l = none := by simpa using h3
      rw [this] at h2
      simp at h2
      omega
  · rcases mem_aput' hx with rfl | hx
    · simpa using h1
    · exact hr x hx
theorem put_parts (s : Sp) (w : Sw) (k : K4) (v : V) (hn : (w.ws.map (·.1)).Nodup) (hl : w.ws.length ≤ 16) (hr : ∀ x ∈ w.ws, V.right x.2 = true) :
    (((s.put w k v).2.map (·.1)).Nodup ∧ (s.put w k v).2.length ≤ 16 ∧ ∀ x ∈ (s.put w k v).2, V.right x.2 = true) ∧ (∀ x ∈ (s.put w k v).2, (x = (k, v) ∧ ¬ (v.there = true ∧ s.passed [⟨k, v⟩] = true)) ∨ x ∈ w.ws) := by
  unfold Sp.put
  split
  · exact ⟨⟨hn, hl, hr⟩, fun x hx => .inr hx⟩
  · rename_i h
    have := dPut_parts w.ws k v hn hl hr
    exact ⟨this.1, fun x hx => (this.2 x hx).imp (fun e => ⟨e, h⟩) id⟩
theorem SpOk.put (H : SpOk s) {tx : Int} {w : Sw} (hx : aget tx s.works = some w) (k : K4) (v : V) (hk : how (s.tab.row k).h tx = 2) : SpOk ⟨s.base, s.tab, aput tx ⟨w.state, w.err, (s.put w k v).2⟩ s.works⟩ := by
  have hw := H.each _ (tget_mem hx)
  obtain ⟨⟨p1, p2, p3⟩, p4⟩ := put_parts s w k v hw.kn hw.len hw.ri
  refine H.turn hx H.ta (fun k x => Int.le_refl _) (fun k x h => .inr h) ⟨hw.st, p1, p2, p3, fun x hx' => ?_, hw.num⟩ ?_
  · rcases p4 x hx' with ⟨rfl, _⟩ | h
    · exact hk
    · exact hw.own x h
  · by_cases hv : v.there = true ∧ s.passed [⟨k, v⟩] = true
    · refine H.quotaW hx fun p hp => ?_
      rcases p4 p hp with ⟨_, h⟩ | h
      · exact absurd hv h
      · exact h
    · by_cases ht : v.there = true
      · have hp : ¬ s.passed [⟨k, v⟩] = true := fun h => hv ⟨ht, h⟩
        have hq : (distK (thereK (s.base ++ [⟨k, v⟩] ++ s.drafts))).length ≤ 64 := by
          unfold Sp.passed at hp
          simpa using hp
        rw [List.append_assoc] at hq
        refine quota_sub (fun p hp => ?_) hq
        rw [List.mem_append] at hp ⊢
        rcases hp with hp | hp
        · exact .inl hp
        · right
          rw [List.mem_append]
          rcases drafts_aput hp with hp | hp
          · obtain ⟨y, hy, rfl⟩ := List.mem_map.1 hp
            rcases p4 y hy with ⟨rfl, _⟩ | h
            · exact .inl (List.mem_singleton.2 rfl)
            · exact .inr (mem_drafts.2 ⟨_, tget_mem hx, List.mem_map.2 ⟨y, h, rfl⟩⟩)
          · exact .inr hp
      · refine quota_of (fun p hp hpt => ⟨p, ?_, hpt, rfl⟩) H.quota
        rw [List.mem_append] at hp ⊢
        rcases hp with hp | hp
        · exact .inl hp
        · right
          rcases drafts_aput hp with hp | hp
          · obtain ⟨y, hy, rfl⟩ := List.mem_map.1 hp
            rcases p4 y hy with ⟨rfl, _⟩ | h
            · exact absurd hpt ht
            · exact mem_drafts.2 ⟨_, tget_mem hx, List.mem_map.2 ⟨y, h, rfl⟩⟩
          · exact hp
theorem SpOk.doOp (H : SpOk s) (kind tx : Int) (k : K4) (n now : Int) : SpOk (s.doOp kind tx k n now).2 := by
  unfold Sp.doOp
  split
  · exact H
  rename_i h1
  have h1' : Sp.refused (aget tx s.works) kind = 0 := by simpa using h1
  obtain ⟨hk1, hk2, w, hx, hs, he⟩ := refused_zero h1'
  split
  · exact H.doom tx 19
  rename_i h4
  rw [hx]
  dsimp only
  have HA := H.ask hx k (decide (kind ≠ 1)) now
  split
  · exact HA
  rename_i ha
  split
  · exact HA
  rename_i h5
  have ha' : (s.tab.ask tx k (decide (kind ≠ 1)) now).1 = 0 := by simpa using ha
  refine SpOk.doom ?_ tx _
  exact HA.put hx k (Sp.valOf kind n) ((ask_got H.ta tx k _ now ha').2 (by simpa using h5))
theorem mem_adelK {α β : Type} [DecidableEq α] {k : α} {l : List (α × β)} (hn : (l.map (·.1)).Nodup) {x : α × β} (h : x ∈ adel k l) : x ∈ l ∧ x.1 ≠ k := by
  refine ⟨(tdel_sub k l).subset h, fun e => ?_⟩
  have := tget_of_mem (tdel_nodup k l hn) (k := x.1) (v := x.2) h
  rw [tget_del _ _ _ hn, if_pos e.symm] at this
  cases this
theorem mem_adelK' {α β : Type} [DecidableEq α] {k : α} {l : List (α × β)} (hn : (l.map (·.1)).Nodup) {x : α} (h : x ∈ l.map (·.1)) (hk : x ≠ k) : x ∈ (adel k l).map (·.1) := by
  obtain ⟨y, hy, rfl⟩ := List.mem_map.1 h
  have := tget_of_mem hn (k := y.1) (v := y.2) hy
  have h2 := tget_del k y.1 l hn
  rw [if_neg (fun e => hk e.symm), this] at h2
  exact List.mem_map.2 ⟨_, tget_mem h2, rfl⟩
theorem free_h (H : TaOk s.tab) (tx : Int) (j : K4) (x : Int) (h : has ((s.tab.freeT tx).row j).h x = true) : x ≠ tx ∧ (has (s.tab.row j).h x = true ∨ has (s.tab.row j).q x = true) := by
  rw [(H.free tx).2 j] at h
  dsimp only at h
  obtain ⟨_, _, _, _, h5⟩ := onR_ok _ _ ((H.row j).drop tx)
  rcases h5 x h with h | h <;> rw [has_drop, Bool.and_eq_true, decide_eq_true_eq] at h
  · exact ⟨h.2, .inl h.1⟩
  · exact ⟨h.2, .inr h.1⟩
theorem SpOk.forget (H : SpOk s) (tx : Int) : SpOk (s.forget tx) := by
  unfold Sp.forget
  refine ⟨(H.ta.free tx).1, tdel_nodup _ _ H.kn, fun y hy => ?_, Nat.le_trans (tdel_sub tx _).length_le H.len, fun k x hh => ?_, H.srt, H.bt, ?_⟩
  · obtain ⟨h1, h2⟩ := mem_adelK H.kn hy
    exact (H.each y h1).mono fun k => free_how H.ta tx k _ h2
  · rcases hh with hh | hh
    · obtain ⟨h1, h2⟩ := free_h H.ta tx k x hh
      exact mem_adelK' H.kn (H.hold k x h2) h1
    · obtain ⟨h1, h2⟩ := free_q H.ta tx k x hh
      exact mem_adelK' H.kn (H.hold k x (.inr h2)) h1
  · refine quota_sub (fun p hp => ?_) H.quota
    rw [List.mem_append] at hp ⊢
    rcases hp with hp | hp
    · exact .inl hp
    · right
      obtain ⟨x, hx, hp⟩ := mem_drafts.1 hp
      exact mem_drafts.2 ⟨x, (tdel_sub tx _).subset hx, hp⟩
theorem SpOk.vote (H : SpOk s) (tx : Int) (mask : Nat) : SpOk (s.vote tx mask).2 := by
  unfold Sp.vote
  cases hx : aget tx s.works with
  | none => exact H
  | some w =>
    dsimp only
    have hw := H.each _ (tget_mem hx)
    split
    · exact H
    rename_i h3
    split
    · exact H
    split
    · exact H.forget tx
    rename_i h2
    split
    · exact H.forget tx
    have h2' := not_or.1 h2
    have he : w.err = 0 := by rcases hw.st with h | h | h; exact h.2; exact absurd h.1 h2'.1; exact h.2
    exact H.turn hx H.ta (fun k x => Int.le_refl _) (fun k x h => .inr h) ⟨.inr (.inr ⟨rfl, he⟩), hw.kn, hw.len, hw.ri, hw.own, hw.num⟩ (H.quotaW hx fun p hp => hp)
theorem mem_sortP {l : List Pr} {p : Pr} (h : p ∈ sortP l) : p ∈ l := by
  unfold sortP thereP at h
  exact keysP_mem l (List.mem_filter.1 h).1
theorem SpOk.rebase (H : SpOk s) {tx : Int} {w : Sw} (hx : aget tx s.works = some w) : SpOk ⟨sortP (s.base ++ keysP (w.ws.map toPr)), s.tab, s.works⟩ := by
  refine ⟨H.ta, H.kn, H.each, H.len, H.hold, sortP_srt _, sortP_all _, ?_⟩
  refine quota_sub (fun p hp => ?_) H.quota
  rw [List.mem_append] at hp ⊢
  rcases hp with hp | hp
  · rcases List.mem_append.1 (mem_sortP hp) with h | h
    · exact .inl h
    · exact .inr (mem_drafts.2 ⟨_, tget_mem hx, keysP_mem _ h⟩)
  · exact .inr hp
theorem SpOk.end_ (H : SpOk s) (tx : Int) (c : Bool) : SpOk (s.end_ tx c).2 := by
  unfold Sp.end_
  cases hx : aget tx s.works with
  | none => exact H
  | some w =>
    dsimp only
    split
    · exact H
    · cases c with
      | false => exact H.forget tx
      | true => exact (H.rebase hx).forget tx
end
theorem draftedN_some : ∀ (l : List Pr) (i : Nat) (pre : List Pr) (d' : List (K4 × V)), Srt pre → (∀ p ∈ pre, p.val.right = true) → pre.length ≤ 16 → Sp.draftedN i (pre.map ofPr') (pre.getLast?.map (·.key)) l = some d' →
    d' = (pre ++ l).map ofPr' ∧ Srt (pre ++ l) ∧ (∀ p ∈ pre ++ l, p.val.right = true) ∧ (pre ++ l).length ≤ 16
  | [], i, pre, d', h1, h2, h3, h => by
    simp only [Sp.draftedN, Option.some.injEq] at h
    simp only [List.append_nil]
    exact ⟨h.symm, h1, h2, h3⟩
  | p :: l, i, pre, d', h1, h2, h3, h => by
    simp only [Sp.draftedN] at h
    split at h
    · cases h
    rename_i hc
    obtain ⟨hc1, hc2⟩ := not_or.1 hc
    have hlast : ∀ q ∈ pre, q.key.num < p.key.num := fun q hq => by
      have hne : pre ≠ [] := fun e => by rw [e] at hq; cases hq
      have hl : pre.getLast? = some (pre.getLast hne) := List.getLast?_eq_some_getLast hne
      have h4 : ¬ p.key.num ≤ (pre.getLast hne).key.num := fun h => hc2 ⟨_, by rw [hl]; rfl, h⟩
      have h5 : q.key.num ≤ (pre.getLast hne).key.num := by
        have hd := List.dropLast_concat_getLast hne
        rw [← hd] at hq
        rcases List.mem_append.1 hq with hq | hq
        · have h6 : Srt (pre.dropLast ++ [pre.getLast hne]) := by rw [hd]; exact h1
          have := (List.pairwise_append.1 h6).2.2 q hq _ (List.mem_singleton.2 rfl)
          omega
        · rw [List.mem_singleton] at hq; rw [hq]; exact Nat.le_refl _
      omega
    have hget : aget p.key (pre.map ofPr') = none := tget_none.2 fun hm => by
      obtain ⟨x, hx, hxe⟩ := List.mem_map.1 hm
      obtain ⟨q, hq, rfl⟩ := List.mem_map.1 hx
      have := hlast q hq
      have e : q.key = p.key := hxe
      rw [e] at this
      omega
    have hput : (dPut (pre.map ofPr') p.key p.val).1 = 0 := by simpa using hc1
    have hd : p.val.right = true ∧ pre.length < 16 ∧ (dPut (pre.map ofPr') p.key p.val).2 = (pre ++ [p]).map ofPr' := by
      unfold dPut at hput ⊢
      split at hput
      · cases hput
      rename_i e1
      split at hput
      · cases hput
      rename_i e2
      rw [if_neg e1, if_neg e2]
      rw [hget] at e2
      refine ⟨by simpa using e1, by simp at e2; omega, ?_⟩
      dsimp only
      rw [tput_none _ _ hget, List.map_append]
      rfl
    have hp' : Srt (pre ++ [p]) := List.pairwise_append.2 ⟨h1, by simp, fun a ha b hb => by rw [List.mem_singleton] at hb; rw [hb]; exact hlast a ha⟩
    have hlst : some p.key = ((pre ++ [p]).getLast?.map (·.key)) := by simp
    rw [hd.2.2, hlst] at h
    have := draftedN_some l (i + 1) (pre ++ [p]) d' hp' (fun q hq => by rcases List.mem_append.1 hq with hq | hq; exact h2 q hq; rw [List.mem_singleton] at hq; rw [hq]; exact hd.1) (by simp; omega) h
    simpa using this
theorem drafted_some {l : List Pr} {d : List (K4 × V)} (h : Sp.drafted l = some d) : l ≠ [] ∧ d = l.map ofPr' ∧ Srt l ∧ (∀ p ∈ l, p.val.right = true) ∧ l.length ≤ 16 := by
  unfold Sp.drafted at h
  split at h
  · cases h
  rename_i hne
  have := draftedN_some l 0 [] d List.Pairwise.nil (fun p hp => by cases hp) (by simp) h
  simp only [List.nil_append] at this
  exact ⟨hne, this⟩
theorem draftedN_ok : ∀ (l : List Pr) (i : Nat) (pre : List Pr), Srt (pre ++ l) → (∀ p ∈ l, p.val.right = true) → (pre ++ l).length ≤ 16 → Sp.draftedN i (pre.map ofPr') (pre.getLast?.map (·.key)) l = some ((pre ++ l).map ofPr')
  | [], i, pre, _, _, _ => by simp [Sp.draftedN]
  | p :: l, i, pre, h1, h2, h3 => by
    have hpre : ∀ q ∈ pre, q.key.num < p.key.num := fun q hq => (List.pairwise_append.1 h1).2.2 q hq p (by simp)
    have hget : aget p.key (pre.map ofPr') = none := tget_none.2 fun hm => by
      obtain ⟨x, hx, hxe⟩ := List.mem_map.1 hm
      obtain ⟨q, hq, rfl⟩ := List.mem_map.1 hx
      have := hpre q hq
      have e : q.key = p.key := hxe
      rw [e] at this
      omega
    have hd : dPut (pre.map ofPr') p.key p.val = (0, (pre ++ [p]).map ofPr') := by
      unfold dPut
      rw [if_neg (by rw [h2 p (by simp)]; simp), if_neg (by simp only [List.length_append, List.length_cons, List.length_map] at h3 ⊢; omega), tput_none _ _ hget, List.map_append]
      rfl
    simp only [Sp.draftedN]
    rw [hd, if_neg]
    · have hlst : some p.key = ((pre ++ [p]).getLast?.map (·.key)) := by simp
      dsimp only
      rw [hlst, draftedN_ok l (i + 1) (pre ++ [p]) (by simpa using h1) (fun q hq => h2 q (by simp [hq])) (by simpa using h3)]
      simp
    · rintro (h | ⟨k, hk, hle⟩)
      · exact h rfl
      · cases hpl : pre.getLast? with
        | none => rw [hpl] at hk; cases hk
        | some q =>
          rw [hpl] at hk
          obtain rfl := Option.some.inj hk
          have := hpre q (List.mem_of_getLast? hpl)
          simp only at hle
          omega
theorem drafted_ok {l : List Pr} (h0 : l ≠ []) (h1 : Srt l) (h2 : ∀ p ∈ l, p.val.right = true) (h3 : l.length ≤ 16) : Sp.drafted l = some (l.map ofPr') := by
  unfold Sp.drafted
  rw [if_neg h0]
  exact draftedN_ok l 0 [] h1 h2 h3
theorem askAll_ok (tx : Int) (hr : 1 ≤ tx ∧ tx ≤ 1048576) : ∀ (l : List Pr) (t : Ta), TaOk t → (l.map (·.key)).Nodup → (∀ p ∈ l, (t.row p.key).h = []) → aget tx t.waits = none →
    TaOk (Sp.askAll t tx l) ∧ (∀ j, (Sp.askAll t tx l).row j = if j ∈ l.map (·.key) then ⟨[⟨tx, true, 0, false⟩], []⟩ else t.row j) ∧ (Sp.askAll t tx l).waits = t.waits
  | [], t, H, _, _, _ => ⟨H, fun j => by simp [Sp.askAll], rfl⟩
  | p :: l, t, H, hn, hh, hw => by
    have ho := ask_open H tx p.key (hh p (by simp)) hw hr
    have hok := (H.ask tx p.key true 0).1
    rw [List.map_cons, List.nodup_cons] at hn
    have e : Sp.askAll t tx (p :: l) = Sp.askAll ((t.ask tx p.key true 0).2) tx l := rfl
    rw [ho] at e hok
    dsimp only at e hok
    have hrow : ∀ j, ((t.need p.key).setRow p.key ⟨[⟨tx, true, 0, false⟩], []⟩).row j = if p.key = j then ⟨[⟨tx, true, 0, false⟩], []⟩ else t.row j := fun j => Ta.row_both
    have hwt : ((t.need p.key).setRow p.key ⟨[⟨tx, true, 0, false⟩], []⟩).waits = t.waits := Ta.waits_set
    obtain ⟨i1, i2, i3⟩ := askAll_ok tx hr l _ hok hn.2 (fun q hq => by
      rw [hrow, if_neg (fun e => hn.1 (by rw [e]; exact List.mem_map.2 ⟨q, hq, rfl⟩))]
      exact hh q (by simp [hq])) (by rw [hwt]; exact hw)
    rw [e]
    refine ⟨i1, fun j => ?_, i3.trans hwt⟩
    rw [i2 j, hrow j]
    by_cases h1 : j ∈ l.map (·.key)
    · rw [if_pos h1, if_pos (by rw [List.map_cons]; exact List.mem_cons_of_mem _ h1)]
    · rw [if_neg h1]
      by_cases h2 : p.key = j
      · rw [if_pos h2, if_pos (by rw [List.map_cons, h2]; exact List.mem_cons_self)]
      · rw [if_neg h2, if_neg (by rw [List.map_cons, List.mem_cons]; exact not_or.2 ⟨fun e => h2 e.symm, h1⟩)]
section
variable {s : Sp}
theorem SpOk.noWait (H : SpOk s) {tx : Int} (h : aget tx s.works = none) : aget tx s.tab.waits = none := by
  cases hw : aget tx s.tab.waits with
  | none => rfl
  | some k => exact absurd (H.hold k tx (.inr ((H.ta.wq tx k).1 hw))) (tget_none.1 h)
theorem may_zero {tx : Int} (h : s.may tx = 0) : (1 ≤ tx ∧ tx ≤ 1048576) ∧ aget tx s.works = none ∧ s.works.length < 8 := by
  unfold Sp.may at h
  split at h
  · cases h
  rename_i h1
  split at h
  · cases h
  rename_i h2
  split at h
  · cases h
  rename_i h3
  exact ⟨by omega, by simpa using h2, by omega⟩
theorem toPr_ofPr' (l : List Pr) : (l.map ofPr').map toPr = l := toPr_of l
theorem SpOk.restore (H : SpOk s) (tx : Int) (l : List Pr) : SpOk (s.restore tx l).2 := by
  unfold Sp.restore
  split
  · exact H
  rename_i hm
  obtain ⟨hr, hx, hl8⟩ := may_zero (s := s) (tx := tx) (by simpa using hm)
  cases hd : Sp.drafted l with
  | none => exact H
  | some d =>
    dsimp only
    split
    · exact H
    rename_i hheld
    split
    · exact H
    rename_i hpass
    obtain ⟨hne, rfl, hs, hri, hlen⟩ := drafted_some hd
    have hnd : (l.map (·.key)).Nodup := by
      refine List.pairwise_map.2 (hs.imp fun {a b} h e => ?_)
      rw [e] at h; omega
    have hfree : ∀ p ∈ l, (s.tab.row p.key).h = [] := fun p hp => by
      have h1 : ¬ p.key ∈ s.tab.heldT := fun h => hheld (List.any_eq_true.2 ⟨p, hp, by simpa using h⟩)
      rw [mem_heldT H.ta.kn] at h1
      exact Classical.not_not.1 h1
    obtain ⟨a1, a2, a3⟩ := askAll_ok tx hr l s.tab H.ta hnd hfree (H.noWait hx)
    have hmono : ∀ k x, how (s.tab.row k).h x ≤ how ((Sp.askAll s.tab tx l).row k).h x := fun k x => by
      rw [a2 k]
      split
      · rename_i hk
        obtain ⟨p, hp, rfl⟩ := List.mem_map.1 hk
        rw [hfree p hp, how_nil]
        exact (how_bounds _ _).1
      · exact Int.le_refl _
    refine ⟨a1, ?_, fun y hy => ?_, by simp; omega, fun k x hh => ?_, H.srt, H.bt, ?_⟩
    · rw [List.map_append, List.nodup_append]
      exact ⟨H.kn, by simp, fun a ha b hb e => by simp at hb; subst hb; subst e; exact tget_none.1 hx ha⟩
    · rcases List.mem_append.1 hy with hy | hy
      · exact (H.each y hy).mono fun k => hmono k _
      · simp only [List.mem_singleton] at hy
        subst hy
        refine ⟨.inr (.inr ⟨rfl, rfl⟩), by simpa [List.map_map, Function.comp_def, ofPr'] using hnd, by simpa using hlen, fun x hx => ?_, fun x hx => ?_, hr⟩
        · obtain ⟨p, hp, rfl⟩ := List.mem_map.1 hx
          exact hri p hp
        · obtain ⟨p, hp, rfl⟩ := List.mem_map.1 hx
          dsimp only [ofPr']
          rw [a2, if_pos (List.mem_map.2 ⟨p, hp, rfl⟩)]
          simp [how]
    · simp only [List.map_append, List.mem_append]
      rw [a2 k] at hh
      split at hh
      · right
        simp only [has, List.any_cons, List.any_nil, Bool.or_false, decide_eq_true_eq, Bool.false_eq_true, or_false] at hh
        simp [hh]
      · exact .inl (H.hold k x hh)
    · have hq : (distK (thereK (s.base ++ l ++ s.drafts))).length ≤ 64 := by
        unfold Sp.passed at hpass
        simpa using hpass
      rw [List.append_assoc] at hq
      refine quota_sub (fun p hp => ?_) hq
      rw [List.mem_append] at hp ⊢
      rcases hp with hp | hp
      · exact .inl hp
      · right
        rw [List.mem_append]
        obtain ⟨x, hx, hp⟩ := mem_drafts.1 hp
        rcases List.mem_append.1 hx with hx | hx
        · exact .inr (mem_drafts.2 ⟨x, hx, hp⟩)
        · simp only [List.mem_singleton] at hx
          subst hx
          left
          dsimp only at hp
          rwa [toPr_ofPr'] at hp
theorem SpOk.new {b : List Pr} (hs : Srt b) (ht : ∀ p ∈ b, p.val.there = true) (hl : b.length ≤ 64) : SpOk ⟨b, ⟨5, [], []⟩, []⟩ := by
  refine ⟨TaOk.none 5, List.nodup_nil, (fun x hx => by cases hx), (by simp), (fun k tx h => ?_), hs, ht, ?_⟩
  · simp [Ta.row, aget, has] at h
  · have : (distK (thereK (b ++ Sp.drafts ⟨b, ⟨5, [], []⟩, []⟩))).length ≤ (thereK b).length := nodup_len (foldl_addK_nodup List.nodup_nil) fun y hy => by
      have := foldl_addK_mem.1 hy
      simpa [Sp.drafts] using this
    have h2 : (thereK b).length ≤ b.length := by unfold thereK; rw [List.length_map]; exact List.length_filter_le _ _
    exact Nat.le_trans this (Nat.le_trans h2 hl)
theorem SpOk.blen (H : SpOk s) : s.base.length ≤ 64 := by
  have h1 : (thereK s.base) = s.base.map (·.key) := by
    unfold thereK
    rw [List.filter_eq_self.2 H.bt]
  have h2 : (s.base.map (·.key)).Nodup := List.pairwise_map.2 (H.srt.imp fun {a b} h e => by rw [e] at h; omega)
  have h3 := distK_self h2
  have h4 : (distK (thereK s.base)).length ≤ (distK (thereK (s.base ++ s.drafts))).length := distK_sub fun y hy => by rw [thereK_append]; exact List.mem_append_left _ hy
  rw [h1] at h4
  have := H.quota
  simp only [List.length_map] at h3
  omega
end
structure Cs where
  what : Int
  tx : Int
  now : Int
  kind : Int
  otx : Int
  key : K4
  n : Int
  err : Int
  mask : Nat
  commit : Bool
  pairs : List Pr
def Sp.step (s : Sp) (c : Cs) : Sp :=
  if c.what = 0 then (s.begin_ c.tx).2 else if c.what = 1 then (s.doOp c.kind c.otx c.key c.n c.now).2 else if c.what = 2 then (s.late c.now).2 else if c.what = 3 then (s.doom c.tx c.err).2 else if c.what = 4 then (s.vote c.tx c.mask).2 else if c.what = 5 then (s.end_ c.tx c.commit).2 else if c.what = 6 then (s.restore c.tx c.pairs).2 else s
def Sp.steps (s : Sp) (l : List Cs) : Sp := l.foldl Sp.step s
theorem steps_snoc (s : Sp) (l : List Cs) (c : Cs) : s.steps (l ++ [c]) = (s.steps l).step c := by unfold Sp.steps; rw [List.foldl_append]; rfl
theorem steps_take (s : Sp) (l : List Cs) (k : Nat) (h : k < l.length) : s.steps (l.take (k + 1)) = (s.steps (l.take k)).step l[k] := by rw [List.take_succ_eq_append_getElem h, steps_snoc]
structure Lim (s : Sp) (n : Nat) : Prop where
  le : s.tab.le n
  rl : s.tab.rows.length ≤ n
section
variable {s : Sp} {n : Nat}
theorem SpOk.step (H : SpOk s) (c : Cs) : SpOk (s.step c) := by
  unfold Sp.step
  split; exact H.begin_ _
  split; exact H.doOp _ _ _ _ _
  split; exact H.late _
  split; exact H.doom _ _
  split; exact H.vote _ _
  split; exact H.end_ _ _
  split; exact H.restore _ _
  exact H
theorem SpOk.steps (H : SpOk s) (l : List Cs) : SpOk (s.steps l) := by
  induction l generalizing s with
  | nil => exact H
  | cons c l ih => exact ih (H.step c)
theorem Lim.mono {m : Nat} (h : Lim s n) (hm : n ≤ m) : Lim s m := ⟨h.le.mono hm, Nat.le_trans h.rl hm⟩
theorem Lim.doom (h : Lim s n) (H : SpOk s) (tx e : Int) : Lim (s.doom tx e).2 n := by
  unfold Sp.doom
  cases aget tx s.works with
  | none => exact h
  | some w =>
    dsimp only
    split
    · exact h
    · exact ⟨h.le.quit, Nat.le_trans (H.ta.quit_len tx) h.rl⟩
theorem Lim.dooms (h : Lim s n) (H : SpOk s) (l : List Int) : Lim (l.foldl (fun s tx => (s.doom tx 18).2) s) n := by
  induction l generalizing s with
  | nil => exact h
  | cons x l ih => exact ih (h.doom H x 18) (H.doom x 18)
theorem Lim.forget (h : Lim s n) (H : SpOk s) (tx : Int) : Lim (s.forget tx) n := ⟨h.le.freeT, Nat.le_trans (H.ta.free_len tx) h.rl⟩
theorem Lim.doOp (h : Lim s n) (H : SpOk s) (kind tx : Int) (k : K4) (m now : Int) : Lim (s.doOp kind tx k m now).2 (n + 1) := by
  unfold Sp.doOp
  split
  · exact h.mono (by omega)
  rename_i h1
  obtain ⟨hk1, hk2, w, hx, hs, he⟩ := refused_zero (show Sp.refused (aget tx s.works) kind = 0 by simpa using h1)
  split
  · exact (h.doom H tx 19).mono (by omega)
  rw [hx]
  dsimp only
  have HA := H.ask hx k (decide (kind ≠ 1)) now
  have HL : Lim ⟨s.base, (s.tab.ask tx k (decide (kind ≠ 1)) now).2, s.works⟩ (n + 1) := ⟨h.le.ask _ _, Nat.le_trans (Ta.ask_len tx k _ now) (by have := h.rl; omega)⟩
  split
  · exact HL
  rename_i ha
  split
  · exact HL
  rename_i h5
  have ha' : (s.tab.ask tx k (decide (kind ≠ 1)) now).1 = 0 := by simpa using ha
  refine Lim.doom ?_ (HA.put hx k (Sp.valOf kind m) ((ask_got H.ta tx k _ now ha').2 (by simpa using h5))) tx _
  exact ⟨HL.le, HL.rl⟩
theorem askAll_lim (tx : Int) : ∀ (l : List Pr) (t : Ta) (n : Nat), t.le n → t.rows.length ≤ n → (Sp.askAll t tx l).le (n + l.length) ∧ (Sp.askAll t tx l).rows.length ≤ n + l.length
  | [], t, n, h1, h2 => ⟨h1, h2⟩
  | p :: l, t, n, h1, h2 => by
    have := askAll_lim tx l (t.ask tx p.key true 0).2 (n + 1) (h1.ask _ _) (Nat.le_trans (Ta.ask_len tx p.key true 0) (by omega))
    rw [List.length_cons, show n + (l.length + 1) = n + 1 + l.length by omega]
    exact this
theorem Lim.restore (h : Lim s n) (tx : Int) (l : List Pr) : Lim (s.restore tx l).2 (n + 16) := by
  unfold Sp.restore
  split
  · exact h.mono (by omega)
  cases hd : Sp.drafted l with
  | none => exact h.mono (by omega)
  | some d =>
    dsimp only
    split
    · exact h.mono (by omega)
    split
    · exact h.mono (by omega)
    have := (drafted_some hd).2.2.2.2
    obtain ⟨a1, a2⟩ := askAll_lim tx l s.tab n h.le h.rl
    exact ⟨a1.mono (by omega), Nat.le_trans a2 (by omega)⟩
theorem Lim.vote (h : Lim s n) (H : SpOk s) (tx : Int) (mask : Nat) : Lim (s.vote tx mask).2 n := by
  unfold Sp.vote
  cases aget tx s.works with
  | none => exact h
  | some w =>
    dsimp only
    split; exact h
    split; exact h
    split; exact h.forget H tx
    split; exact h.forget H tx
    exact ⟨h.le, h.rl⟩
theorem Lim.end_ (h : Lim s n) (H : SpOk s) (tx : Int) (c : Bool) : Lim (s.end_ tx c).2 n := by
  unfold Sp.end_
  cases aget tx s.works with
  | none => exact h
  | some w =>
    dsimp only
    split; exact h
    exact ⟨h.le.freeT, Nat.le_trans (H.ta.free_len tx) h.rl⟩
theorem Lim.begin_ (h : Lim s n) (tx : Int) : Lim (s.begin_ tx).2 n := by
  unfold Sp.begin_
  split
  · exact ⟨h.le, h.rl⟩
  · exact h
theorem Lim.step (h : Lim s n) (H : SpOk s) (c : Cs) : Lim (s.step c) (n + 16) := by
  unfold Sp.step
  split; exact (h.begin_ _).mono (by omega)
  split; exact (h.doOp H _ _ _ _ _).mono (by omega)
  split; exact (h.dooms H _).mono (by omega)
  split; exact (h.doom H _ _).mono (by omega)
  split; exact (h.vote H _ _).mono (by omega)
  split; exact (h.end_ H _ _).mono (by omega)
  split; exact h.restore _ _
  exact h.mono (by omega)
theorem Lim.steps (h : Lim s n) (H : SpOk s) (l : List Cs) : Lim (s.steps l) (n + 16 * l.length) := by
  induction l generalizing s n with
  | nil => exact h
  | cons c l ih =>
    have := ih (h.step H c) (H.step c)
    rw [List.length_cons, show n + 16 * (l.length + 1) = n + 16 + 16 * l.length by omega]
    exact this
theorem Lim.new (b : List Pr) : Lim ⟨b, ⟨5, [], []⟩, []⟩ 0 := ⟨fun p hp => by simp at hp, by simp⟩
theorem SpOk.wlen (H : SpOk s) : ∀ x ∈ s.works, x.2.ws.length ≤ 1000 := fun x hx => Nat.le_trans (H.each x hx).len (by omega)
end
section
variable {s : Sp}
theorem doom_base (s : Sp) (tx e : Int) : (s.doom tx e).2.base = s.base := by
  unfold Sp.doom
  cases aget tx s.works with
  | none => rfl
  | some w => dsimp only; split <;> rfl
theorem dooms_base (l : List Int) (s : Sp) : (l.foldl (fun s tx => (s.doom tx 18).2) s).base = s.base := by
  induction l generalizing s with
  | nil => rfl
  | cons x l ih => rw [List.foldl_cons, ih, doom_base]
theorem doOp_base (s : Sp) (kind tx : Int) (k : K4) (m now : Int) : (s.doOp kind tx k m now).2.base = s.base := by
  unfold Sp.doOp
  split; rfl
  split; exact doom_base _ _ _
  cases aget tx s.works with
  | none => rfl
  | some w =>
    dsimp only
    split; rfl
    split; rfl
    rw [doom_base]
theorem step_base (s : Sp) (c : Cs) : (s.step c).base = if c.what = 5 ∧ c.commit = true ∧ s.stateOf c.tx = 3 then sortP (s.base ++ s.draftOf c.tx) else s.base := by
  unfold Sp.step
  by_cases h5 : c.what = 5
  · rw [if_neg (by omega), if_neg (by omega), if_neg (by omega), if_neg (by omega), if_neg (by omega), if_pos h5]
    unfold Sp.end_ Sp.stateOf Sp.draftOf
    cases hx : aget c.tx s.works with
    | none => simp
    | some w =>
      dsimp only [Option.map_some, Option.getD_some]
      cases hc : c.commit with
      | false => simp [Sp.forget]
      | true =>
        by_cases h3 : w.state = 3
        · simp [h3, h5, Sp.forget]
        · simp [h3]
  · have e : (if c.what = 5 ∧ c.commit = true ∧ s.stateOf c.tx = 3 then sortP (s.base ++ s.draftOf c.tx) else s.base) = s.base := if_neg (fun h => h5 h.1)
    rw [e]
    split
    · unfold Sp.begin_; split <;> rfl
    split; exact doOp_base _ _ _ _ _ _
    split; exact dooms_base _ _
    split; exact doom_base _ _ _
    split
    · unfold Sp.vote
      cases aget c.tx s.works with
      | none => rfl
      | some w =>
        dsimp only
        split; rfl
        split; rfl
        split; rfl
        split <;> rfl
    split
    · unfold Sp.restore
      split; rfl
      cases Sp.drafted c.pairs with
      | none => rfl
      | some d => dsimp only; split; rfl; split <;> rfl
    · rfl
theorem lastP_drafts {ws : List (K4 × V)} (hn : (ws.map (·.1)).Nodup) (k : K4) : lastP k (keysP (ws.map toPr)) = aget k ws := by
  rw [srt_lastP (keysP_srt _), keysP_get, lastP_works ws hn]
theorem find_there {b : List Pr} (hs : Srt b) (ht : ∀ p ∈ b, p.val.there = true) (k : K4) : (lastP k b).filter (fun v => v.there) = lastP k b := by
  cases h : lastP k b with
  | none => rfl
  | some v =>
    rw [srt_lastP hs] at h
    have := ht _ (getP_mem h)
    simp only at this
    simp [Option.filter, this]
theorem hidden_find (H : SpOk s) {tx : Int} {w : Sw} (hx : aget tx s.works = some w) (k : K4) : s.get w k = findP (sortP (s.base ++ s.draftOf tx)) k := by
  have hw := H.each _ (tget_mem hx)
  unfold Sp.get findP Sp.draftOf
  rw [hx]
  dsimp only [Option.map_some, Option.getD_some]
  rw [srt_lastP (sortP_srt _), sortP_get, lastP_append, lastP_drafts hw.kn]
  cases hg : aget k w.ws with
  | none =>
    simp only [Option.none_or, Option.getD_none]
    rw [find_there H.srt H.bt]
  | some v =>
    simp only [Option.some_or, Option.getD_some]
    have hr := hw.ri _ (tget_mem hg)
    simp only at hr
    by_cases ht : v.there = true
    · simp [Option.filter, ht]
    · obtain ⟨a, b⟩ := v
      cases a with
      | true => exact absurd rfl ht
      | false =>
        simp [V.right] at hr
        simp [Option.filter, hr, V.zero]
theorem hidden_get (H : SpOk s) {kind tx m now : Int} {k : K4} (hk : kind = 1) (h0 : (s.doOp kind tx k m now).1.1 = 0) : (s.doOp kind tx k m now).1.2 = findP (sortP (s.base ++ s.draftOf tx)) k := by
  unfold Sp.doOp at h0 ⊢
  split at h0
  · rename_i h1; exact absurd h0 h1
  rename_i h1
  rw [if_neg h1]
  obtain ⟨hk1, hk2, w, hx, hs, he⟩ := refused_zero (show Sp.refused (aget tx s.works) kind = 0 by simpa using h1)
  rw [if_neg (by omega)] at h0 ⊢
  rw [hx] at h0 ⊢
  dsimp only at h0 ⊢
  split at h0
  · rename_i h2; exact absurd h0 h2
  rename_i h2
  rw [if_neg h2, if_pos hk]
  exact hidden_find H hx k
theorem strict_held (H : SpOk s) {kind tx m now : Int} {k : K4} (hk : kind ≠ 4) (h0 : (s.doOp kind tx k m now).1.1 = 0) : k ∈ (s.doOp kind tx k m now).2.tab.keysT tx := by
  have H' := H.doOp kind tx k m now
  rw [mem_keysT H'.ta.kn, ← how_pos]
  unfold Sp.doOp at h0 ⊢
  split at h0
  · rename_i h1; exact absurd h0 h1
  rename_i h1
  rw [if_neg h1]
  obtain ⟨hk1, hk2, w, hx, hs, he⟩ := refused_zero (show Sp.refused (aget tx s.works) kind = 0 by simpa using h1)
  simp only [if_neg hk] at h0 ⊢
  rw [hx] at h0 ⊢
  dsimp only at h0 ⊢
  split at h0
  · rename_i h2; exact absurd h0 h2
  rename_i h2
  rw [if_neg h2]
  have hg := (ask_got H.ta tx k (decide (kind ≠ 1)) now (by simpa using h2)).1
  split at h0
  · rename_i h5
    rw [if_pos h5]
    dsimp only; omega
  · rename_i h5
    rw [if_neg h5]
    dsimp only at h0
    rw [h0]
    have : ∀ S : Sp, (S.doom tx 0).2 = S := fun S => by
      unfold Sp.doom
      cases aget tx S.works with
      | none => rfl
      | some w => dsimp only; rw [if_pos (.inr rfl)]
    rw [this]
    dsimp only; omega
theorem strict_shut (H : SpOk s) {p y : Int} {w : Sw} {k : K4} (hp : aget p s.works = some ⟨1, 0, []⟩) (hy : aget y s.works = some w) (hne : y ≠ p) (hk : k ∈ w.ws.map (·.1)) (m : Int) :
    (s.doOp 1 p k m 0).1.1 ≠ 0 ∧ (s.doOp 1 p k m 0).2.works = s.works := by
  obtain ⟨x, hxm, rfl⟩ := List.mem_map.1 hk
  have hown := (H.each _ (tget_mem hy)).own x hxm
  have hs := ask_shut H.ta p y x.1 (decide ((1 : Int) ≠ 1)) 0 hown hne
  unfold Sp.doOp
  rw [hp]
  rw [if_neg (by simp [Sp.refused]), if_neg (by decide)]
  dsimp only
  rw [if_pos hs]
  exact ⟨hs, rfl⟩
theorem begin_eq {tx : Int} (h : (s.begin_ tx).1 = 0) : (s.begin_ tx).2 = { s with works := s.works ++ [(tx, ⟨1, 0, []⟩)] } ∧ aget tx s.works = none := by
  unfold Sp.begin_ at h ⊢
  split at h
  · rename_i h1
    rw [if_pos h1]
    exact ⟨rfl, (may_zero h1).2.1⟩
  · rename_i h1; exact absurd h h1
theorem draftOf_keys (H : SpOk s) {tx : Int} {w : Sw} (hx : aget tx s.works = some w) {p : Pr} (hp : p ∈ s.draftOf tx) : p.key ∈ w.ws.map (·.1) := by
  unfold Sp.draftOf at hp
  rw [hx] at hp
  have := keysP_mem _ (show p ∈ keysP (w.ws.map toPr) from hp)
  obtain ⟨y, hy, rfl⟩ := List.mem_map.1 this
  exact List.mem_map.2 ⟨y, hy, rfl⟩
theorem mem_txs {tx : Int} : tx ∈ s.txs ↔ tx ∈ s.works.map (·.1) := (srtI_perm _).mem_iff
theorem aget_of_txs {tx : Int} (h : tx ∈ s.txs) : ∃ w, aget tx s.works = some w := by
  cases hx : aget tx s.works with
  | some w => exact ⟨w, rfl⟩
  | none => exact absurd (mem_txs.1 h) (tget_none.1 hx)
theorem gone_keys (H : SpOk s) {tx : Int} (h : aget tx s.works = none) : s.tab.keysT tx = [] := by
  cases hk : s.tab.keysT tx with
  | nil => rfl
  | cons k l =>
    have : k ∈ s.tab.keysT tx := by rw [hk]; simp
    rw [mem_keysT H.ta.kn] at this
    exact absurd (H.hold k tx (.inl this)) (tget_none.1 h)
theorem forget_gone (H : SpOk s) (tx : Int) : aget tx (s.forget tx).works = none := by
  have := tget_del tx tx s.works H.kn
  rwa [if_pos rfl] at this
theorem state_gone {tx : Int} (h : aget tx s.works = none) : s.stateOf tx = 0 := by unfold Sp.stateOf; rw [h]; rfl
theorem draft_len {ws : List (K4 × V)} (hn : (ws.map (·.1)).Nodup) : (keysP (ws.map toPr)).length = ws.length := by
  have h2 : Srt (keysP (ws.map toPr)) := keysP_srt _
  have h3 : ((keysP (ws.map toPr)).map (·.key)).Nodup := List.pairwise_map.2 (h2.imp fun {a b} h e => by rw [e] at h; omega)
  have h4 : ((keysP (ws.map toPr)).map (·.key)).Perm (ws.map (·.1)) := by
    rw [List.perm_ext_iff_of_nodup h3 hn]
    intro k
    constructor
    · intro h
      obtain ⟨p, hp, rfl⟩ := List.mem_map.1 h
      obtain ⟨y, hy, rfl⟩ := List.mem_map.1 (keysP_mem _ hp)
      exact List.mem_map.2 ⟨y, hy, rfl⟩
    · intro h
      cases hg : aget k ws with
      | none => exact absurd h (tget_none.1 hg)
      | some v =>
        rw [← lastP_drafts hn, srt_lastP h2] at hg
        exact List.mem_map.2 ⟨_, getP_mem hg, rfl⟩
  have := h4.length_eq
  simpa using this
end
theorem fixV_ok {v : V} (h : v.right = true) : fixV v = v := by unfold fixV; rw [if_pos h]
theorem fixV_rightS (v : V) : (fixV v).right = true := by
  unfold fixV
  split
  · assumption
  · rfl
section
variable {s : Sp}
theorem SpOk.st13 (H : SpOk s) {tx : Int} {w : Sw} (hx : aget tx s.works = some w) : w.state = 1 ∨ w.state = 2 ∨ w.state = 3 := by
  rcases (H.each _ (tget_mem hx)).st with h | h | h
  · exact .inl h.1
  · exact .inr (.inl h.1)
  · exact .inr (.inr h.1)
theorem recs_rightS {tx : Int} (ht : 1 ≤ tx ∧ tx ≤ 1048576) (base ps : List Pr) (hp : ∀ p ∈ ps, p.val.right = true) : ∀ r ∈ recsP tx base ps, r.right = true ∧ r.tx = tx := fun r hr => by
  obtain ⟨p, hp', rfl⟩ := List.mem_map.1 hr
  exact ⟨rec_write tx p.key _ _ ht (fixV_rightS _) (hp p hp'), rfl⟩
theorem votes_none {tx : Int} (mask : Nat) (h : s.stateOf tx = 0) (H : SpOk s) : s.vote tx mask = ((0, [], 12), s) := by
  unfold Sp.stateOf at h
  unfold Sp.vote
  cases hx : aget tx s.works with
  | none => rfl
  | some w =>
    rw [hx] at h
    simp only [Option.map_some, Option.getD_some] at h
    have := H.st13 hx
    omega
theorem votes_doubt {tx : Int} (mask : Nat) (h : s.stateOf tx = 3) : s.vote tx mask = ((0, [], 20), s) := by
  unfold Sp.stateOf at h
  unfold Sp.vote
  cases hx : aget tx s.works with
  | none => rw [hx] at h; cases h
  | some w =>
    rw [hx] at h
    simp only [Option.map_some, Option.getD_some] at h
    dsimp only
    rw [if_pos h]
def yesRc (tx : Int) (mask : Nat) : Rc := ⟨2, tx, mask, ⟨0, 0, 0, 0⟩, V.zero, V.zero⟩
inductive VoteIs (s : Sp) (tx : Int) (mask : Nat) : Prop
  | yes (w : Sw) (hx : aget tx s.works = some w) (h1 : w.state = 1) (hv : s.vote tx mask = ((1, recsP tx s.base (s.draftOf tx) ++ [yesRc tx mask], 0), { s with works := aput tx ⟨3, w.err, w.ws⟩ s.works }))
  | read (h1 : s.stateOf tx = 1) (h0 : (s.draftOf tx).length = 0) (hv : s.vote tx mask = ((2, [], 0), s.forget tx))
  | no (hv : s.vote tx mask = ((0, [], 0), s.forget tx))
theorem vote_is (H : SpOk s) {tx : Int} {mask : Nat} (hm : mask ≠ 0) (h0 : s.stateOf tx ≠ 0) (h3 : s.stateOf tx ≠ 3) : VoteIs s tx mask := by
  cases hx : aget tx s.works with
  | none => exact absurd (state_gone hx) h0
  | some w =>
    have hst : s.stateOf tx = w.state := by unfold Sp.stateOf; rw [hx]; rfl
    have hdr : s.draftOf tx = keysP (w.ws.map toPr) := by unfold Sp.draftOf; rw [hx]; rfl
    rw [hst] at h0 h3
    have h13 := H.st13 hx
    have hv : s.vote tx mask = s.vote tx mask := rfl
    conv at hv => rhs; unfold Sp.vote
    rw [hx] at hv
    dsimp only at hv
    rw [if_neg h3, if_neg hm] at hv
    split at hv
    · exact .no hv
    rename_i hn
    have hn' := not_or.1 hn
    split at hv
    · rename_i hz
      refine .read (by rw [hst]; omega) ?_ hv
      rw [hdr, draft_len (H.each _ (tget_mem hx)).kn]; exact hz
    · exact .yes w hx (by omega) (by rw [hdr]; exact hv)
theorem state_put {tx : Int} {w w' : Sw} (b : List Pr) (t : Ta) (hx : aget tx s.works = some w) : (⟨b, t, aput tx w' s.works⟩ : Sp).stateOf tx = w'.state := by
  unfold Sp.stateOf
  rw [tget_put, if_pos rfl]; rfl
theorem draft_put {tx : Int} {w' : Sw} (b : List Pr) (t : Ta) (ws : List (Int × Sw)) : (⟨b, t, aput tx w' ws⟩ : Sp).draftOf tx = keysP (w'.ws.map toPr) := by
  unfold Sp.draftOf
  rw [tget_put, if_pos rfl]; rfl
theorem draft_locks (H : SpOk s) {tx : Int} {w : Sw} (hx : aget tx s.works = some w) : (s.draftOf tx).length ≤ (s.tab.keysT tx).length := by
  have hw := H.each _ (tget_mem hx)
  have hdr : s.draftOf tx = keysP (w.ws.map toPr) := by unfold Sp.draftOf; rw [hx]; rfl
  rw [hdr, draft_len hw.kn]
  have h1 := nodup_len (l := w.ws.map (·.1)) (l' := s.tab.keysT tx) hw.kn fun y hy => by
    obtain ⟨x, hxm, rfl⟩ := List.mem_map.1 hy
    rw [mem_keysT H.ta.kn, ← how_pos, hw.own x hxm]
    decide
  simpa using h1
theorem draft_right (H : SpOk s) (tx : Int) : ∀ p ∈ s.draftOf tx, p.val.right = true := fun p hp => by
  unfold Sp.draftOf at hp
  cases hx : aget tx s.works with
  | none => rw [hx] at hp; cases hp
  | some w =>
    rw [hx] at hp
    obtain ⟨y, hy, rfl⟩ := List.mem_map.1 (keysP_mem _ (show p ∈ keysP (w.ws.map toPr) from hp))
    exact (H.each _ (tget_mem hx)).ri y hy
theorem draft_srt (s : Sp) (tx : Int) : Srt (s.draftOf tx) := by
  unfold Sp.draftOf
  cases aget tx s.works with
  | none => exact List.Pairwise.nil
  | some w => exact keysP_srt _
theorem doom_is (H : SpOk s) (tx why : Int) (hw : why ≠ 0) : (s.doom tx why).1 = decide (s.stateOf tx = 1) ∧ (s.stateOf tx ≠ 1 → (s.doom tx why).2 = s) ∧
    (s.stateOf tx = 1 → ∃ w, aget tx s.works = some w ∧ (s.doom tx why).2 = { s with works := aput tx ⟨2, why, w.ws⟩ s.works, tab := (s.tab.quit tx).2 }) := by
  unfold Sp.doom Sp.stateOf
  cases hx : aget tx s.works with
  | none => simp
  | some w =>
    dsimp only [Option.map_some, Option.getD_some]
    by_cases h1 : w.state = 1
    · rw [if_neg (by rintro (h | h); exact h h1; exact hw h)]
      exact ⟨by simp [h1], fun h => absurd h1 h, fun _ => ⟨w, rfl, rfl⟩⟩
    · rw [if_pos (.inl h1)]
      exact ⟨by simp [h1], fun _ => rfl, fun h => absurd h h1⟩
theorem dooms_do {tx why : Int} {ws : List (K4 × V)} (hx : aget tx s.works = some ⟨2, why, ws⟩) (hw : why ≠ 0) {kind : Int} (hk : 1 ≤ kind ∧ kind ≤ 4) (k : K4) (m now : Int) : s.doOp kind tx k m now = ((why, V.zero), s) := by
  unfold Sp.doOp
  rw [hx]
  have : Sp.refused (some ⟨2, why, ws⟩) kind = why := by
    unfold Sp.refused
    rw [if_neg (by omega)]
    simp
  rw [this, if_pos hw]
theorem dooms_vote {tx why : Int} {ws : List (K4 × V)} (hx : aget tx s.works = some ⟨2, why, ws⟩) : s.vote tx 1 = ((0, [], 0), s.forget tx) := by
  unfold Sp.vote
  rw [hx]
  simp
theorem end_no {tx : Int} {w : Sw} (hx : aget tx s.works = some w) : s.end_ tx false = (0, s.forget tx) := by
  unfold Sp.end_
  rw [hx]
  simp
theorem forget_works (H : SpOk s) {tx : Int} (l : List Int) (h : ∀ x, x ∈ s.works.map (·.1) ↔ x ∈ tx :: l) (hn : (tx :: l).Nodup) : ∀ x, x ∈ (s.forget tx).works.map (·.1) ↔ x ∈ l := fun x => by
  rw [List.nodup_cons] at hn
  constructor
  · intro hx
    obtain ⟨y, hy, rfl⟩ := List.mem_map.1 hx
    obtain ⟨h1, h2⟩ := mem_adelK H.kn hy
    have := (h y.1).1 (List.mem_map.2 ⟨y, h1, rfl⟩)
    exact (List.mem_cons.1 this).resolve_left h2
  · intro hx
    exact mem_adelK' H.kn ((h x).2 (List.mem_cons_of_mem _ hx)) (fun e => hn.1 (by rw [← e]; exact hx))
theorem txs_nodup (H : SpOk s) : s.txs.Nodup := (srtI_perm _).nodup_iff.2 H.kn
theorem restores_law (H : SpOk s) {tx : Int} {w : Sw} (hx : aget tx s.works = some w) (hne : s.draftOf tx ≠ []) :
    Sp.restore ⟨s.base, ⟨5, [], []⟩, []⟩ tx (s.draftOf tx) = (0, ⟨s.base, Sp.askAll ⟨5, [], []⟩ tx (s.draftOf tx), [(tx, ⟨3, 0, (s.draftOf tx).map ofPr'⟩)]⟩) := by
  have hw := H.each _ (tget_mem hx)
  have hdr : s.draftOf tx = keysP (w.ws.map toPr) := by unfold Sp.draftOf; rw [hx]; rfl
  have hd := drafted_ok hne (draft_srt s tx) (draft_right H tx) (by rw [hdr, draft_len hw.kn]; exact hw.len)
  have hm : Sp.may ⟨s.base, ⟨5, [], []⟩, []⟩ tx = 0 := by
    unfold Sp.may
    rw [if_neg (by have := hw.num; omega)]
    simp [aget]
  unfold Sp.restore
  rw [if_neg (by rw [hm]; simp), hd]
  dsimp only
  rw [if_neg, if_neg]
  · rfl
  · unfold Sp.passed
    simp only [decide_eq_true_eq]
    have h1 : (distK (thereK (s.base ++ s.draftOf tx ++ Sp.drafts ⟨s.base, ⟨5, [], []⟩, []⟩))).length ≤ 64 := by
      rw [List.append_assoc]
      refine quota_sub (fun p hp => ?_) H.quota
      rw [List.mem_append] at hp ⊢
      rcases hp with hp | hp
      · exact .inl hp
      · right
        have : p ∈ s.draftOf tx := by simpa [Sp.drafts] using hp
        rw [hdr] at this
        exact mem_drafts.2 ⟨_, tget_mem hx, keysP_mem _ this⟩
    omega
  · rw [List.any_eq_true]
    rintro ⟨p, hp, h⟩
    have h' : p.key ∈ Ta.heldT ⟨5, [], []⟩ := by simpa using h
    rw [mem_heldT (by simp)] at h'
    exact h' (by simp [Ta.row, aget])
theorem new_state (b : List Pr) (t : Ta) (tx : Int) (w : Sw) : (⟨b, t, [(tx, w)]⟩ : Sp).stateOf tx = w.state ∧ (⟨b, t, [(tx, w)]⟩ : Sp).draftOf tx = keysP (w.ws.map toPr) := by
  unfold Sp.stateOf Sp.draftOf
  simp [aget]
theorem end_yes {tx : Int} {w : Sw} (hx : aget tx s.works = some w) (h3 : w.state = 3) : (s.end_ tx true).1 = 0 ∧ (s.end_ tx true).2.base = sortP (s.base ++ s.draftOf tx) := by
  unfold Sp.end_ Sp.draftOf
  rw [hx]
  simp [h3, Sp.forget]
theorem draft_again {s : Sp} (tx : Int) : keysP (((s.draftOf tx).map ofPr').map toPr) = s.draftOf tx := by
  rw [toPr_of, keysP_self (draft_srt s tx)]
theorem recs_back (tx : Int) (base ps : List Pr) : (recsP tx base ps).map (fun r => (⟨r.key, r.new⟩ : Pr)) = ps := by
  unfold recsP
  rw [List.map_map]
  exact List.map_id ps
end
def kA : K4 := ⟨1, 0, 0, 0⟩
def aS0 : Sp := ⟨[], ⟨5, [], []⟩, []⟩
def aS1 : Sp := ⟨[], ⟨5, [], []⟩, [(1, ⟨1, 0, []⟩)]⟩
def aS2 : Sp := ⟨[], ⟨5, [], []⟩, [(1, ⟨1, 0, []⟩), (2, ⟨1, 0, []⟩)]⟩
def aS3 : Sp := ⟨[], ⟨5, [(kA, ⟨[⟨1, true, 0, false⟩], []⟩)], []⟩, [(1, ⟨1, 0, [(kA, ⟨true, 9⟩)]⟩), (2, ⟨1, 0, []⟩)]⟩
def aS4 : Sp := ⟨[], ⟨5, [(kA, ⟨[⟨1, true, 0, false⟩], [⟨2, false, 0, false⟩]⟩)], [(2, kA)]⟩, [(1, ⟨1, 0, [(kA, ⟨true, 9⟩)]⟩), (2, ⟨1, 0, []⟩)]⟩
def aS6 : Sp := ⟨[], ⟨5, [(kA, ⟨[⟨1, true, 0, false⟩], [⟨2, false, 0, false⟩]⟩)], [(2, kA)]⟩, [(1, ⟨3, 0, [(kA, ⟨true, 9⟩)]⟩), (2, ⟨1, 0, []⟩)]⟩
def aS7 : Sp := ⟨[⟨kA, ⟨true, 9⟩⟩], ⟨5, [(kA, ⟨[⟨2, false, 0, false⟩], []⟩)], []⟩, [(2, ⟨1, 0, []⟩)]⟩
theorem al0 : sortP [] = [] := rfl
theorem al1 : aS0.begin_ 1 = (0, aS1) := rfl
theorem al2 : aS1.begin_ 2 = (0, aS2) := rfl
theorem al3 : aS2.doOp 2 1 kA 9 0 = ((0, V.zero), aS3) := rfl
theorem al4 : aS3.doOp 1 2 kA 0 0 = ((17, V.zero), aS4) := rfl
theorem al5 : aS4.doOp 1 1 kA 0 0 = ((0, ⟨true, 9⟩), aS4) := rfl
def aR : List Rc := [⟨1, 1, 0, kA, V.zero, ⟨true, 9⟩⟩, ⟨2, 1, 3, ⟨0, 0, 0, 0⟩, V.zero, V.zero⟩]
theorem al6 : aS4.vote 1 3 = ((1, aR, 0), aS6) := rfl
theorem sortK_oneS (k : K4) : sortK [k] = [k] := by unfold sortK; exact List.mergeSort_singleton k
theorem al7f : aS6.tab.freeT 1 = aS7.tab := by
  have e : aS6.tab.ownT 1 = [kA] := by
    unfold Ta.ownT
    have h1 : aS6.tab.keysT 1 = [kA] := by unfold Ta.keysT Ta.keysS; exact sortK_oneS kA
    rw [h1]
    show compK (sortK [kA]) = [kA]
    rw [sortK_oneS]
    rfl
  unfold Ta.freeT
  rw [e]
  rfl
theorem al7 : aS6.end_ 1 true = (0, aS7) := by
  have e : aS6.end_ 1 true = (0, Sp.forget { aS6 with base := sortP (aS6.base ++ keysP (([(kA, ⟨true, 9⟩)] : List (K4 × V)).map toPr)) } 1) := rfl
  rw [e]
  unfold Sp.forget
  rw [show ({ aS6 with base := sortP (aS6.base ++ keysP (([(kA, ⟨true, 9⟩)] : List (K4 × V)).map toPr)) } : Sp).tab = aS6.tab from rfl, al7f]
  rfl
theorem al8 : aS7.doOp 1 2 kA 0 1 = ((0, ⟨true, 9⟩), aS7) := rfl
theorem al9 : aS7.txs = [2] := by unfold Sp.txs srtI; exact List.mergeSort_singleton 2
theorem al10 : aS7.tab.keysT 2 = [kA] := by unfold Ta.keysT Ta.keysS; exact sortK_oneS kA
theorem al11 : aS7.stateOf 1 = 0 ∧ aS7.stateOf 2 = 1 ∧ aS7.draftOf 2 = [] := ⟨rfl, rfl, rfl⟩
theorem al_le : aS0.tab.le 5 ∧ aS1.tab.le 5 ∧ aS2.tab.le 5 ∧ aS3.tab.le 5 ∧ aS4.tab.le 5 ∧ aS6.tab.le 5 ∧ aS7.tab.le 5 := by
  refine ⟨?_, ?_, ?_, ?_, ?_, ?_, ?_⟩ <;> intro p hp <;> simp [aS0, aS1, aS2, aS3, aS4, aS6, aS7] at hp <;> subst hp <;> decide
theorem al_ws : (∀ x ∈ aS2.works, x.2.ws.length ≤ 1000) ∧ (∀ x ∈ aS3.works, x.2.ws.length ≤ 1000) ∧ (∀ x ∈ aS4.works, x.2.ws.length ≤ 1000) ∧ (∀ x ∈ aS6.works, x.2.ws.length ≤ 1000) ∧ (∀ x ∈ aS7.works, x.2.ws.length ≤ 1000) := by
  refine ⟨?_, ?_, ?_, ?_, ?_⟩ <;> intro x hx <;> simp [aS2, aS3, aS4, aS6, aS7] at hx
  all_goals first | (rcases hx with rfl | rfl <;> simp) | (subst hx; simp)
end Go.Proofs.YtpfgpbafechncaaGreat
namespace Go.Proofs.YtpfgpbafechncaaGreat
open Go.RowKit Go.Shelf Go.Lib Go.Sort Go.Proofs Go.Maps
def cntI (l : List (Int × Int)) : List (Int × Value) := l.map fun p => (p.1, Value.int .i64 p.2)
section
variable {α : Type} [DecidableEq α] {P : Program} {b : Nat} {ek : α → Value}
theorem wpList_lookup_ints {l : List (α × Int)} {w : World} {ops : Array Oper} {rest : List Oper} {o : Oper} {a : Act} {Q : Exit → Act → World → Prop}
    (hg : o.guard = none) (m x : Operand) (t : TypeId) (hop : o.op = Op.lookup t m x false)
    (kt et : TypeId) (K : KeyOK P kt ek) (ht : P.underlying t = some (.map kt et)) (hz : ∀ w, (zeroValue et).run P w = .ok (.int .i64 0) w)
    (hm : a.eval m = .map (some b)) (key : α) (hx : a.eval x = ek key) (hM : MapIs w b ek (l.map fun p => (p.1, Value.int .i64 p.2))) (c : Int) (hc : (aget key l).getD 0 = c)
    (hK : wpList P ops Q rest (a.put o.dst (.int .i64 c)) w) :
    wpList P ops Q (o :: rest) a w := by
  refine wpList_lookup_is hg m x t false hop kt et K ht _ hz hm key hx hM _ rfl ?_
  rw [aget_map (Value.int .i64)]
  have : (if false = true then Value.tuple #[((aget key l).map (Value.int .i64)).getD (.int .i64 0), .bool ((aget key l).map (Value.int .i64)).isSome] else ((aget key l).map (Value.int .i64)).getD (.int .i64 0)) = .int .i64 c := by
    rw [← hc]
    cases aget key l <;> rfl
  rw [this]
  exact hK
end
def rowAll (l : List (K4 × RR)) (tx : Int) : Prop := ∃ p ∈ l, has (p.2.r.h ++ p.2.r.q) tx = true
theorem rowAll_snoc (l : List (K4 × RR)) (k : K4) (rr : RR) (tx : Int) : rowAll (l ++ [(k, rr)]) tx ↔ rowAll l tx ∨ has (rr.r.h ++ rr.r.q) tx = true := by
  unfold rowAll
  constructor
  · rintro ⟨p, hp, h⟩
    rcases List.mem_append.1 hp with hp | hp
    · exact .inl ⟨p, hp, h⟩
    · rw [List.mem_singleton] at hp; subst hp; exact .inr h
  · rintro (⟨p, hp, h⟩ | h)
    · exact ⟨p, List.mem_append_left _ hp, h⟩
    · exact ⟨_, List.mem_append_right _ (List.mem_singleton.2 rfl), h⟩
theorem own_wishes {w : World} {base g cap n : Nat} {e : TypeId} {l : List Wi} (h : w.ownsRow base e 4 (.slice (some ⟨g, 0, none⟩) n cap) n (l.flatMap Wi.f)) {i : Nat} (hi : i < l.length) :
    w.cell? ⟨g, i * 4, none⟩ = some (.int .i64 l[i].tx) ∧ w.cell? ⟨g, i * 4 + 1, none⟩ = some (.bool l[i].ex) ∧ w.cell? ⟨g, i * 4 + 2, none⟩ = some (.int .i64 l[i].since) ∧ w.cell? ⟨g, i * 4 + 3, none⟩ = some (.bool l[i].ri) := by
  have key : ∀ j, j < 4 → ∀ u, (Wi.f l[i])[j]? = some u → w.cell? ⟨g, i * 4 + j, none⟩ = some u := fun j hj u hu => by
    have hg := flatMap_get Wi.f (c := 4) (fun _ => rfl) l i j l[i] (by simp [hi]) hj
    rw [hu] at hg
    have := h.cells (g := g) rfl (i * 4 + j) u hg
    rw [Addr.add_lit, Nat.zero_add] at this
    exact this
  exact ⟨key 0 (by omega) _ rfl, key 1 (by omega) _ rfl, key 2 (by omega) _ rfl, key 3 (by omega) _ rfl⟩
theorem has_take_succ (l : List Wi) (j : Nat) (hj : j < l.length) (tx : Int) : has (l.take (j + 1)) tx = true ↔ has (l.take j) tx = true ∨ tx = l[j].tx := by
  rw [List.take_succ_eq_append_getElem hj, has_app, Bool.or_eq_true]
  refine or_congr Iff.rfl ?_
  simp [has]
  exact ⟨fun h => h.symm, fun h => h.symm⟩
--@@ end
end Go.Proofs.YtpfgpbafechncaaGreat
namespace Go.Proofs.YtpfgpbafechncaaGreat
open Go.RowKit Go.Shelf Go.Lib Go.Sort Go.Proofs
structure KD (D : Nat → Prop) (w w' : World) : Prop where
  os : w'.os = w.os
  tape : w'.tape = w.tape
  output : w'.output = w.output
  size : w.heap.size ≤ w'.heap.size
  block : ∀ k, D k → w'.heap[k]? = w.heap[k]?
theorem KD.of {D : Nat → Prop} {S : List Nat} {w w' : World} (h : Kept S w w') (hD : ∀ k, D k → k < w.heap.size ∧ k ∉ S) : KD D w w' :=
  ⟨h.os, h.tape, h.output, h.size, fun k hk => h.block k (hD k hk).1 (hD k hk).2⟩
theorem KD.kept {w w' : World} (h : KD (fun b => b < w.heap.size) w w') : Kept [] w w' := ⟨h.os, h.tape, h.output, h.size, fun k hk _ => h.block k hk⟩
theorem Kept.kd {w w' : World} (h : Kept [] w w') : KD (fun b => b < w.heap.size) w w' := KD.of h fun k hk => ⟨hk, by simp⟩
theorem KD.trans {D E : Nat → Prop} {a b c : World} (h : KD D a b) (k : KD E b c) (hE : ∀ x, D x → E x) : KD D a c :=
  ⟨k.os.trans h.os, k.tape.trans h.tape, k.output.trans h.output, Nat.le_trans h.size k.size, fun i hi => (k.block i (hE i hi)).trans (h.block i hi)⟩
theorem KD.then {S : List Nat} {D : Nat → Prop} {a b c : World} (h : Kept S a b) (k : KD D b c) (hD : ∀ x, x < a.heap.size → x ∉ S → D x) : Kept S a c :=
  ⟨k.os.trans h.os, k.tape.trans h.tape, k.output.trans h.output, Nat.le_trans h.size k.size, fun i hi hs => (k.block i (hD i hi hs)).trans (h.block i hi hs)⟩
theorem KD.own {D : Nat → Prop} {w w' : World} {base n size : Nat} {e : TypeId} {v : Value} {xs : List Value} (h : KD D w w') (ho : w.ownsRow base e size v n xs) (hD : ∀ x, v.ownBlock = some x → D x) : w'.ownsRow base e size v n xs := by
  refine ⟨ho.1, ?_⟩
  rcases ho.2 with h1 | ⟨g, cap, cur, rfl, h2, h3, h4⟩
  · exact .inl h1
  · exact .inr ⟨g, cap, cur, rfl, h2, (h.block g (hD g rfl)).trans h3, h4⟩
theorem KD.cell {D : Nat → Prop} {w w' : World} (h : KD D w w') {b o : Nat} {v : Value} (hc : w.cell? ⟨b, o, none⟩ = some v) (hb : D b) : w'.cell? ⟨b, o, none⟩ = some v :=
  (World.cell?_of_block (w := w) (a := ⟨b, o, none⟩) (h.block b hb)).trans hc
--@@ lock.Table
structure TabAt (w : World) (D : Nat → Prop) (A : Nat) (t : Ta) : Prop where
  ex : ∃ R M rs ws, TabIs w A R M t.lim rs ws ∧ tabT t.lim rs ws = t ∧ ∀ b ∈ tabBs A R M rs, ¬ D b
  lt : ∀ b, D b → b < w.heap.size
theorem TabAt.kept {w w' : World} {D : Nat → Prop} {A : Nat} {t : Ta} {S : List Nat} (h : TabAt w D A t) (hk : Kept S w w') (hS : ∀ x ∈ S, D x) : TabAt w' D A t := by
  obtain ⟨R, M, rs, ws, h1, h2, h3⟩ := h.ex
  exact ⟨⟨R, M, rs, ws, h1.kept hk (fun b hb hx => h3 b hb (hS b hx)), h2, h3⟩, fun b hb => Nat.lt_of_lt_of_le (h.lt b hb) hk.size⟩
theorem TabAt.widen {w w' : World} {D : Nat → Prop} {A : Nat} {t : Ta} {S : List Nat} (h : TabAt w D A t) (hk : Kept S w w') (hS : ∀ x ∈ S, D x) : TabAt w' (fun b => D b ∨ (w.heap.size ≤ b ∧ b < w'.heap.size)) A t := by
  obtain ⟨R, M, rs, ws, h1, h2, h3⟩ := h.ex
  refine ⟨⟨R, M, rs, ws, h1.kept hk (fun b hb hx => h3 b hb (hS b hx)), h2, fun b hb hD => ?_⟩, fun b hb => ?_⟩
  · rcases hD with hD | hD
    · exact h3 b hb hD
    · have := h1.lt b hb; omega
  · rcases hb with hb | hb
    · exact Nat.lt_of_lt_of_le (h.lt b hb) hk.size
    · exact hb.2
theorem TabAt.less {w : World} {D E : Nat → Prop} {A : Nat} {t : Ta} (h : TabAt w D A t) (hE : ∀ b, E b → D b) : TabAt w E A t := by
  obtain ⟨R, M, rs, ws, h1, h2, h3⟩ := h.ex
  exact ⟨⟨R, M, rs, ws, h1, h2, fun b hb hD => h3 b hb (hE b hD)⟩, fun b hb => h.lt b (hE b hb)⟩
theorem tab_turned {w w' : World} {D : Nat → Prop} {A R M : Nat} {lim : Int} {rs rs' : List (K4 × RR)} {ws' : List (Int × K4)} {t' : Ta} (hD : ∀ b ∈ tabBs A R M rs, ¬ D b) (hlt : ∀ b, D b → b < w.heap.size)
    (h1 : TabIs w' A R M lim rs' ws') (h2 : tabT lim rs' ws' = t') (h3 : Kept (tabBs A R M rs) w w') (h4 : ∀ b ∈ tabBs A R M rs', b ∈ tabBs A R M rs ∨ w.heap.size ≤ b) : TabAt w' D A t' ∧ KD D w w' := by
  have hl : t'.lim = lim := by rw [← h2]; rfl
  refine ⟨⟨⟨R, M, rs', ws', by rw [hl]; exact h1, by rw [hl]; exact h2, fun b hb hx => ?_⟩, fun b hb => Nat.lt_of_lt_of_le (hlt b hb) h3.size⟩, KD.of h3 fun k hk => ⟨hlt k hk, fun hx => hD k hx hk⟩⟩
  rcases h4 b hb with h | h
  · exact hD b h hx
  · have := hlt b hx; omega
theorem at_le {t : Ta} {n : Nat} {lim : Int} {rs : List (K4 × RR)} {ws : List (Int × K4)} (h2 : tabT lim rs ws = t) (hl : t.le n) : ∀ p ∈ rs, p.2.r.h.length + p.2.r.q.length ≤ n := le_tab.1 (h2 ▸ hl)
theorem at_len {t : Ta} {n : Nat} {lim : Int} {rs : List (K4 × RR)} {ws : List (Int × K4)} (h2 : tabT lim rs ws = t) (hl : t.rows.length ≤ n) : rs.length ≤ n := by
  rw [← h2] at hl; simpa [tabT] using hl
--@@ lock.New
set_option maxHeartbeats 1000000 in
theorem new5_any (w : World) : Calls Tryz.prog 32 #[.int .i64 5] w fun e w' => ∃ A, e = .returned (.tuple #[.pointer (some ⟨A, 0, none⟩), .int .i64 0]) ∧ TabAt w' (fun b => b < w.heap.size) A ⟨5, [], []⟩ ∧ Kept [] w w' := by
  have hmm := @run_makeMap Tryz.prog
  go_enter Tryz.func32, Tryz.ntmps32
  go_wp2
  go_ret2
  refine ⟨_, rfl, ⟨⟨w.heap.size, w.heap.size + 1, [], [], ⟨?_, ?_, ?_, by simp, by omega, by simp, by simp, by simp, by simp⟩, rfl, ?_⟩, fun b hb => ?_⟩, (((Kept.refl [] w).alloc _).alloc _).alloc _⟩
  · have := heap_alloc_new ((w.alloc (.map #[] 0)).alloc (.map #[] 0)) (.cells #[.int .i64 5, .map (some w.heap.size), .map (some (w.heap.size + 1))] 115)
    simpa using this
  · exact ((MapIs.made w K4.v).alloc _).alloc _
  · have := (MapIs.made (w.alloc (.map #[] 0)) (Value.int .i64)).alloc (.cells #[.int .i64 5, .map (some w.heap.size), .map (some (w.heap.size + 1))] 115)
    simpa using this
  · intro b hb
    simp [tabBs] at hb
    omega
  · simp; omega
--@@ (*lock.Table).Ask
theorem ask_at {w : World} {D : Nat → Prop} {A : Nat} {t : Ta} {n : Nat} (h : TabAt w D A t) (hl : t.le n) (hn : n ≤ 100000) (tx : Int) (k : K4) (ex : Bool) (now : Int) :
    Calls Tryz.prog 37 #[.pointer (some ⟨A, 0, none⟩), .int .i64 tx, k.v, .bool ex, .int .i64 now] w fun e w' => e = .returned (.int .i64 (t.ask tx k ex now).1) ∧ TabAt w' D A (t.ask tx k ex now).2 ∧ KD D w w' := by
  obtain ⟨R, M, rs, ws, h1, h2, h3⟩ := h.ex
  refine (ask_any A R M t.lim rs ws tx k ex now w h1 (fun p hp => by have := at_le h2 hl p hp; omega)).mono ?_
  rintro e w' ⟨rs', ws', rfl, g1, g2, g3, g4⟩
  rw [h2] at g2 ⊢
  exact ⟨rfl, tab_turned h3 h.lt g1 g2 g3 g4⟩
--@@ (*lock.Table).Free
theorem free_at {w : World} {D : Nat → Prop} {A : Nat} {t : Ta} {n : Nat} (h : TabAt w D A t) (hl : t.le n) (hn : n ≤ 100000) (hm : t.rows.length ≤ 50000) (tx : Int) :
    Calls Tryz.prog 84 #[.pointer (some ⟨A, 0, none⟩), .int .i64 tx] w fun e w' => e = .returned (.tuple #[]) ∧ TabAt w' D A (t.freeT tx) ∧ KD D w w' := by
  obtain ⟨R, M, rs, ws, h1, h2, h3⟩ := h.ex
  refine (free_any A R M t.lim rs ws tx w h1 (at_len h2 hm) (by rw [h2]; exact hl.mono hn)).mono ?_
  rintro e w' ⟨rfl, rs', ws', g1, g2, g3, g4⟩
  rw [h2] at g2
  exact ⟨rfl, tab_turned h3 h.lt g1 g2 g3 g4⟩
--@@ (*lock.Table).Quit
theorem quit_at {w : World} {D : Nat → Prop} {A : Nat} {t : Ta} {n : Nat} (h : TabAt w D A t) (hl : t.le n) (hn : n ≤ 100000) (tx : Int) :
    Calls Tryz.prog 59 #[.pointer (some ⟨A, 0, none⟩), .int .i64 tx] w fun e w' => e = .returned (.bool (t.quit tx).1) ∧ TabAt w' D A (t.quit tx).2 ∧ KD D w w' := by
  obtain ⟨R, M, rs, ws, h1, h2, h3⟩ := h.ex
  refine (quit_any A R M t.lim rs ws tx w h1 (by rw [h2]; exact hl.mono hn)).mono ?_
  rintro e w' ⟨rs', ws', rfl, g1, g2, g3, g4⟩
  rw [h2] at g2 ⊢
  exact ⟨rfl, tab_turned h3 h.lt g1 g2 g3 g4⟩
--@@ (*lock.Table).Holds
theorem holds_at {w : World} {D : Nat → Prop} {A : Nat} {t : Ta} {n : Nat} (h : TabAt w D A t) (hl : t.le n) (hn : n ≤ 100000) (tx : Int) (k : K4) :
    Calls Tryz.prog 68 #[.pointer (some ⟨A, 0, none⟩), .int .i64 tx, k.v] w fun e w' => e = .returned (.int .i64 (how (t.row k).h tx)) ∧ Kept [] w w' := by
  obtain ⟨R, M, rs, ws, h1, h2, h3⟩ := h.ex
  have := holds_any A R M t.lim rs ws tx k w h1 (fun p hp => by have := at_le h2 hl p hp; omega)
  rw [← howO_tab t.lim rs ws tx k, h2, holds_how] at this
  exact this
--@@ (*lock.Table).Waits
theorem waits_at {w : World} {D : Nat → Prop} {A : Nat} {t : Ta} (h : TabAt w D A t) (tx : Int) :
    Calls Tryz.prog 47 #[.pointer (some ⟨A, 0, none⟩), .int .i64 tx] w fun e w' => e = .returned (.tuple #[(keyO (aget tx t.waits)).v, .bool (aget tx t.waits).isSome]) ∧ Kept [] w w' := by
  obtain ⟨R, M, rs, ws, h1, h2, h3⟩ := h.ex
  have := waits_any A R M t.lim rs ws tx w h1
  have e : ws = t.waits := by rw [← h2]; rfl
  rw [e] at this
  exact this
--@@ (*lock.Table).Keys
theorem keys_at {w : World} {D : Nat → Prop} {A : Nat} {t : Ta} {n : Nat} (h : TabAt w D A t) (hl : t.le n) (hn : n ≤ 100000) (hm : t.rows.length ≤ 50000) (tx : Int) :
    Calls Tryz.prog 42 #[.pointer (some ⟨A, 0, none⟩), .int .i64 tx] w fun e w' => ∃ v, e = .returned v ∧ w'.ownsRow w.heap.size 33 4 v (t.keysT tx).length ((t.keysT tx).flatMap K4.f) ∧ Kept [] w w' := by
  obtain ⟨R, M, rs, ws, h1, h2, h3⟩ := h.ex
  have := keysT_any A R M t.lim rs ws tx w h1 (by have := at_len h2 hm; omega) (by rw [h2]; exact hl.mono hn)
  rw [h2] at this
  exact this
--@@ (*lock.Table).Held
theorem held_at {w : World} {D : Nat → Prop} {A : Nat} {t : Ta} (h : TabAt w D A t) (hm : t.rows.length ≤ 50000) :
    Calls Tryz.prog 53 #[.pointer (some ⟨A, 0, none⟩)] w fun e w' => ∃ v, e = .returned v ∧ w'.ownsRow w.heap.size 33 4 v t.heldT.length (t.heldT.flatMap K4.f) ∧ Kept [] w w' := by
  obtain ⟨R, M, rs, ws, h1, h2, h3⟩ := h.ex
  have := heldT_any A R M t.lim rs ws w h1 (by have := at_len h2 hm; omega)
  rw [h2] at this
  exact this
--@@ (*lock.Table).Late
theorem late_at {w : World} {D : Nat → Prop} {A : Nat} {t : Ta} {n : Nat} (h : TabAt w D A t) (hl : t.le n) (hn : n ≤ 100000) (hm : t.rows.length ≤ 50000) (now : Int) :
    Calls Tryz.prog 77 #[.pointer (some ⟨A, 0, none⟩), .int .i64 now] w fun e w' => ∃ v, e = .returned v ∧ w'.ownsRow w.heap.size 3 1 v (t.lateT now).length ((t.lateT now).map (Value.int .i64)) ∧ Kept [] w w' := by
  obtain ⟨R, M, rs, ws, h1, h2, h3⟩ := h.ex
  have := late_any A R M t.lim rs ws now w h1 (by have := at_len h2 hm; omega) (by rw [h2]; exact hl.mono hn)
  rw [h2] at this
  exact this
--@@ end
end Go.Proofs.YtpfgpbafechncaaGreat
