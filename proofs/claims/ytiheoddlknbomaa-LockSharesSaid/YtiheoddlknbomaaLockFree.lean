/- A transaction is free. -/
import Derived.Test.YtiheoddlknbomaaLockKeys2
import Derived.Deep.DeepCutAuto
import Derived.Deep.CutBlock
set_option linter.all false
namespace Go.Proofs.Ytiheoddlknbomaa
open Go.RowKit Go.Shelf Go.Lib Go.Sort Go.Proofs
set_option linter.unusedVariables false
set_option linter.unusedSimpArgs false

theorem tdel_none {α β : Type} [DecidableEq α] {k : α} : ∀ {l : List (α × β)}, aget k l = none → adel k l = l
  | [], _ => rfl
  | p :: l, h => by
    simp only [aget] at h
    by_cases hp : p.1 = k
    · rw [if_pos hp] at h; cases h
    · rw [if_neg hp] at h
      simp only [adel, if_neg hp, tdel_none h]
theorem foldl_take_succ {α β : Type} (f : β → α → β) (l : List α) (i : Nat) (hi : i < l.length) (b : β) : (l.take (i + 1)).foldl f b = f ((l.take i).foldl f b) l[i] := by
  rw [List.take_succ_eq_append_getElem hi, List.foldl_append]
  rfl
theorem own_keys {w : World} {base g cap n : Nat} {e : TypeId} {l : List K4} (h : w.ownsRow base e 4 (.slice (some ⟨g, 0, none⟩) n cap) n (l.flatMap K4.f)) {i : Nat} (hi : i < l.length) :
    w.cell? ⟨g, i * 4, none⟩ = some (.int .u8 (l[i].a.toNat : Int)) ∧ w.cell? ⟨g, i * 4 + 1, none⟩ = some (.int .u8 (l[i].b.toNat : Int)) ∧ w.cell? ⟨g, i * 4 + 2, none⟩ = some (.int .u8 (l[i].c.toNat : Int)) ∧ w.cell? ⟨g, i * 4 + 3, none⟩ = some (.int .u8 (l[i].d.toNat : Int)) := by
  have key : ∀ j, j < 4 → ∀ u, (K4.f l[i])[j]? = some u → w.cell? ⟨g, i * 4 + j, none⟩ = some u := fun j hj u hu => by
    have hg := rowK_at (enc := K4.f) (k := 4) k4_len l (i * 4 + j) (by omega)
    rw [show (i * 4 + j) / 4 = i by omega, show (i * 4 + j) % 4 = j by omega] at hg
    have := h.cells (g := g) rfl (i * 4 + j) u (by rw [hg, getElem!_pos l i hi]; exact hu)
    rw [Addr.add_lit, Nat.zero_add] at this
    exact this
  exact ⟨key 0 (by omega) _ rfl, key 1 (by omega) _ rfl, key 2 (by omega) _ rfl, key 3 (by omega) _ rfl⟩
--@@ (*lock.Table).Free
theorem dropboth_end {w3 w4 w6 : World} {P : Nat} {hv qv v1 v2 : Value} {r : Ro} {tx : Int} (HR : RowIs w3 P hv qv r) (h1 : Dropped w3 w4 hv v1 r.h tx) (h2 : Dropped (w4.setCell ⟨P, 0, none⟩ v1) w6 qv v2 r.q tx) :
    RowIs (w6.setCell ⟨P, 1, none⟩ v2) P v1 v2 ⟨dropR r.h tx, dropR r.q tx⟩ ∧ rowBs P v1 v2 = rowBs P hv qv ∧ Kept (rowBs P hv qv) w3 (w6.setCell ⟨P, 1, none⟩ v2) := by
  obtain ⟨r1, b1, k1, _⟩ := droph_end HR h1
  obtain ⟨r2, b2, k2, _⟩ := dropq_end r1 h2
  refine ⟨r2, b2.trans b1, ?_⟩
  refine (k1.mono (T := rowBs P hv qv) (fun x hx => ?_)).trans k2 (fun x hx => .inl ?_)
  · simp only [rowBs, List.mem_cons, List.mem_append] at hx ⊢
    exact hx.elim (fun h => .inl h) (fun h => .inr (.inl h))
  · simp only [rowBs, List.mem_cons, List.mem_append] at hx ⊢
    exact hx.elim (fun h => .inl h) (fun h => .inr (.inr h))
set_option maxHeartbeats 8000000 in
set_option maxRecDepth 100000 in
theorem free_any (A R M : Nat) (lim : Int) (rs : List (K4 × RR)) (ws : List (Int × K4)) (tx : Int) (w : World) (H : TabIs w A R M lim rs ws) (hl : rs.length ≤ 50000) (hle : (tabT lim rs ws).le 100000) :
    Calls Try.prog 14 #[.pointer (some ⟨A, 0, none⟩), .int .i64 tx] w fun e w' => e = .returned (.tuple #[]) ∧ ∃ rs' ws', TabIs w' A R M lim rs' ws' ∧ tabT lim rs' ws' = (tabT lim rs ws).freeT tx ∧ Kept (tabBs A R M rs) w w' ∧ (∀ b ∈ tabBs A R M rs', b ∈ tabBs A R M rs ∨ w.heap.size ≤ b) := by
  have hA := H.lt A (by simp [tabBs])
  have HKEYS := hid (keysT_any A R M lim rs ws tx w H (by omega) hle)
  have HT0 := hid H
  have HLT := hid H.lt
  have HF := hid (show (Try.prog.info? 32).map (fun i => (i.zero, i.size, i.bytes)) = some (some (.agg #[.int .u8 0, .int .u8 0, .int .u8 0, .int .u8 0]), 4, 4) by kernel_rfl)
  obtain ⟨kl, hkl⟩ : ∃ kl, kl = (tabT lim rs ws).keysT tx := ⟨_, rfl⟩
  have hkll : kl.length ≤ rs.length := by
    rw [hkl]
    unfold Ta.keysT
    rw [keyed_tab, (sortK_perm _).length_eq]
    exact keyed_len _ _
  rw [← hkl] at HKEYS
  have hfree : (tabT lim rs ws).freeT tx = (compK (sortK (kl ++ (aget tx ws).toList))).foldl Ta.on ((compK (sortK (kl ++ (aget tx ws).toList))).foldl (Ta.drop1 tx) (tabT lim rs (adel tx ws))) := by
    rw [hkl]; rfl
  rw [hfree]
  have HLK := hid (fun W (h : TabIs W A R M lim rs ws) => h.lookw tx)
  obtain ⟨kk, hkk⟩ : ∃ kk, kk = keyO (aget tx ws) := ⟨_, rfl⟩
  obtain ⟨ok, hok⟩ : ∃ ok, ok = (aget tx ws).isSome := ⟨_, rfl⟩
  simp only [← hkk, ← hok] at HLK
  have HKK := hid hkk
  have HOK := hid hok
  have HLE := hid hle
  obtain ⟨a0, a1, a2⟩ := H.cells
  clear hkl hfree hkk hok H hle
  obtain ⟨k1, k2, k3, k4⟩ := kk
  simp only [K4.v] at HLK
  go_enter Try.func14, Try.ntmps14
  go_upto_if 24 with (first
    | (go_at_call 16; refine HKEYS.out.mono ?_; rintro e w1 ⟨v, rfl, ho, hk1⟩; obtain ⟨va, vc, hv⟩ := ownsRow_slice ho; subst hv; have HO1 := hid ho; have HK1 := hid hk1; have HT1 := hid (HT0.out.kept hk1 (fun _ _ => by simp)); clear a0 a1 a2; obtain ⟨a0, a1, a2⟩ := HT1.out.cells; have hL := HLK.out w1 HT1.out; clear ho hk1))
  go_cut [4] (fun s4 wx => ∃ l n, Aside (wx.ownsRow w.heap.size 32 4 s4 n (l.flatMap K4.f)) ∧ n = l.length ∧ Aside (l = kl ++ (aget tx ws).toList) ∧ Aside (TabIs wx A R M lim rs (adel tx ws)) ∧ Aside (Kept (tabBs A R M rs) w wx))
  case first =>
    have hkl2 : kl.length ≤ 50000 := by omega
    have HOA := hid (own_below HO1.out ((Kept.refl [] w1).alloc (.cells #[.int .u8 (k1.toNat : Int), .int .u8 (k2.toNat : Int), .int .u8 (k3.toNat : Int), .int .u8 (k4.toNat : Int)] 32)) (by simp))
    have HTA := hid (HT1.out.kept ((Kept.refl [] w1).alloc (.cells #[.int .u8 (k1.toNat : Int), .int .u8 (k2.toNat : Int), .int .u8 (k3.toNat : Int), .int .u8 (k4.toNat : Int)] 32)) (fun _ _ => by simp))
    have HKA := hid ((HK1.out.mono (T := tabBs A R M rs) (by simp)).alloc (.cells #[.int .u8 (k1.toNat : Int), .int .u8 (k2.toNat : Int), .int .u8 (k3.toNat : Int), .int .u8 (k4.toNat : Int)] 32))
    have hsz1 := HK1.out.size
    cases ok with
    | false =>
      have HN := hid (show aget tx ws = none by cases h : aget tx ws with | none => rfl | some x => have := HOK.out; rw [h] at this; cases this)
      go_wp2_with fail
      go_meet
      refine ⟨kl, kl.length, HOA.out, rfl, ?_, ?_, HKA.out⟩
      · show kl = _
        rw [HN.out]; simp
      · show TabIs _ _ _ _ _ _ _
        rw [tdel_none HN.out]; exact HTA.out
    | true =>
      have HN := hid (show aget tx ws = some ⟨k1, k2, k3, k4⟩ by cases h : aget tx ws with | none => have := HOK.out; rw [h] at this; cases this | some x => have := HKK.out; rw [h] at this; simpa [keyO] using this.symm)
      go_wp2_with (at_builtin; refine Here.mk ?_)
      refine Here.of ?_
      have HA2 := hid ((Kept.refl [] (w1.alloc (.cells #[.int .u8 (k1.toNat : Int), .int .u8 (k2.toNat : Int), .int .u8 (k3.toNat : Int), .int .u8 (k4.toNat : Int)] 32))).alloc (.cells (K4.f ⟨k1, k2, k3, k4⟩).toArray 32))
      refine wpList_append_is rfl _ _ 28 rfl 32 _ 4 4 Try.underlying28 HF.out rfl (by decide) (by decide) w.heap.size _ kl.length _ rfl (HOA.out.alloc _) _ 1 1 (K4.f ⟨k1, k2, k3, k4⟩) rfl rfl (fun j u h => by have := cells_new (w1.alloc (.cells #[.int .u8 (k1.toNat : Int), .int .u8 (k2.toNat : Int), .int .u8 (k3.toNat : Int), .int .u8 (k4.toNat : Int)] 32)) (K4.f ⟨k1, k2, k3, k4⟩) 32 j u h; rw [World.size_alloc] at this; exact this) (by simp [K4.f, Value.oneCell']) (by omega) (by simp; omega) ?_
      intro v' w3 hown3 hgrow hnil
      obtain ⟨S, hS1, hS2⟩ := ownsRow_grownL (HOA.out.alloc _) hgrow
      have hnT : ∀ b ∈ tabBs A R M rs, b ∉ S := fun b hb hx => by have := HLT.out b hb; have := hS2 b hx; omega
      have HT3 := hid ((HTA.out.kept HA2.out (fun _ _ => by simp)).kept hS1 hnT)
      have HK3 := hid ((HKA.out.trans HA2.out (fun x hx => by cases hx)).trans hS1 (fun x hx => .inr (hS2 x hx)))
      have HO3 := hid hown3
      clear a0 a1 a2
      obtain ⟨a0, a1, a2⟩ := HT3.out.cells
      have hMw := HLT.out M (by simp [tabBs])
      clear hown3 hgrow hnil hS1 hnT hL
      go_wp2_with (first
        | (at_delete; refine wpList_delete_is rfl _ _ 52 3 rfl 3 32 (KeyOK.int (k := .i64) Try.underlying3) Try.underlying52 rfl tx rfl HT3.out.waits ?_; intro w4 hM4 hK4; refine Here.mk ?_))
      refine Here.of ?_
      rw [adel_map K4.v] at hM4
      have HT4 := hid (HT3.out.setw hM4 (tdel_nodup _ _ HT3.out.wn) hK4)
      have HO4 := hid (own_below HO3.out hK4 (fun x hx => by simp at hx; omega))
      have HK4 := hid (HK3.out.trans hK4 (fun x hx => .inl (by simp at hx; subst hx; simp [tabBs])))
      clear hM4 hK4
      go_wp2_with fail
      go_meet
      refine ⟨kl ++ [⟨k1, k2, k3, k4⟩], kl.length + 1, ?_, by simp, ?_, HT4.out, HK4.out⟩
      · show World.ownsRow _ _ _ _ _ _ _
        rw [List.flatMap_append]
        simpa using HO4.out
      · show _ = _
        rw [HN.out]; rfl
  case rest =>
  obtain ⟨l, n, HOX, hnl, HLX, HTX, HKX⟩ := hcut
  clear a0 a1 a2 hL HO1 HK1 HT1 HKEYS HT0 HLK HKK HOK
  rename World => wx
  have hll : l.length ≤ 50001 := by rw [HLX.out]; cases aget tx ws <;> simp <;> omega
  have hsx := HKX.out.size
  go_wp2_with (go_at_call 28; refine Here.mk ?_)
  refine Here.of ?_
  refine (lsort_any _ w.heap.size n l wx HOX.out hnl (by omega)).mono ?_
  rintro e w5 ⟨rfl, ho5, hk5⟩
  have HK5 := hid (HKX.out.trans hk5 (fun x hx => .inr (by have := HOX.out.lt x (by simpa using hx); omega)))
  have HT5 := hid (HTX.out.kept hk5 (fun b hb hx => by have := HLT.out b hb; have := HOX.out.lt b (by simpa using hx); omega))
  have HO5 := hid ho5
  clear ho5 hk5
  go_wp2_with (go_at_call 29; refine Here.mk ?_)
  refine Here.of ?_
  refine (compactK_any _ w.heap.size n (sortK l) w5 HO5.out (by rw [hnl, (sortK_perm l).length_eq]) (by rw [(sortK_perm l).length_eq]; omega)).mono ?_
  rintro e w6 ⟨v, rfl, ho6, hk6, hb6⟩
  obtain ⟨va, vc, hv⟩ := ownsRow_slice ho6
  subst hv
  have HK6 := hid (HK5.out.trans hk6 (fun x hx => .inr (by have := HO5.out.lt x (by simpa using hx); omega)))
  have HT6 := hid (HT5.out.kept hk6 (fun b hb hx => by have := HLT.out b hb; have := HO5.out.lt b (by simpa using hx); omega))
  have HO6 := hid ho6
  clear ho6 hk6 hb6
  have HKS := hid (show compK (sortK (kl ++ (aget tx ws).toList)) = compK (sortK l) by rw [HLX.out])
  obtain ⟨ks, hks⟩ : ∃ ks, ks = compK (sortK l) := ⟨_, rfl⟩
  rw [← hks] at HO6 HKS
  rw [← hks]
  have hkn : ks.length ≤ 50001 := by
    rw [hks]
    have := compN_len (sortK l) (sortK l).length
    rw [(sortK_perm l).length_eq] at this
    unfold compK
    rw [(sortK_perm l).length_eq]
    omega
  clear hks
  rename World => wz
  go_wp2_with fail
  obtain ⟨hMA, hMM⟩ : A ∈ tabBs A R M rs ∧ R ∈ tabBs A R M rs := ⟨by simp [tabBs], by simp [tabBs]⟩
  have hsz6 := HK6.out.size
  have HDIS6 := hid (show ∀ b ∈ (Value.slice va ks.length vc).ownBlock.toList, b ∉ tabBs A R M rs from fun b hb hx => by have := HLT.out b hx; have := HO6.out.lt b (by simpa using hb); omega)
  go_loopg [40] ks.length (fun kx s40 wr => ∃ (i : Nat) (rsi : List (K4 × RR)), s40 = .int .i64 i ∧ i ≤ ks.length ∧ ks.length - i ≤ kx ∧ Aside (TabIs wr A R M lim rsi (adel tx ws)) ∧ Aside (tabT lim rsi (adel tx ws) = (ks.take i).foldl (Ta.drop1 tx) (tabT lim rs (adel tx ws))) ∧ Aside (wr.ownsRow w.heap.size 32 4 (.slice va ks.length vc) ks.length (ks.flatMap K4.f)) ∧ Aside (∀ b ∈ (Value.slice va ks.length vc).ownBlock.toList, b ∉ tabBs A R M rsi) ∧ Aside (Kept (tabBs A R M rs) w wr) ∧ Aside (∀ b ∈ tabBs A R M rsi, b ∈ tabBs A R M rs ∨ w.heap.size ≤ b))
  case atStart => exact ⟨0, rs, by first | rfl | go_num, by omega, by omega, HT6.out, rfl, HO6.out, HDIS6.out, HK6.out, fun b hb => .inl hb⟩
  case round =>
    clear HT6 HO6 HDIS6 HK6 HK5 HT5 HO5 HKX HTX HOX hsz6
    obtain ⟨i, rsi, rfl, hin, hkx, HTI, HEI, HOI, HDI, HKI, HBI⟩ := hrel
    rename World => wo
    by_cases hb : i < ks.length
    · have hltz : (i : Int) < (ks.length : Int) := by omega
      obtain ⟨g, hva⟩ : ∃ g, va = some ⟨g, 0, none⟩ := by
        rcases HOI.out.2 with ⟨hv, hz⟩ | ⟨g, cap, cur, hv, _⟩
        · omega
        · cases hv; exact ⟨g, rfl⟩
      subst hva
      obtain ⟨d0, d1, d2, d3⟩ := own_keys HOI.out hb
      have HTK := hid (show (ks.take (i + 1)).foldl (Ta.drop1 tx) (tabT lim rs (adel tx ws)) = Ta.drop1 tx ((ks.take i).foldl (Ta.drop1 tx) (tabT lim rs (adel tx ws))) ks[i] from foldl_take_succ _ ks i hb _)
      have HLEI := hid (show Ta.le 100000 (tabT lim rsi (adel tx ws)) by rw [HEI.out]; exact Ta.le.foldl_drop _ (show (tabT lim rs (adel tx ws)).le 100000 from HLE.out))
      obtain ⟨a0, a1, a2⟩ := HTI.out.cells
      have hAl := HTI.out.lt A (by simp [tabBs])
      have hAne : wo.heap.size ≠ A := by omega
      have hgl : g < wo.heap.size := (Array.getElem?_eq_some_iff.1 (show ∃ c, wo.heap[g]? = some c from by
        rcases HOI.out.2 with ⟨hv, _⟩ | ⟨g', cap, cur, hv, _, hg, _⟩
        · cases hv
        · cases hv; exact ⟨_, hg⟩).choose_spec).1
      have hgne : wo.heap.size ≠ g := by omega
      generalize ks[i] = y at *
      have HIB := hid hb
      clear hb
      obtain ⟨y1, y2, y3, y4⟩ := y
      dsimp only at d0 d1 d2 d3
      obtain ⟨r0, hr0⟩ : ∃ r0, r0 = (tabT lim rsi (adel tx ws)).row ⟨y1, y2, y3, y4⟩ := ⟨_, rfl⟩
      have hln := Ta.le.row (k := ⟨y1, y2, y3, y4⟩) HLEI.out
      have HRW := hid (row_any A R M lim rsi (adel tx ws) ⟨y1, y2, y3, y4⟩ (wo.alloc (.cells #[.int .u8 (y1.toNat : Int), .int .u8 (y2.toNat : Int), .int .u8 (y3.toNat : Int), .int .u8 (y4.toNat : Int)] 32)) (HTI.out.kept ((Kept.refl [] wo).alloc _) (fun _ _ => by simp)))
      rw [← hr0] at HRW hln
      have HR0 := hid hr0
      clear hr0
      obtain ⟨h0, l0⟩ := r0
      simp only [K4.v] at HRW
      dsimp only at hln
      go_wp2_with (first
        | (go_at_call 30; refine Here.mk ?_))
      refine Here.of ?_
      refine HRW.out.mono ?_
      rintro e w3 ⟨rs3, ⟨P, hv, qv, r3⟩, rfl, hT3, hg3, hn3, hr3, hk3, hb3⟩
      dsimp only at hr3
      subst hr3
      have HT3 := hid hT3
      have HG3 := hid hg3
      have HN3 := hid hn3
      have HR3 := hid (show RowIs w3 P hv qv ⟨h0, l0⟩ from hT3.at' hg3)
      obtain ⟨c0, c1, f0, f1⟩ := HR3.out.c0
      have HB3 := hid hb3
      have HK3 := hid (((Kept.refl [R] wo).alloc (.cells #[.int .u8 (y1.toNat : Int), .int .u8 (y2.toNat : Int), .int .u8 (y3.toNat : Int), .int .u8 (y4.toNat : Int)] 32)).trans hk3 (fun x hx => .inl hx))
      clear d0 d1 d2 d3 a0 a1 a2 hT3 hg3 hn3 hb3 hk3 HRW
      go_wp2_with (go_at_call 31; refine Here.mk ?_)
      refine Here.of ?_
      refine (drop_any hv h0 tx w3 (own_wrow HR3.out.h) (by omega)).mono ?_
      rintro e w4 ⟨v1, rfl, hdr⟩
      obtain ⟨xa, xn, xc, hv1⟩ := Dropped.slice hdr
      subst hv1
      have HD1 := hid (show Dropped w3 w4 hv (.slice xa xn xc) h0 tx from hdr)
      have HE1 := hid (droph_end (r := ⟨h0, l0⟩) HR3.out HD1.out)
      have hb4 := HE1.out.2.2.2
      obtain ⟨b0, b1, g0, g1⟩ := two_cells hb4
      have hb5 := set1 hb4 (.slice xa xn xc)
      obtain ⟨e0, e1, g2, g3⟩ := two_cells hb5
      clear hdr c0 c1 f0 f1 hb4 hb5
      go_wp2_with (go_at_call 31; refine Here.mk ?_)
      refine Here.of ?_
      refine (drop_any qv l0 tx _ HE1.out.1.q (by omega)).mono ?_
      rintro e w6 ⟨v2, rfl, hdr⟩
      obtain ⟨za, zn, zc, hv2⟩ := Dropped.slice hdr
      subst hv2
      have HE2 := hid (dropboth_end (r := ⟨h0, l0⟩) HR3.out HD1.out hdr)
      have hb6 := (dropq_end HE1.out.1 hdr).2.2.2
      obtain ⟨e0', e1', g2', g3'⟩ := two_cells hb6
      clear hdr b0 b1 g0 g1 e0 e1 g2 g3 hb6
      go_wp2_with fail
      have hsz3 := HK3.out.size
      have HRE := row_end (w := wo) (rs := rsi) HT3.out HG3.out (Kept.refl [] w3) HE2.out.1 (fun b hb => .inl (by rw [HE2.out.2.1] at hb; exact hb)) HE2.out.2.2 (fun b hb => hb) (fun b hb => (HB3.out b hb).imp_right (fun h => by simp at h; omega)) (HK3.out.mono (fun x hx => by simp at hx; subst hx; simp [tabBs]))
      have HRS := hid HRE
      clear HRE
      go_roundg (ks.length - (i + 1))
      case measure => have := HIB.out; omega
      case rel =>
        have hwsz := HKI.out.size
        refine ⟨i + 1, _, by first | rfl | go_num, by have := HIB.out; omega, Nat.le_refl _, HRS.out.1, ?_, ?_, ?_, HKI.out.trans HRS.out.2.2.1 (fun x hx => HBI.out x hx), ?_⟩
        · show _ = _
          rw [HRS.out.2.1, HN3.out, HTK.out, ← HEI.out]
          have := HR0.out
          unfold Ta.drop1
          rw [← this]
        · exact own_kept HOI.out HRS.out.2.2.1 (fun x hx => HDI.out x (by simpa using hx))
        · show ∀ b ∈ (Value.slice (some ⟨g, 0, none⟩) ks.length vc).ownBlock.toList, b ∉ tabBs A R M _
          intro b hb hx
          rcases HRS.out.2.2.2 b hx with h | h
          · exact HDI.out b hb h
          · simp [Value.ownBlock] at hb; omega
        · show ∀ b ∈ tabBs A R M _, _
          intro b hb
          rcases HRS.out.2.2.2 b hb with h | h
          · exact HBI.out b h
          · exact .inr (by omega)
    · obtain rfl : i = ks.length := by omega
      have hltz : ¬ (ks.length : Int) < (ks.length : Int) := by omega
      go_wp2_with fail
      have HT0 := hid (show tabT lim rsi (adel tx ws) = ks.foldl (Ta.drop1 tx) (tabT lim rs (adel tx ws)) by have := HEI.out; rw [List.take_length] at this; exact this)
      obtain ⟨t0, ht0⟩ : ∃ t0, t0 = ks.foldl (Ta.drop1 tx) (tabT lim rs (adel tx ws)) := ⟨_, rfl⟩
      rw [← ht0] at HT0
      have HLE0 := hid (show Ta.le 100000 t0 by rw [ht0]; exact Ta.le.foldl_drop _ (show (tabT lim rs (adel tx ws)).le 100000 from HLE.out))
      have HT0E := hid ht0
      clear ht0
      go_loopg [68] ks.length (fun kx s68 wr => ∃ (i : Nat) (rsj : List (K4 × RR)) (wsj : List (Int × K4)), s68 = .int .i64 i ∧ i ≤ ks.length ∧ ks.length - i ≤ kx ∧ Aside (TabIs wr A R M lim rsj wsj) ∧ Aside (tabT lim rsj wsj = (ks.take i).foldl Ta.on t0) ∧ Aside (wr.ownsRow w.heap.size 32 4 (.slice va ks.length vc) ks.length (ks.flatMap K4.f)) ∧ Aside (∀ b ∈ (Value.slice va ks.length vc).ownBlock.toList, b ∉ tabBs A R M rsj) ∧ Aside (Kept (tabBs A R M rs) w wr) ∧ Aside (∀ b ∈ tabBs A R M rsj, b ∈ tabBs A R M rs ∨ w.heap.size ≤ b))
      case atStart => exact ⟨0, rsi, _, by first | rfl | go_num, by omega, by omega, HTI.out, HT0.out, HOI.out, HDI.out, HKI.out, HBI.out⟩
      case round =>
        clear HTI HEI HOI HDI HKI HBI HT0 hltz
        obtain ⟨i, rsj, wsj, rfl, hin, hkx, HTI, HEI, HOI, HDI, HKI, HBI⟩ := hrel
        rename World => wo
        by_cases hb : i < ks.length
        · have hltz : (i : Int) < (ks.length : Int) := by omega
          obtain ⟨g, hva⟩ : ∃ g, va = some ⟨g, 0, none⟩ := by
            rcases HOI.out.2 with ⟨hv, hz⟩ | ⟨g, cap, cur, hv, _⟩
            · omega
            · cases hv; exact ⟨g, rfl⟩
          subst hva
          obtain ⟨d0, d1, d2, d3⟩ := own_keys HOI.out hb
          have HTK := hid (show (ks.take (i + 1)).foldl Ta.on t0 = Ta.on ((ks.take i).foldl Ta.on t0) ks[i] from foldl_take_succ _ ks i hb _)
          have HLEI := hid (show Ta.le 100000 (tabT lim rsj wsj) by rw [HEI.out]; exact Ta.le.foldl_on _ HLE0.out)
          obtain ⟨a0, a1, a2⟩ := HTI.out.cells
          have hgl : g < wo.heap.size := (Array.getElem?_eq_some_iff.1 (show ∃ c, wo.heap[g]? = some c from by
            rcases HOI.out.2 with ⟨hv, _⟩ | ⟨g', cap, cur, hv, _, hg, _⟩
            · cases hv
            · cases hv; exact ⟨_, hg⟩).choose_spec).1
          generalize ks[i] = y at *
          have HIB := hid hb
          clear hb
          obtain ⟨y1, y2, y3, y4⟩ := y
          dsimp only at d0 d1 d2 d3
          have HON := hid (tabOn_any A R M lim rsj wsj ⟨y1, y2, y3, y4⟩ (wo.alloc (.cells #[.int .u8 (y1.toNat : Int), .int .u8 (y2.toNat : Int), .int .u8 (y3.toNat : Int), .int .u8 (y4.toNat : Int)] 32)) (HTI.out.kept ((Kept.refl [] wo).alloc _) (fun _ _ => by simp)) (fun p hp => by have := le_tab.1 HLEI.out p hp; omega))
          simp only [K4.v] at HON
          go_wp2_with (first
            | (go_at_call 32; refine Here.mk ?_))
          refine Here.of ?_
          refine HON.out.mono ?_
          rintro e w3 ⟨rfl, rs3, ws3, hT3, hn3, hk3, hb3⟩
          have HT3 := hid hT3
          have HN3 := hid hn3
          have HB3 := hid hb3
          have HK3 := hid (((Kept.refl (tabBs A R M rsj) wo).alloc (.cells #[.int .u8 (y1.toNat : Int), .int .u8 (y2.toNat : Int), .int .u8 (y3.toNat : Int), .int .u8 (y4.toNat : Int)] 32)).trans hk3 (fun x hx => .inl hx))
          clear d0 d1 d2 d3 a0 a1 a2 hT3 hn3 hb3 hk3 HON
          go_wp2_with fail
          go_roundg (ks.length - (i + 1))
          case measure => have := HIB.out; omega
          case rel =>
            have hwsz := HKI.out.size
            refine ⟨i + 1, rs3, ws3, by first | rfl | go_num, by have := HIB.out; omega, Nat.le_refl _, HT3.out, ?_, ?_, ?_, HKI.out.trans HK3.out (fun x hx => HBI.out x hx), ?_⟩
            · show _ = _
              rw [HN3.out, HTK.out, ← HEI.out]
            · exact own_kept HOI.out HK3.out (fun x hx => HDI.out x (by simpa using hx))
            · show ∀ b ∈ (Value.slice (some ⟨g, 0, none⟩) ks.length vc).ownBlock.toList, b ∉ tabBs A R M _
              intro b hb hx
              rcases HB3.out b hx with h | h
              · exact HDI.out b hb h
              · simp [Value.ownBlock] at hb h; omega
            · show ∀ b ∈ tabBs A R M _, _
              intro b hb
              rcases HB3.out b hb with h | h
              · exact HBI.out b h
              · simp at h; exact .inr (by omega)
        · obtain rfl : i = ks.length := by omega
          have hltz : ¬ (ks.length : Int) < (ks.length : Int) := by omega
          go_wp2_with fail
          go_end0
          refine ⟨rfl, rsj, wsj, HTI.out, ?_, HKI.out, HBI.out⟩
          have := HEI.out
          rw [List.take_length, HT0E.out] at this
          rw [HKS.out]
          exact this
--@@ end
end Go.Proofs.Ytiheoddlknbomaa
