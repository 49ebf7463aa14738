/- A store in memory: its block, its map of transactions, each one's block, its draft's and its draft's map; the table of locks beside them. -/
import Derived.Test.YtpfgpbafechncaaGreatM5
import Derived.Test.YtpfgpbafechncaaGreatM1
set_option linter.all false
namespace Go.Proofs.YtpfgpbafechncaaGreat
open Go.RowKit Go.Shelf Go.Lib Go.Sort Go.Proofs
theorem KD.mono {D E : Nat → Prop} {w w' : World} (h : KD E w w') (hD : ∀ k, D k → E k) : KD D w w' := ⟨h.os, h.tape, h.output, h.size, fun k hk => h.block k (hD k hk)⟩
theorem MapIs.kd {α : Type} {w w' : World} {b : Nat} {ek : α → Value} {l : List (α × Value)} {E : Nat → Prop} (h : MapIs w b ek l) (hk : KD E w w') (hb : E b) : MapIs w' b ek l := by
  obtain ⟨es, clock, h1, r⟩ := h.ex
  exact ⟨es, clock, (hk.block b hb).trans h1, r⟩
def bvB (v : Value) (b : Nat) : Prop := ∃ a n c, v = .slice (some a) n c ∧ 0 < n ∧ a.block = b
theorem PrAt.kd {w w' : World} {v : Value} {l : List Pr} {E : Nat → Prop} (h : PrAt w v l) (hk : KD E w w') (hE : ∀ b, bvB v b → E b) : PrAt w' v l := by
  refine ⟨?_, h.sp, h.nl⟩
  obtain ⟨a, cap, h1, h2, h3, h4⟩ := h.at'.ex
  refine ⟨a, cap, h1, h2, h3, fun hn => ?_⟩
  obtain ⟨b, off, h5, h6, h7⟩ := h4 hn
  subst h5
  exact ⟨b, off, rfl, Nat.lt_of_lt_of_le h6 hk.size, fun j u hu => hk.cell (h7 j u hu) (hE b ⟨_, _, _, h1, hn, rfl⟩)⟩
structure So where
  b : Nat
  d : Nat
  m : Nat
  k : Sw
def So.bs (x : So) : List Nat := [x.b, x.d, x.m]
def soP (ws : List (Int × So)) : List (Int × Value) := ws.map fun x => (x.1, .pointer (some ⟨x.2.b, 0, none⟩))
def soK (ws : List (Int × So)) : List (Int × Sw) := ws.map fun x => (x.1, x.2.k)
def stBs (A M : Nat) (ws : List (Int × So)) : List Nat := A :: M :: ws.flatMap fun x => x.2.bs
def stB (D : Nat → Prop) (A M : Nat) (bv : Value) (ws : List (Int × So)) (b : Nat) : Prop := D b ∨ b ∈ stBs A M ws ∨ bvB bv b
theorem soP_get (tx : Int) (ws : List (Int × So)) : aget tx (soP ws) = (aget tx ws).map fun x => Value.pointer (some ⟨x.b, 0, none⟩) := aget_map (fun x : So => Value.pointer (some ⟨x.b, 0, none⟩)) tx ws
theorem soK_get (tx : Int) (ws : List (Int × So)) : aget tx (soK ws) = (aget tx ws).map (·.k) := aget_map (fun x : So => x.k) tx ws
theorem soK_aput (tx : Int) (x : So) (ws : List (Int × So)) : soK (aput tx x ws) = aput tx x.k (soK ws) := (aput_map (fun x : So => x.k) tx x ws).symm
theorem soP_adel (tx : Int) (ws : List (Int × So)) : soP (adel tx ws) = adel tx (soP ws) := (adel_map (fun x : So => Value.pointer (some ⟨x.b, 0, none⟩)) tx ws).symm
theorem soK_adel (tx : Int) (ws : List (Int × So)) : soK (adel tx ws) = adel tx (soK ws) := (adel_map (fun x : So => x.k) tx ws).symm
theorem aput_sameS {α β : Type} [DecidableEq α] {k : α} {v : β} : ∀ {l : List (α × β)}, aget k l = some v → aput k v l = l
  | [], h => by simp [aget] at h
  | q :: l, h => by
    simp only [aget] at h
    simp only [aput]
    by_cases hq : q.1 = k
    · rw [if_pos hq] at h ⊢
      obtain rfl := Option.some.inj h
      rw [← hq]
    · rw [if_neg hq] at h ⊢
      rw [aput_sameS h]
theorem soP_aput {tx : Int} {x x' : So} (h1 : x'.b = x.b) {ws : List (Int × So)} (h : aget tx ws = some x) : soP (aput tx x' ws) = soP ws := by
  unfold soP
  rw [← aput_map (fun x : So => Value.pointer (some ⟨x.b, 0, none⟩))]
  refine aput_sameS ?_
  rw [aget_map (fun x : So => Value.pointer (some ⟨x.b, 0, none⟩)), h, h1]
  rfl
theorem sbs_aput {tx : Int} {x x' : So} (h1 : x'.bs = x.bs) : ∀ {ws : List (Int × So)}, aget tx ws = some x → (aput tx x' ws).flatMap (fun x => x.2.bs) = ws.flatMap fun x => x.2.bs
  | [], h => by simp [aget] at h
  | q :: l, h => by
    simp only [aget] at h
    simp only [aput]
    by_cases hq : q.1 = tx
    · rw [if_pos hq] at h ⊢
      obtain rfl := Option.some.inj h
      simp [h1]
    · rw [if_neg hq] at h ⊢
      simp only [List.flatMap_cons]
      rw [sbs_aput h1 h]
theorem stBs_aput {tx : Int} {x x' : So} (h1 : x'.bs = x.bs) {A M : Nat} {ws : List (Int × So)} (h : aget tx ws = some x) : stBs A M (aput tx x' ws) = stBs A M ws := by unfold stBs; rw [sbs_aput h1 h]
theorem sbs_dis : ∀ {ws : List (Int × So)}, (ws.flatMap fun x => x.2.bs).Nodup → (ws.map (·.1)).Nodup → ∀ x ∈ ws, ∀ y ∈ ws, x.1 ≠ y.1 → ∀ b ∈ x.2.bs, b ∉ y.2.bs
  | [], _, _, x, hx, _, _, _ => by cases hx
  | z :: ws, h, hn, x, hx, y, hy, hxy => by
    rw [List.flatMap_cons, List.nodup_append] at h
    rw [List.map_cons, List.nodup_cons] at hn
    intro b hb hb'
    rcases List.mem_cons.1 hx with e1 | hx1
    · rcases List.mem_cons.1 hy with e2 | hy1
      · exact hxy (by rw [e1, e2])
      · rw [e1] at hb
        exact h.2.2 b hb b (List.mem_flatMap.2 ⟨y, hy1, hb'⟩) rfl
    · rcases List.mem_cons.1 hy with e2 | hy1
      · rw [e2] at hb'
        exact h.2.2 b hb' b (List.mem_flatMap.2 ⟨x, hx1, hb⟩) rfl
      · exact sbs_dis h.2.1 hn.2 x hx1 y hy1 hxy b hb hb'
theorem sbs_adel (tx : Int) : ∀ ws : List (Int × So), ((adel tx ws).flatMap fun x => x.2.bs).Sublist (ws.flatMap fun x => x.2.bs)
  | [] => List.Sublist.refl _
  | q :: l => by
    simp only [adel]
    split
    · rw [List.flatMap_cons]; exact List.sublist_append_right _ _
    · simp only [List.flatMap_cons]; exact List.Sublist.append (List.Sublist.refl _) (sbs_adel tx l)
--@@ store.Store
theorem DraftIs.kd {w w' : World} {a m : Nat} {l : List (K4 × V)} {E : Nat → Prop} (h : DraftIs w a m l) (hk : KD E w w') (ha : E a) (hm : E m) : DraftIs w' a m l := ⟨(hk.block a ha).trans h.blk, h.map.kd hk hm⟩
structure WrkIs (w : World) (x : So) : Prop where
  blk : w.heap[x.b]? = some (.cells #[.int .i64 x.k.state, .int .i64 x.k.err, .pointer (some ⟨x.d, 0, none⟩)] 86 (0, 0))
  dr : DraftIs w x.d x.m x.k.ws
  kn : (x.k.ws.map (·.1)).Nodup
  nd : x.bs.Nodup
theorem WrkIs.lt {w : World} {x : So} (h : WrkIs w x) : ∀ b ∈ x.bs, b < w.heap.size := fun b hb => by
  simp only [So.bs, List.mem_cons, List.not_mem_nil, or_false] at hb
  rcases hb with rfl | rfl | rfl
  · exact (Array.getElem?_eq_some_iff.1 h.blk).1
  · exact h.dr.lt.1
  · exact h.dr.lt.2
theorem WrkIs.kept {S : List Nat} {w w' : World} {x : So} (h : WrkIs w x) (hk : Kept S w w') (hS : ∀ b ∈ x.bs, b ∉ S) : WrkIs w' x :=
  ⟨(hk.block x.b (h.lt _ (by simp [So.bs])) (hS _ (by simp [So.bs]))).trans h.blk, h.dr.kept hk (hS _ (by simp [So.bs])) (hS _ (by simp [So.bs])), h.kn, h.nd⟩
theorem WrkIs.kd {E : Nat → Prop} {w w' : World} {x : So} (h : WrkIs w x) (hk : KD E w w') (hE : ∀ b ∈ x.bs, E b) : WrkIs w' x :=
  ⟨(hk.block x.b (hE _ (by simp [So.bs]))).trans h.blk, h.dr.kd hk (hE _ (by simp [So.bs])) (hE _ (by simp [So.bs])), h.kn, h.nd⟩
theorem WrkIs.cells {w : World} {x : So} (h : WrkIs w x) : w.cell? ⟨x.b, 0, none⟩ = some (.int .i64 x.k.state) ∧ w.cell? ⟨x.b, 1, none⟩ = some (.int .i64 x.k.err) ∧ w.cell? ⟨x.b, 2, none⟩ = some (.pointer (some ⟨x.d, 0, none⟩)) := by
  refine ⟨?_, ?_, ?_⟩ <;> simp [World.cell?, h.blk]
theorem WrkIs.frz {w : World} {x : So} (h : WrkIs w x) (o : Nat) : w.frozen? ⟨x.b, o, none⟩ = false := by simp [World.frozen?, h.blk]
theorem WrkIs.small {w : World} {x : So} (h : WrkIs w x) : ∀ b ∈ x.bs, ∀ o, 4 ≤ o → w.cell? ⟨b, o, none⟩ = none := fun b hb => by
  simp only [So.bs, List.mem_cons, List.not_mem_nil, or_false] at hb
  rcases hb with rfl | rfl | rfl
  · exact small_cells h.blk (by simp)
  · exact small_cells h.dr.blk (by simp)
  · exact small_map h.dr.map
structure StoIs (w : World) (D : Nat → Prop) (A M L : Nat) (bv : Value) (ws : List (Int × So)) (s : Sp) : Prop where
  blk : w.heap[A]? = some (.cells #[bv, .pointer (some ⟨L, 0, none⟩), .map (some M)] 82 (0, 0))
  base : PrAt w bv s.base
  map : MapIs w M (Value.int .i64) (soP ws)
  each : ∀ x ∈ ws, WrkIs w x.2
  eq : s.works = soK ws
  nd : (stBs A M ws).Nodup
  kn : (ws.map (·.1)).Nodup
  out : ∀ b ∈ stBs A M ws, ¬ D b
  bout : ∀ b, bvB bv b → ¬ D b
  tab : TabAt w (stB D A M bv ws) L s.tab
section
variable {w w' : World} {D : Nat → Prop} {A M L : Nat} {bv : Value} {ws : List (Int × So)} {s : Sp}
theorem smem_bs {ws : List (Int × So)} {x : Int × So} (hx : x ∈ ws) {A M b : Nat} (hb : b ∈ x.2.bs) : b ∈ stBs A M ws := by
  simp only [stBs, List.mem_cons, List.mem_flatMap]
  exact .inr (.inr ⟨x, hx, hb⟩)
theorem StoIs.cells (H : StoIs w D A M L bv ws s) : w.cell? ⟨A, 0, none⟩ = some bv ∧ w.cell? ⟨A, 1, none⟩ = some (.pointer (some ⟨L, 0, none⟩)) ∧ w.cell? ⟨A, 2, none⟩ = some (.map (some M)) := by
  refine ⟨?_, ?_, ?_⟩ <;> simp [World.cell?, H.blk]
theorem StoIs.frz (H : StoIs w D A M L bv ws s) (o : Nat) : w.frozen? ⟨A, o, none⟩ = false := by simp [World.frozen?, H.blk]
theorem StoIs.lt (H : StoIs w D A M L bv ws s) : ∀ b, stB D A M bv ws b → b < w.heap.size := H.tab.lt
theorem StoIs.dlt (H : StoIs w D A M L bv ws s) : ∀ b, D b → b < w.heap.size := fun b hb => H.tab.lt b (.inl hb)
theorem StoIs.small (H : StoIs w D A M L bv ws s) : ∀ b ∈ stBs A M ws, ∀ o, 4 ≤ o → w.cell? ⟨b, o, none⟩ = none := fun b hb => by
  simp only [stBs, List.mem_cons, List.mem_flatMap] at hb
  rcases hb with rfl | rfl | ⟨x, hx, hb⟩
  · exact small_cells H.blk (by simp)
  · exact small_map H.map
  · exact (H.each x hx).small b hb
theorem StoIs.base_far (H : StoIs w D A M L bv ws s) {S : List Nat} (hS : ∀ b ∈ S, b ∈ stBs A M ws) : ∀ a n c, bv = .slice (some a) n c → 0 < n → a.block ∉ S := fun a n c hv hn hb =>
  H.base.far (H.small _ (hS _ hb)) a n c hv hn rfl
theorem StoIs.ne_A (H : StoIs w D A M L bv ws s) : M ≠ A ∧ ∀ x ∈ ws, ∀ b ∈ x.2.bs, b ≠ A := by
  have := List.nodup_cons.1 H.nd
  refine ⟨fun e => this.1 (by rw [e]; simp), fun x hx b hb e => this.1 ?_⟩
  simp only [List.mem_cons, List.mem_flatMap]; exact .inr ⟨x, hx, by rw [← e]; exact hb⟩
theorem StoIs.ne_M (H : StoIs w D A M L bv ws s) : ∀ x ∈ ws, ∀ b ∈ x.2.bs, b ≠ M := by
  have := List.nodup_cons.1 (List.nodup_cons.1 H.nd).2
  refine fun x hx b hb e => this.1 ?_
  simp only [List.mem_flatMap]; exact ⟨x, hx, by rw [← e]; exact hb⟩
theorem StoIs.kept {S : List Nat} (H : StoIs w D A M L bv ws s) (hk : Kept S w w') (hS : ∀ x ∈ S, D x) : StoIs w' D A M L bv ws s := by
  have hn : ∀ b ∈ stBs A M ws, b ∉ S := fun b hb hx => H.out b hb (hS b hx)
  have hl : ∀ b ∈ stBs A M ws, b < w.heap.size := fun b hb => H.lt b (.inr (.inl hb))
  exact ⟨(hk.block A (hl A (by simp [stBs])) (hn A (by simp [stBs]))).trans H.blk, H.base.kept_of hk (fun a n c hv h0 hb => H.bout _ ⟨a, n, c, hv, h0, rfl⟩ (hS _ hb)), H.map.kept hk (hn M (by simp [stBs])),
    fun x hx => (H.each x hx).kept hk (fun b hb => hn b (smem_bs hx hb)), H.eq, H.nd, H.kn, H.out, H.bout, H.tab.kept hk (fun x hx => .inl (hS x hx))⟩
theorem StoIs.less {E : Nat → Prop} (H : StoIs w D A M L bv ws s) (hE : ∀ b, E b → D b) : StoIs w E A M L bv ws s :=
  ⟨H.blk, H.base, H.map, H.each, H.eq, H.nd, H.kn, fun b hb he => H.out b hb (hE b he), fun b hb he => H.bout b hb (hE b he), H.tab.less (fun b hb => hb.elim (fun h => .inl (hE b h)) .inr)⟩
theorem StoIs.widen {S : List Nat} (H : StoIs w D A M L bv ws s) (hk : Kept S w w') (hS : ∀ x ∈ S, D x) : StoIs w' (fun b => D b ∨ (w.heap.size ≤ b ∧ b < w'.heap.size)) A M L bv ws s := by
  have H' := H.kept hk hS
  refine ⟨H'.blk, H'.base, H'.map, H'.each, H'.eq, H'.nd, H'.kn, fun b hb hD => ?_, fun b hb hD => ?_, (H.tab.widen hk (fun x hx => .inl (hS x hx))).less (fun b hb => ?_)⟩
  · rcases hD with hD | hD
    · exact H.out b hb hD
    · have := H.lt b (.inr (.inl hb)); omega
  · rcases hD with hD | hD
    · exact H.bout b hb hD
    · have := H.lt b (.inr (.inr hb)); omega
  · rcases hb with (hb | hb) | hb | hb
    · exact .inl (.inl hb)
    · exact .inr hb
    · exact .inl (.inr (.inl hb))
    · exact .inl (.inr (.inr hb))
theorem StoIs.turnTab {t' : Ta} (H : StoIs w D A M L bv ws s) (hT : TabAt w' (stB D A M bv ws) L t') (hk : KD (stB D A M bv ws) w w') : StoIs w' D A M L bv ws ⟨s.base, t', s.works⟩ :=
  ⟨(hk.block A (.inr (.inl (by simp [stBs])))).trans H.blk, H.base.kd hk (fun b hb => .inr (.inr hb)), H.map.kd hk (.inr (.inl (by simp [stBs]))), fun x hx => (H.each x hx).kd hk (fun b hb => .inr (.inl (smem_bs hx hb))), H.eq, H.nd, H.kn, H.out, H.bout, hT⟩
theorem StoIs.turn (H : StoIs w D A M L bv ws s) {tx : Int} {x x' : So} (hx : aget tx ws = some x) (h1 : x'.bs = x.bs) (hW : WrkIs w' x') (hk : Kept x.bs w w') :
    StoIs w' D A M L bv (aput tx x' ws) ⟨s.base, s.tab, aput tx x'.k s.works⟩ := by
  have hmem := tget_mem hx
  have hsub : ∀ b ∈ x.bs, b ∈ stBs A M ws := fun b hb => smem_bs hmem hb
  have hnd := (List.nodup_cons.1 (List.nodup_cons.1 H.nd).2).2
  have hb1 : x'.b = x.b := by simp only [So.bs, List.cons.injEq] at h1; exact h1.1
  refine ⟨(hk.block A (H.lt A (.inr (.inl (by simp [stBs])))) (fun hA => H.ne_A.2 _ hmem _ hA rfl)).trans H.blk, H.base.kept_of hk (H.base_far hsub), ?_, fun y hy => ?_, ?_, ?_, tput_nodup _ _ _ H.kn, ?_, H.bout, ?_⟩
  · rw [soP_aput hb1 hx]
    exact H.map.kept hk (fun hM => H.ne_M _ hmem _ hM rfl)
  · rcases mem_aputK H.kn hy with rfl | ⟨hy, hne⟩
    · exact hW
    · exact (H.each y hy).kept hk (sbs_dis hnd H.kn y hy (tx, x) hmem hne)
  · dsimp only
    rw [H.eq, soK_aput]
  · rw [stBs_aput h1 hx]; exact H.nd
  · rw [stBs_aput h1 hx]; exact H.out
  · have := H.tab.kept hk (fun y hy => .inr (.inl (hsub y hy)))
    exact this.less (fun b hb => by
      rcases hb with hb | hb | hb
      · exact .inl hb
      · rw [stBs_aput h1 hx] at hb; exact .inr (.inl hb)
      · exact .inr (.inr hb))
theorem StoIs.push {W : World} (H : StoIs W D A M L bv ws s) {tx : Int} {x : So} (hx : aget tx ws = none) (hW : WrkIs W x) (hb : ∀ b ∈ x.bs, b ∉ stBs A M ws ∧ ¬ D b) (hT : TabAt W (stB D A M bv (ws ++ [(tx, x)])) L s.tab) (hk : Kept [M] W w')
    (hM : MapIs w' M (Value.int .i64) (aput tx (.pointer (some ⟨x.b, 0, none⟩)) (soP ws))) : StoIs w' D A M L bv (ws ++ [(tx, x)]) ⟨s.base, s.tab, s.works ++ [(tx, x.k)]⟩ := by
  have hbs : stBs A M (ws ++ [(tx, x)]) = stBs A M ws ++ x.bs := by simp [stBs]
  have hbM : ∀ b ∈ x.bs, b ∉ [M] := fun b hb' h => (hb b hb').1 (by simp at h; rw [h]; simp [stBs])
  refine ⟨(hk.block A (H.lt A (.inr (.inl (by simp [stBs])))) (by simp [H.ne_A.1.symm])).trans H.blk, H.base.kept_of hk (H.base_far (by simp [stBs])), ?_, fun y hy => ?_, ?_, ?_, ?_, ?_, H.bout, ?_⟩
  · rw [tput_none _ _ (by rw [soP_get, hx]; rfl)] at hM
    simpa [soP] using hM
  · rcases List.mem_append.1 hy with hy | hy
    · exact (H.each y hy).kept hk (fun b hb' h => H.ne_M y hy b hb' (by simpa using h))
    · simp only [List.mem_singleton] at hy
      subst hy
      exact hW.kept hk hbM
  · dsimp only
    rw [H.eq]
    simp [soK]
  · rw [hbs, List.nodup_append]
    exact ⟨H.nd, hW.nd, fun a ha b hb' e => by subst e; exact (hb a hb').1 ha⟩
  · rw [List.map_append, List.nodup_append]
    refine ⟨H.kn, by simp, fun a ha b hb' e => ?_⟩
    simp only [List.map_cons, List.map_nil, List.mem_singleton] at hb'
    subst hb'
    subst e
    exact (tget_none.1 hx) ha
  · rw [hbs]
    intro b hb'
    rcases List.mem_append.1 hb' with h | h
    · exact H.out b h
    · exact (hb b h).2
  · exact hT.kept hk (fun y hy => by simp at hy; subst hy; exact .inr (.inl (by simp [stBs])))
theorem StoIs.gone (H : StoIs w D A M L bv ws s) (tx : Int) (hk : Kept [M] w w') (hM : MapIs w' M (Value.int .i64) (adel tx (soP ws))) : StoIs w' D A M L bv (adel tx ws) ⟨s.base, s.tab, adel tx s.works⟩ := by
  have hs : (stBs A M (adel tx ws)).Sublist (stBs A M ws) := ((sbs_adel tx ws).cons₂ M).cons₂ A
  refine ⟨(hk.block A (H.lt A (.inr (.inl (by simp [stBs])))) (by simp [H.ne_A.1.symm])).trans H.blk, H.base.kept_of hk (H.base_far (by simp [stBs])), by rw [soP_adel]; exact hM, fun y hy => ?_, ?_, H.nd.sublist hs, tdel_nodup _ _ H.kn, fun b hb => H.out b (hs.subset hb), H.bout, ?_⟩
  · have hy := (tdel_sub tx _).subset hy
    exact (H.each y hy).kept hk (fun b hb' h => H.ne_M y hy b hb' (by simpa using h))
  · dsimp only
    rw [H.eq, soK_adel]
  · refine (H.tab.kept hk (fun y hy => by simp at hy; subst hy; exact .inr (.inl (by simp [stBs])))).less (fun b hb => ?_)
    rcases hb with hb | hb | hb
    · exact .inl hb
    · exact .inr (.inl (hs.subset hb))
    · exact .inr (.inr hb)
theorem StoIs.rebase (H : StoIs w D A M L bv ws s) {bv' : Value} {base' : List Pr} (hk : Kept [A] w w') (hA : w'.heap[A]? = some (.cells #[bv', .pointer (some ⟨L, 0, none⟩), .map (some M)] 82 (0, 0))) (hb : PrAt w' bv' base')
    (hout : ∀ b, bvB bv' b → ¬ D b) (hT : TabAt w' (stB D A M bv' ws) L s.tab) : StoIs w' D A M L bv' ws ⟨base', s.tab, s.works⟩ :=
  ⟨hA, hb, H.map.kept hk (by simp [H.ne_A.1]), fun x hx => (H.each x hx).kept hk (fun b hb h => H.ne_A.2 x hx b hb (by simpa using h)), H.eq, H.nd, H.kn, H.out, hout, hT⟩
end
def StoreAt (w : World) (D : Nat → Prop) (A : Nat) (s : Sp) : Prop := ∃ M L bv ws, StoIs w D A M L bv ws s
--@@ end
end Go.Proofs.YtpfgpbafechncaaGreat
