/- Rows of pairs and transactions that are new. No program text. -/
import Derived.Test.YtpfgpbafechncaaGreatM1
import Derived.Laws.AppendOwnNone
set_option linter.all false
namespace Go.Proofs.YtpfgpbafechncaaGreat
open Go.RowKit
def PrN (lo : Nat) (l : List Pr) (v : Value) (w : World) : Prop := (∃ pa pc, v = .slice pa l.length pc) ∧ PrAt w v l ∧ ∀ a n c, v = .slice (some a) n c → 0 < n → lo ≤ a.block
theorem PrN.kept {lo : Nat} {l : List Pr} {v : Value} {w w' : World} (hk : Kept [] w w') (h : PrN lo l v w) : PrN lo l v w' := ⟨h.1, h.2.1.kept hk, h.2.2⟩
def AggN (lo : Nat) (x : Txp) (v : Value) (w : World) : Prop := ∃ pa pc, v = .agg #[.int .i64 x.n, .int .u16 (x.mask : Int), .bool x.com, .slice pa x.ws.length pc] ∧ PrN lo x.ws (.slice pa x.ws.length pc) w
theorem AggN.kept {lo : Nat} {x : Txp} {v : Value} {w w' : World} (hk : Kept [] w w') (h : AggN lo x v w) : AggN lo x v w' := by
  obtain ⟨pa, pc, h1, h2⟩ := h
  exact ⟨pa, pc, h1, h2.kept hk⟩
def RowN (lo : Nat) (x : Txp) (v : Value) (w : World) : Prop := ∃ g pa pc, v = .slice (some ⟨g, 0, none⟩) 1 1 ∧ PrN lo x.ws (.slice pa x.ws.length pc) w ∧ ∀ j u, (txF (x, .slice pa x.ws.length pc))[j]? = some u → w.cell? ((⟨g, 0, none⟩ : Addr).add j) = some u
theorem RowN.kept {lo : Nat} {x : Txp} {v : Value} {w w' : World} (hk : Kept [] w w') (h : RowN lo x v w) : RowN lo x v w' := by
  obtain ⟨g, pa, pc, h1, h2, h3⟩ := h
  refine ⟨g, pa, pc, h1, h2.kept hk, fun j u hu => ?_⟩
  have := h3 j u hu
  have e : (⟨g, 0, none⟩ : Addr).add j = ⟨g, j, none⟩ := by unfold Addr.add; split <;> simp_all
  rw [e] at this ⊢
  exact hk.cell this (by simp)
theorem two_kept {w w' : World} {t : TypeId} {x y : Value} (hk : Kept [] (w.alloc (.cells #[x, y] t)) w') : w'.heap[w.heap.size]? = some (.cells #[x, y] t (0, 0)) :=
  (hk.block w.heap.size (by simp) (by simp)).trans (heap_alloc_new w _)
theorem cell2 {w : World} {B : Nat} {t : TypeId} {x y : Value} (hb : w.heap[B]? = some (.cells #[x, y] t (0, 0))) :
    w.cell? ⟨B, 0, none⟩ = some x ∧ w.cell? ⟨B, 1, none⟩ = some y ∧ w.frozen? ⟨B, 0, none⟩ = false ∧ w.frozen? ⟨B, 1, none⟩ = false := by
  refine ⟨?_, ?_, ?_, ?_⟩ <;> simp [World.cell?, World.frozen?, hb]
theorem set2 {w : World} {B : Nat} {t : TypeId} {fr : Nat × Nat} {x y : Value} (hb : w.heap[B]? = some (.cells #[x, y] t fr)) (x' y' : Value) :
    ((w.setCell ⟨B, 0, none⟩ x').setCell ⟨B, 1, none⟩ y').heap[B]? = some (.cells #[x', y'] t fr) := by
  simp [World.setCell, Array.getElem?_modify, hb]
def RowP (ops : Array Oper) (Rp : Nat → Value → Prop) (j : Nat) (a : Act) : Prop := ∀ o t, ops[j]? = some o → o.dst = some t → ∃ v, a.tmps[t]? = some v ∧ Rp j v
def midB (ops : Array Oper) (z : Nat) (late : Nat → Bool) : Bool := (List.range ops.size).all fun i => i == z || late i || (List.range ops.size).any fun j => !late j && decide (i < j) && decide (j ≤ z) && Region.waitsFor .any ops j i
structure ClosedR (ops : Array Oper) (listed : Array Bool) : Prop where
  closed : ∀ j oj, ops[j]? = some oj → listed.getD j false = true → ∀ e ∈ oj.after, Region.binds .any e = true → listed.getD e.on false = true
section
variable {P : Program} {ops : Array Oper} {Q : Exit → Act → World → Prop} {a0 : Act}
theorem ClosedR.set {listed : Array Bool} (H : ClosedR ops listed) {i : Nat} (hi : i ∈ Region.ready .any ops listed) : ClosedR ops (listed.setIfInBounds i true) := by
  obtain ⟨_, oi, hoi, hall⟩ := mem_ready.1 hi
  refine ⟨fun j oj hj hl e he hb => ?_⟩
  by_cases hij : i = j
  · subst hij
    have : oj = oi := Option.some.inj (hj.symm.trans hoi)
    subst this
    exact getD_set_true (hall e he hb)
  · rw [getD_set_ne false hij] at hl
    exact getD_set_true (H.closed j oj hj hl e he hb)
theorem mid_all {z : Nat} {late : Nat → Bool} (hm : midB ops z late = true) {listed : Array Bool} (hs : listed.size = ops.size) (H : ClosedR ops listed) (hz : z ∈ Region.ready .any ops listed) :
    ∀ (d i : Nat), ops.size - i = d → i < ops.size → i ≠ z → late i = false → listed.getD i false = true := by
  obtain ⟨_, oz, hoz, hall⟩ := mem_ready.1 hz
  intro d
  induction d using Nat.strongRecOn with
  | _ d ih =>
    intro i hd hi hne hl
    have h1 := List.all_eq_true.1 hm i (List.mem_range.2 hi)
    simp only [hl, Bool.or_false, Bool.or_eq_true, beq_iff_eq, hne, false_or] at h1
    obtain ⟨j, hj, hj2⟩ := List.any_eq_true.1 h1
    simp only [Bool.and_eq_true, decide_eq_true_eq, Bool.not_eq_true'] at hj2
    obtain ⟨⟨⟨hjl, hij⟩, hjz⟩, hw⟩ := hj2
    obtain ⟨oj, hoj, e, he, hb, hon⟩ := Region.waitsFor_spec hw
    have hjs : j < ops.size := List.mem_range.1 hj
    by_cases e2 : j = z
    · subst e2
      have : oj = oz := Option.some.inj (hoj.symm.trans hoz)
      subst this
      have := hall e he hb
      rwa [hon] at this
    · have := ih (ops.size - j) (by omega) j rfl hjs e2 hjl
      have h3 := H.closed j oj hoj this e he hb
      rwa [hon] at h3
structure InvZ (ops : Array Oper) (a0 : Act) (z : Nat) (R : Nat → Value → World → Prop) (C : World → Prop) (Rp : Nat → Value → Prop) (C2 : Act → World → Prop) (listed : Array Bool) (a : Act) (w : World) : Prop where
  sz : listed.size = ops.size
  old : OldR ops a0 a
  cl : ClosedR ops listed
  one : listed.getD z false = false → C w ∧ ∀ i, listed.getD i false = true → RowAt ops R i a w
  two : listed.getD z false = true → C2 a w ∧ ∀ i, listed.getD i false = true → i ≠ z → RowP ops Rp i a
theorem put_old {o : Oper} {i : Nat} {a : Act} (ho : ops[i]? = some o) (H : OldR ops a0 a) (v : Value) : OldR ops a0 (a.put o.dst v) := by
  refine ⟨?_, ?_, fun t ht => ?_⟩
  · rw [← H.tz]; unfold Act.put; split <;> simp
  · rw [← H.df]; unfold Act.put; split <;> rfl
  · rw [← H.old t ht]
    unfold Act.put
    split
    · rename_i d hd
      have : d ≠ t := fun e => ht i o ho (by rw [hd, e])
      simp [Array.getElem?_setIfInBounds, this]
    · rfl
theorem put_ne {o : Oper} {i j t' : Nat} {o' : Oper} {a : Act} (ho : ops[i]? = some o) (ho' : ops[j]? = some o') (ht' : o'.dst = some t') (hji : ¬ j = i) (hdst : dstB ops a0.tmps.size = true) (v : Value) : (a.put o.dst v).tmps[t']? = a.tmps[t']? := by
  unfold Act.put
  split
  · rename_i d hd
    have : d ≠ t' := fun e => hji (dstB_ne hdst ho' ho ht' (by rw [hd, e]))
    simp [Array.getElem?_setIfInBounds, this]
  · rfl
theorem put_eq {o : Oper} {i t : Nat} {a : Act} (ho : ops[i]? = some o) (ht : o.dst = some t) (H : OldR ops a0 a) (hdst : dstB ops a0.tmps.size = true) (v : Value) : (a.put o.dst v).tmps[t]? = some v := by
  have htl := dstB_lt hdst ho ht
  rw [← H.tz] at htl
  unfold Act.put
  rw [ht]
  simp [htl]
theorem wpAny_rows_mid {R : Nat → Value → World → Prop} {C : World → Prop} {G : World → World → Prop} {Rp : Nat → Value → Prop} {C2 : Act → World → Prop} (z : Nat) (late : Nat → Bool) (hz : z < ops.size) (hlz : late z = false) (hmid : midB ops z late = true)
    (hG : ∀ j v w w', G w w' → R j v w → R j v w') (hrefl : ∀ w, G w w) (hacy : acyB ops = true) (hdst : dstB ops a0.tmps.size = true) (hRp : ∀ j v w, R j v w → Rp j v)
    (hstep : ∀ k o, k ≠ z → ops[k]? = some o → StepR P ops Q a0 R C G k o)
    (hstore : ∀ o a w, ops[z]? = some o → C w → OldR ops a0 a → (∀ i, i < ops.size → i ≠ z → late i = false → RowAt ops R i a w) → o.dst = none ∧ Region.wanted o (yielded ops a.tmps) = true ∧ o.wp P a w (fun a' w' => a' = a ∧ C2 a w') Q)
    (hlate : ∀ k o, late k = true → ops[k]? = some o → ∀ a w, C2 a w → OldR ops a0 a → (∀ e ∈ o.after, Region.binds .any e = true → e.on ≠ z → RowP ops Rp e.on a) →
      if Region.wanted o (yielded ops a.tmps) then o.wp P a w (fun a' w' => ∃ v, a' = a.put o.dst v ∧ Rp k v ∧ w' = w) Q else Rp k undef)
    (hC2 : ∀ k o a w v, late k = true → ops[k]? = some o → C2 a w → C2 (a.put o.dst v) w)
    (hfin : ∀ a w, C2 a w → OldR ops a0 a → (∀ i, i ≠ z → RowP ops Rp i a) → Q .normal a w) :
    ∀ (fuel : Nat) (listed : Array Bool) (a : Act) (w : World), unl ops listed ≤ fuel → InvZ ops a0 z R C Rp C2 listed a w → wpAny P .any ops Q fuel listed a w := by
  have fin : ∀ (listed : Array Bool) (a : Act) (w : World), InvZ ops a0 z R C Rp C2 listed a w → (∀ i, i < ops.size → listed.getD i false = true) → Q .normal a w := fun listed a w H h => by
    obtain ⟨h1, h2⟩ := H.two (h z hz)
    refine hfin a w h1 H.old fun i hne => ?_
    by_cases hi : i < ops.size
    · exact h2 i (h i hi) hne
    · intro o t ho
      exact absurd (Array.getElem?_eq_some_iff.1 ho).1 hi
  intro fuel
  induction fuel with
  | zero =>
    intro listed a w hu H
    have hall := unl_zero H.sz (Nat.le_zero.1 hu)
    refine ⟨?_, fin listed a w H hall⟩
    cases hr : Region.ready .any ops listed with
    | nil => rfl
    | cons x xs =>
      have hx : x ∈ Region.ready .any ops listed := by rw [hr]; simp
      obtain ⟨h1, o, ho, _⟩ := mem_ready.1 hx
      have hlt := (Array.getElem?_eq_some_iff.1 ho).1
      have := hall x hlt
      have hx' : x < listed.size := by rw [H.sz]; exact hlt
      simp [hx'] at h1 this
      rw [h1] at this; cases this
  | succ fuel ih =>
    intro listed a w hu H
    refine ⟨fun hr => fin listed a w H (all_listed H.sz hacy hr), fun i hi => ?_⟩
    obtain ⟨hun, o, ho, hdep⟩ := mem_ready.1 hi
    have hlt := (Array.getElem?_eq_some_iff.1 ho).1
    have hi' : i < listed.size := by rw [H.sz]; exact hlt
    have hli : listed[i] = false := by simpa [hi'] using hun
    have hu' : unl ops (listed.setIfInBounds i true) ≤ fuel := by
      have := countP_lt (p := fun k => !listed.getD k true) (q := fun k => !(listed.setIfInBounds i true).getD k true) (fun x hx => by
        by_cases hxi : x = i
        · subst hxi; simp [hi'] at hx
        · by_cases hxs : x < listed.size
          · simp [hxs, Array.getElem_setIfInBounds, Ne.symm hxi] at hx ⊢; exact hx
          · simp [hxs] at hx) (i := i) (by simp [hi', hli]) (by simp [hi']) (List.mem_range.2 hlt)
      unfold unl at hu ⊢
      omega
    have hset : ∀ j, j ≠ i → (listed.setIfInBounds i true).getD j false = true → listed.getD j false = true := fun j hji hj => by
      by_cases hjs : j < listed.size
      · simp [hjs, Array.getElem_setIfInBounds, Ne.symm hji] at hj ⊢; exact hj
      · simp [hjs] at hj
    unfold wpOp
    simp only [ho]
    by_cases hiz : i = z
    · subst hiz
      have hlz' : listed.getD i false = false := by simp [hi', hli]
      obtain ⟨hC, hrows⟩ := H.one hlz'
      obtain ⟨hd, hw, hwp⟩ := hstore o a w ho hC H.old (fun j hj hne hl => hrows j (mid_all hmid H.sz H.cl hi _ j rfl hj hne hl))
      rw [if_pos hw]
      refine .inl (Oper.wp_mono (fun a' w' h => ?_) hwp)
      obtain ⟨rfl, h2⟩ := h
      refine ih _ _ _ hu' ⟨by simpa using H.sz, H.old, H.cl.set hi, fun h => ?_, fun _ => ⟨h2, fun j hj hne => ?_⟩⟩
      · exfalso; simp [hi'] at h
      · intro o' t' ho' ht'
        obtain ⟨v, hv1, hv2⟩ := hrows j (hset j hne hj) o' t' ho' ht'
        exact ⟨v, hv1, hRp _ _ _ hv2⟩
    · by_cases hzl : listed.getD z false = true
      · obtain ⟨h2, hrp⟩ := H.two hzl
        have hil : late i = true := by
          cases hl : late i with
          | true => rfl
          | false =>
            exfalso
            -- the store waits for all that are not late
            have hcl := H.cl
            have : ∀ (d k : Nat), ops.size - k = d → k < ops.size → k ≠ z → late k = false → listed.getD k false = true := by
              intro d
              induction d using Nat.strongRecOn with
              | _ d ihd =>
                intro k hd hk hne hlk
                have h1 := List.all_eq_true.1 hmid k (List.mem_range.2 hk)
                simp only [hlk, Bool.or_false, Bool.or_eq_true, beq_iff_eq, hne, false_or] at h1
                obtain ⟨j, hj, hj2⟩ := List.any_eq_true.1 h1
                simp only [Bool.and_eq_true, decide_eq_true_eq, Bool.not_eq_true'] at hj2
                obtain ⟨⟨⟨hjl, hij⟩, hjz⟩, hw⟩ := hj2
                obtain ⟨oj, hoj, e, he, hb, hon⟩ := Region.waitsFor_spec hw
                have hjs : j < ops.size := List.mem_range.1 hj
                have hjd : listed.getD j false = true := by
                  by_cases e2 : j = z
                  · rw [e2]; exact hzl
                  · exact ihd (ops.size - j) (by omega) j rfl hjs e2 hjl
                have h3 := hcl.closed j oj hoj hjd e he hb
                rwa [hon] at h3
            have h4 := this _ i rfl hlt hiz hl
            simp [hi', hli] at h4
        have hs := hlate i o hil ho a w h2 H.old (fun e he hb hne => hrp _ (hdep e he hb) hne)
        have next : ∀ v, Rp i v → wpAny P .any ops Q fuel (listed.setIfInBounds i true) (a.put o.dst v) w := fun v hv => by
          refine ih _ _ _ hu' ⟨by simpa using H.sz, put_old ho H.old v, H.cl.set hi, fun h => ?_, fun _ => ⟨hC2 i o a w v hil ho h2, fun j hj hne => ?_⟩⟩
          · rw [getD_set_ne false hiz, hzl] at h; cases h
          · intro o' t' ho' ht'
            by_cases hji : j = i
            · subst hji
              rw [ho] at ho'
              cases ho'
              exact ⟨v, put_eq ho ht' H.old hdst v, hv⟩
            · obtain ⟨u, hu1, hu2⟩ := hrp j (hset j hji hj) hne o' t' ho' ht'
              exact ⟨u, by rw [put_ne ho ho' ht' hji hdst v]; exact hu1, hu2⟩
        split
        · rename_i hw
          rw [if_pos hw] at hs
          refine .inl (Oper.wp_mono (fun a' w' h => ?_) hs)
          obtain ⟨v, rfl, h1, rfl⟩ := h
          exact next v h1
        · rename_i hw
          rw [if_neg hw] at hs
          exact next undef hs
      · have hzl' : listed.getD z false = false := by simpa using hzl
        obtain ⟨hC, hrows⟩ := H.one hzl'
        have hs := hstep i o hiz ho a w hC H.old (fun e he hb => hrows _ (hdep e he hb))
        have next : ∀ (v : Value) (w' : World), R i v w' → C w' → G w w' → wpAny P .any ops Q fuel (listed.setIfInBounds i true) (a.put o.dst v) w' := fun v w' hR hC' hg => by
          refine ih _ _ _ hu' ⟨by simpa using H.sz, put_old ho H.old v, H.cl.set hi, fun _ => ⟨hC', fun j hj => ?_⟩, fun h => ?_⟩
          · intro o' t' ho' ht'
            by_cases hji : j = i
            · subst hji
              rw [ho] at ho'
              cases ho'
              exact ⟨v, put_eq ho ht' H.old hdst v, hR⟩
            · obtain ⟨u, hu1, hu2⟩ := hrows j (hset j hji hj) o' t' ho' ht'
              exact ⟨u, by rw [put_ne ho ho' ht' hji hdst v]; exact hu1, hG j u w w' hg hu2⟩
          · rw [getD_set_ne false hiz, hzl'] at h; cases h
        split
        · rename_i hw
          rw [if_pos hw] at hs
          refine .inl (Oper.wp_mono (fun a' w' h => ?_) hs)
          obtain ⟨v, rfl, h1, h2, h3⟩ := h
          exact next v w' h1 h2 h3
        · rename_i hw
          rw [if_neg hw] at hs
          exact next undef w hs hC (hrefl w)
end
def pureDen (l : List Yield) (k : Nat) (v : Value) : Prop := match l[k]? with
  | some (.eq u) => v = u
  | _ => True
theorem pureDen_of (l : List Yield) (j : Nat) (v : Value) (w : World) (h : yieldDen l j v w) : pureDen l j v := by
  unfold yieldDen at h
  unfold pureDen
  cases hl : l[j]? with
  | none => trivial
  | some p =>
    rw [hl] at h
    cases p with
    | eq u => exact h
    | is p hp => trivial
def tzB (l : List Oper) (lt : List Nat) (tz : Nat) : Bool := (List.range l.length).all fun i => !lt.contains i || match l[i]? with
  | none => true
  | some o => match o.dst with
    | none => true
    | some t => !(Nat.beq t tz)
theorem wp_region_rows_mid {P : Program} {Q : Exit → Act → World → Prop} {id : Nat} {l : List Oper} {a : Act} {w : World} (z tz : Nat) (lt : List Nat) (Y : List Yield) (C : World → Prop) (K : Value → World → Prop) (hm : P.follows .mixedOrders = true)
    (hacy : acyB l.toArray = true) (hdst : dstB l.toArray a.tmps.size = true) (hz : Nat.blt z l.length = true) (hlz : lt.contains z = false) (hmid : midB l.toArray z (fun i => lt.contains i) = true) (htz : tzB l lt tz = true) (hC : C w.drew)
    (hstep : AllFrom (fun k o => k ≠ z → StepR P l.toArray Q a (yieldDen Y) C (Kept []) k o) 0 l)
    (hstore : ∀ o a' w', l[z]? = some o → C w' → OldR l.toArray a a' → (∀ i, i < l.length → i ≠ z → lt.contains i = false → RowAt l.toArray (yieldDen Y) i a' w') → o.dst = none ∧ Region.wanted o (yielded l.toArray a'.tmps) = true ∧ o.wp P a' w' (fun a'' w'' => a'' = a' ∧ ∃ v, a'.tmps[tz]? = some v ∧ K v w'') Q)
    (hlate : AllFrom (fun k o => lt.contains k = true → ∀ a' w', OldR l.toArray a a' → (∀ e ∈ o.after, Region.binds .any e = true → e.on ≠ z → RowP l.toArray (pureDen Y) e.on a') →
      if Region.wanted o (yielded l.toArray a'.tmps) then o.wp P a' w' (fun a'' w'' => ∃ v, a'' = a'.put o.dst v ∧ pureDen Y k v ∧ w'' = w') Q else pureDen Y k undef) 0 l)
    (hfin : ∀ a' w' v, a'.tmps[tz]? = some v → K v w' → OldR l.toArray a a' → (∀ i, i ≠ z → RowP l.toArray (pureDen Y) i a') → Q .normal a' w') : (Code.region id l.toArray true).wp P Q a w := by
  rw [Nat.blt_eq] at hz
  refine wp_region_any hm ?_
  refine wpAny_rows_mid (a0 := a) (R := yieldDen Y) (C := C) (G := Kept []) (Rp := pureDen Y) (C2 := fun a' w' => ∃ v, a'.tmps[tz]? = some v ∧ K v w') z (fun i => lt.contains i) (by simpa using hz) hlz hmid
    (fun j v w w' h h' => yieldDen_kept _ j v w w' h h') (fun w => Kept.refl [] w) hacy hdst (pureDen_of Y) (fun k o hk ho => by have := hstep.get k o (by simpa using ho); simp at this; exact this hk)
    (fun o a' w' ho hc hO hr => hstore o a' w' (by simpa using ho) hc hO (fun i hi => hr i (by simpa using hi)))
    (fun k o hk ho a' w' _ hO hr => by have := hlate.get k o (by simpa using ho); simp only [Nat.zero_add] at this; exact this hk a' w' hO hr)
    (fun k o a' w' v hk ho ⟨u, h1, h2⟩ => ⟨u, ?_, h2⟩) (fun a' w' ⟨v, h1, h2⟩ hO hr => hfin a' w' v h1 h2 hO hr) _ _ _ _ ?_ ⟨by simp, ⟨rfl, rfl, fun _ _ => rfl⟩, ⟨fun j oj _ hl => (by rw [getD_replicate_false] at hl; cases hl)⟩, fun _ => ⟨hC, fun i hi => ?_⟩, fun h => ?_⟩
  · rw [← h1]
    unfold Act.put
    split
    · rename_i d hd
      have hk' : k < l.length := by simpa using (Array.getElem?_eq_some_iff.1 ho).1
      have h3 := List.all_eq_true.1 htz k (List.mem_range.2 hk')
      have ho' : l[k]? = some o := by simpa using ho
      rw [ho', hk] at h3
      simp only [Bool.not_true, Bool.false_or, hd] at h3
      have : d ≠ tz := fun e => by subst e; simp at h3
      simp [Array.getElem?_setIfInBounds, this]
    · rfl
  · unfold unl
    have := List.countP_le_length (p := fun i => !(Array.replicate l.toArray.size false).getD i true) (l := List.range l.toArray.size)
    simpa using this
  · rw [getD_replicate_false] at hi; cases hi
  · rw [getD_replicate_false] at h; cases h
theorem pure_late {P : Program} {o : Oper} {a : Act} {w : World} {R : Value → Prop} {Q : Exit → Act → World → Prop} (v : Value) (hR : R v)
    (h : o.wp P a w (fun a' w' => a' = a.put o.dst v ∧ w' = w) Q) : o.wp P a w (fun a' w' => ∃ v, a' = a.put o.dst v ∧ R v ∧ w' = w) Q :=
  Oper.wp_mono (fun a' w' ⟨h1, h2⟩ => ⟨v, h1, hR, h2⟩) h
section
variable {P : Program} {w : World} {o : Oper} {a : Act} {K : Act → World → Prop} {Q : Exit → Act → World → Prop}
theorem wp_append_is (s x : Operand) (t : TypeId)
    (ho : o.op = .call { callee := .builtin .append, args := #[s, x], argTypes := #[t, t] })
    (e : TypeId) (z : Value) (size bytes : Nat) (ht : P.underlying t = some (.slice e)) (hi : (P.info? e).map (fun i => (i.zero, i.size, i.bytes)) = some (some z, size, bytes))
    (hzs : z.cells.size = size) (hsz : 0 < size) (hby : 0 < bytes) (base : Nat)
    (v : Value) (n : Nat) (xs : List Value) (hs : a.eval s = v) (hown : w.ownsRow base e size v n xs)
    (ad : Addr) (m c : Nat) (news : List Value) (hx : a.eval x = .slice (some ad) m c) (hl : news.length = m * size) (hnews : ∀ j u, news[j]? = some u → w.cell? (ad.add j) = some u) (h1 : ∀ u ∈ news, u.oneCell' = true)
    (hbytes : (n + m) * bytes ≤ 140737488355328) (hbase : base ≤ w.heap.size)
    (h : ∀ v' w', w'.ownsRow base e size v' (n + m) (xs ++ news) → w.grownBy w' v.ownBlock → (v' = .slice none 0 0 ↔ v = .slice none 0 0 ∧ m = 0) → K (a.put o.dst v') w') : o.wp P a w K Q := by
  obtain ⟨i, hi, hz0, hz1, hz2⟩ := info_parts hi
  have h63 : n + m ≤ maxLen := by
    have := Nat.le_mul_of_pos_right (n + m) hby
    unfold maxLen; omega
  exact wp_append_own w s x t ho base e i z size bytes ht hi hz0 hz1 hz2 hzs hsz v n xs hs hown ad m c news hx hl hnews h1 h63 hbytes hbase h
end
def Rc.v (r : Rc) : Value := .agg #[.int .i64 r.kind, .int .i64 r.tx, .int .u16 (r.mask : Int), .int .u8 (r.key.a.toNat : Int), .int .u8 (r.key.b.toNat : Int), .int .u8 (r.key.c.toNat : Int), .int .u8 (r.key.d.toNat : Int), .bool r.old.there, .int .i64 r.old.n, .bool r.new.there, .int .i64 r.new.n]
theorem rec_cells {w : World} {l : List Rc} {b off k : Nat} (h : ∀ j u, (l.flatMap Rc.f)[j]? = some u → w.cell? ⟨b, off + j, none⟩ = some u) (hk : k < l.length) :
    w.cell? ⟨b, off + k * 11, none⟩ = some (.int .i64 l[k].kind) ∧ w.cell? ⟨b, off + k * 11 + 1, none⟩ = some (.int .i64 l[k].tx) ∧ w.cell? ⟨b, off + k * 11 + 2, none⟩ = some (.int .u16 (l[k].mask : Int)) ∧ w.cell? ⟨b, off + k * 11 + 3, none⟩ = some (.int .u8 (l[k].key.a.toNat : Int)) ∧ w.cell? ⟨b, off + k * 11 + 4, none⟩ = some (.int .u8 (l[k].key.b.toNat : Int)) ∧ w.cell? ⟨b, off + k * 11 + 5, none⟩ = some (.int .u8 (l[k].key.c.toNat : Int)) ∧ w.cell? ⟨b, off + k * 11 + 6, none⟩ = some (.int .u8 (l[k].key.d.toNat : Int)) ∧ w.cell? ⟨b, off + k * 11 + 7, none⟩ = some (.bool l[k].old.there) ∧ w.cell? ⟨b, off + k * 11 + 8, none⟩ = some (.int .i64 l[k].old.n) ∧ w.cell? ⟨b, off + k * 11 + 9, none⟩ = some (.bool l[k].new.there) ∧ w.cell? ⟨b, off + k * 11 + 10, none⟩ = some (.int .i64 l[k].new.n) := by
  have key : ∀ j u, j < 11 → (l[k].f)[j]? = some u → w.cell? ⟨b, off + (k * 11 + j), none⟩ = some u := fun j u hj hu =>
    h _ u (by rw [flatMap_get Rc.f (c := 11) (fun _ => rfl) l k j l[k] (by simp [hk]) hj]; exact hu)
  exact ⟨key 0 _ (by omega) rfl, key 1 _ (by omega) rfl, key 2 _ (by omega) rfl, key 3 _ (by omega) rfl, key 4 _ (by omega) rfl, key 5 _ (by omega) rfl, key 6 _ (by omega) rfl, key 7 _ (by omega) rfl, key 8 _ (by omega) rfl, key 9 _ (by omega) rfl, key 10 _ (by omega) rfl⟩
--@@ api.Rec
set_option maxHeartbeats 2000000 in
theorem eq_rec (w : World) (d : Nat) (x y : Rc) : (Op.equalIn (d + 3) 65 x.v y.v).run Tryz.prog w = .ok (decide (x = y)) w := by
  have hS : Tryz.prog.underlying 65 = some (.struct (Tryz.prog.fieldsOf 65)) := by kernel_rfl
  have hp : Tryz.prog.stoodInHeld 65 = false := by kernel_rfl
  obtain ⟨a, b, c, k, ⟨o1, o2⟩, ⟨n1, n2⟩⟩ := x
  obtain ⟨a', b', c', k', ⟨o1', o2'⟩, ⟨n1', n2'⟩⟩ := y
  simp only [Rc.v]
  rw [run_equalIn_agg w (d + 2) _ _ _ hS hp]
  simp only [Program.fieldsOf, Tryz.underlying65, Op.eqFields]
  have e1 := fun w d => eq_key w d k k'
  simp only [K4.v] at e1
  generalize hk : decide (k = k') = rk at e1
  have hr : decide ((⟨a, b, c, k, ⟨o1, o2⟩, ⟨n1, n2⟩⟩ : Rc) = ⟨a', b', c', k', ⟨o1', o2'⟩, ⟨n1', n2'⟩⟩) = (decide (a = a') && (decide (b = b') && (decide (c = c') && (rk && ((decide (o1 = o1') && decide (o2 = o2')) && (decide (n1 = n1') && decide (n2 = n2'))))))) := by
    subst hk
    rw [Bool.eq_iff_iff]
    simp [Rc.mk.injEq, V.mk.injEq, and_assoc]
  rw [hr]
  clear hr hk
  cases rk
  · go_simp
  · go_simp
    by_cases h1 : a = a' <;> by_cases h2 : b = b' <;> by_cases h3 : c = c' <;> by_cases h4 : o1 = o1' <;> by_cases h5 : o2 = o2' <;> by_cases h6 : n1 = n1' <;> by_cases h7 : n2 = n2' <;> simp [h1, h2, h3, h4, h5, h6, h7] <;> omega
theorem eqR (w : World) (x y : Rc) : (binOp .eql 65 x.v y.v).run Tryz.prog w = .ok (.bool (decide (x = y))) w := by
  rw [Rc.v, Rc.v, run_eql_struct, ← Rc.v, ← Rc.v, show (10000 : Nat) = 9997 + 3 from rfl, eq_rec]; rfl
theorem neR (w : World) (x y : Rc) : (binOp .neq 65 x.v y.v).run Tryz.prog w = .ok (.bool (!decide (x = y))) w := by
  rw [Rc.v, Rc.v, run_neq_struct, ← Rc.v, ← Rc.v, show (10000 : Nat) = 9997 + 3 from rfl, eq_rec]; rfl
--@@ end
end Go.Proofs.YtpfgpbafechncaaGreat
namespace Go.Proofs.YtpfgpbafechncaaGreat
open Go.RowKit Go.Proofs
theorem run_append_nil_any {P : Program} {w : World} {size : Nat} (base : Nat) (t ty e : TypeId) (i : TypeInfo) (ht : P.underlying t = some (.slice e)) (hi : P.info? e = some i)
    (v : Value) (n c : Nat) (xs : List Value) (hown : w.ownsRow base e size v n xs) :
    (Builtin.append_ #[t, t] ty #[v, .slice none 0 c]).run P w = .ok v w := by
  rcases hown.2 with ⟨rfl, rfl⟩ | ⟨g, cap, cur, rfl, _, _, hnc, _⟩
  · simp [Builtin.append_, run_underlying ht, sizeOf, typeInfo, hi, Builtin.lenOf, Builtin.firstCells]
  · simp [Builtin.append_, run_underlying ht, sizeOf, typeInfo, hi, Builtin.lenOf, Builtin.firstCells, hnc, storeCells]
section
variable {P : Program} {w : World} {o : Oper} {a : Act} {K : Act → World → Prop} {Q : Exit → Act → World → Prop}
theorem wp_append_sl (s x : Operand) (t : TypeId)
    (ho : o.op = .call { callee := .builtin .append, args := #[s, x], argTypes := #[t, t] })
    (e : TypeId) (z : Value) (size bytes : Nat) (ht : P.underlying t = some (.slice e)) (hi : (P.info? e).map (fun i => (i.zero, i.size, i.bytes)) = some (some z, size, bytes))
    (hzs : z.cells.size = size) (hsz : 0 < size) (hby : 0 < bytes) (base : Nat)
    (v : Value) (n : Nat) (xs : List Value) (hs : a.eval s = v) (hown : w.ownsRow base e size v n xs)
    (vx : Value) (m : Nat) (news : List Value) (hx : a.eval x = vx) (hp : SlAt w vx size m news) (h1 : ∀ u ∈ news, u.oneCell' = true)
    (hbytes : (n + m) * bytes ≤ 140737488355328) (hbase : base ≤ w.heap.size)
    (h : ∀ v' w', w'.ownsRow base e size v' (n + m) (xs ++ news) → w.grownBy w' v.ownBlock → (v ≠ .slice none 0 0 → v' ≠ .slice none 0 0) → K (a.put o.dst v') w') : o.wp P a w K Q := by
  obtain ⟨ax, c, rfl, hm, hl, h3⟩ := hp.ex
  cases ax with
  | none =>
    have hm0 : m = 0 := by
      rcases Nat.eq_zero_or_pos m with h0 | h0
      · exact h0
      · obtain ⟨b, off, e, _⟩ := h3 h0; cases e
    subst hm0
    have hn0 : news = [] := List.eq_nil_of_length_eq_zero (by simpa using hl)
    subst hn0
    obtain ⟨i, hi, hz0, hz1, hz2⟩ := info_parts hi
    have hr := run_append_nil_any (P := P) (w := w) base t o.type e i ht hi v n c xs hown
    unfold Oper.wp execOp
    simp only [ho, resolve, invoke, builtin, Sem.run_bind, Sem.run_pure, Result.andThen_ok, List.map_toArray, List.map_cons, List.map_nil, hs, hx, hr]
    exact h v w (by simpa using hown) (World.grownBy.refl _ _) id
  | some ad =>
    refine wp_append_is s x t ho e z size bytes ht hi hzs hsz hby base v n xs hs hown ad m c news hx hl ?_ h1 hbytes hbase (fun v' w' g1 g2 g3 => h v' w' g1 g2 (fun hne e => hne (g3.1 e).1))
    intro j u hj
    have hpos : 0 < m := by
      rcases Nat.eq_zero_or_pos m with h0 | h0
      · subst h0
        have : news = [] := List.eq_nil_of_length_eq_zero (by simpa using hl)
        subst this
        simp at hj
      · exact h0
    obtain ⟨b, off, e, _, hcs⟩ := h3 hpos
    cases e
    rw [Addr.add_lit]
    exact hcs j u hj
theorem wpList_append_sl {ops : Array Oper} {rest : List Oper} {Q : Exit → Act → World → Prop} (hgd : o.guard = none) (s x : Operand) (t : TypeId)
    (ho : o.op = .call { callee := .builtin .append, args := #[s, x], argTypes := #[t, t] })
    (e : TypeId) (z : Value) (size bytes : Nat) (ht : P.underlying t = some (.slice e)) (hi : (P.info? e).map (fun i => (i.zero, i.size, i.bytes)) = some (some z, size, bytes))
    (hzs : z.cells.size = size) (hsz : 0 < size) (hby : 0 < bytes) (base : Nat)
    (v : Value) (n : Nat) (xs : List Value) (hs : a.eval s = v) (hown : w.ownsRow base e size v n xs)
    (vx : Value) (m : Nat) (news : List Value) (hx : a.eval x = vx) (hp : SlAt w vx size m news) (h1 : ∀ u ∈ news, u.oneCell' = true)
    (hbytes : (n + m) * bytes ≤ 140737488355328) (hbase : base ≤ w.heap.size)
    (h : ∀ v' w', w'.ownsRow base e size v' (n + m) (xs ++ news) → w.grownBy w' v.ownBlock → (v ≠ .slice none 0 0 → v' ≠ .slice none 0 0) → wpList P ops Q rest (a.put o.dst v') w') : wpList P ops Q (o :: rest) a w :=
  wpList_plain hgd fun _ hK => wp_append_sl s x t ho e z size bytes ht hi hzs hsz hby base v n xs hs hown vx m news hx hp h1 hbytes hbase fun v' w' h2 h3 h4 => hK _ _ (h v' w' h2 h3 h4)
end
theorem SlAt.new (w : World) (l : List Value) (t : TypeId) (size n : Nat) (hm : n ≤ maxLen) (hl : l.length = n * size) : SlAt (w.alloc (.cells l.toArray t)) (.slice (some ⟨w.heap.size, 0, none⟩) n n) size n l :=
  SlAt.of_own (ownsRow_new w l t size n 0 (by omega) hm hl)
theorem rcF_one (l : List Rc) : ∀ u ∈ l.flatMap Rc.f, u.oneCell' = true := fun u hu => by
  obtain ⟨r, _, hr⟩ := List.mem_flatMap.1 hu
  simp only [Rc.f, List.mem_cons, List.not_mem_nil, or_false] at hr
  rcases hr with rfl | rfl | rfl | rfl | rfl | rfl | rfl | rfl | rfl | rfl | rfl <;> rfl
theorem rcF_one1 (r : Rc) : ∀ u ∈ r.f, u.oneCell' = true := fun u hu => rcF_one [r] u (by simpa using hu)
--@@ []api.Rec
theorem recInfoR : (Tryz.prog.info? 65).map (fun i => (i.zero, i.size, i.bytes)) = some (some (.agg #[.int .i64 0, .int .i64 0, .int .u16 0, .int .u8 0, .int .u8 0, .int .u8 0, .int .u8 0, .bool false, .int .i64 0, .bool false, .int .i64 0]), 11, 56) := by kernel_rfl
section
variable {w : World} {o : Oper} {a : Act} {K : Act → World → Prop} {Q : Exit → Act → World → Prop}
theorem wp_append_rc (s x : Operand)
    (ho : o.op = .call { callee := .builtin .append, args := #[s, x], argTypes := #[61, 61] })
    (base : Nat) (v : Value) (xs : List Rc) (hs : a.eval s = v) (hown : w.ownsRow base 65 11 v xs.length (xs.flatMap Rc.f))
    (vx : Value) (ns : List Rc) (hx : a.eval x = vx) (hp : SlAt w vx 11 ns.length (ns.flatMap Rc.f))
    (hlen : xs.length + ns.length ≤ 1000000) (hbase : base ≤ w.heap.size)
    (h : ∀ v' w', w'.ownsRow base 65 11 v' (xs ++ ns).length ((xs ++ ns).flatMap Rc.f) → w.grownBy w' v.ownBlock → (v ≠ .slice none 0 0 → v' ≠ .slice none 0 0) → K (a.put o.dst v') w') : o.wp Tryz.prog a w K Q :=
  wp_append_sl s x 61 ho 65 _ 11 56 Tryz.underlying61 recInfoR rfl (by decide) (by decide) base v xs.length _ hs hown vx ns.length _ hx hp (rcF_one ns) (by omega) hbase fun v' w' h1 h2 h3 => h v' w' (by rw [List.flatMap_append, List.length_append]; exact h1) h2 h3
theorem wpList_append_rc {ops : Array Oper} {rest : List Oper} (hgd : o.guard = none) (s x : Operand)
    (ho : o.op = .call { callee := .builtin .append, args := #[s, x], argTypes := #[61, 61] })
    (base : Nat) (v : Value) (xs : List Rc) (hs : a.eval s = v) (hown : w.ownsRow base 65 11 v xs.length (xs.flatMap Rc.f))
    (vx : Value) (ns : List Rc) (hx : a.eval x = vx) (hp : SlAt w vx 11 ns.length (ns.flatMap Rc.f))
    (hlen : xs.length + ns.length ≤ 1000000) (hbase : base ≤ w.heap.size)
    (h : ∀ v' w', w'.ownsRow base 65 11 v' (xs ++ ns).length ((xs ++ ns).flatMap Rc.f) → w.grownBy w' v.ownBlock → (v ≠ .slice none 0 0 → v' ≠ .slice none 0 0) → wpList Tryz.prog ops Q rest (a.put o.dst v') w') : wpList Tryz.prog ops Q (o :: rest) a w :=
  wpList_plain hgd fun _ hK => wp_append_rc s x ho base v xs hs hown vx ns hx hp hlen hbase fun v' w' h2 h3 h4 => hK _ _ (h v' w' h2 h3 h4)
theorem SlAt.rec1 (w : World) (r : Rc) : SlAt (w.alloc (.cells r.f.toArray 65)) (.slice (some ⟨w.heap.size, 0, none⟩) 1 1) 11 [r].length ([r].flatMap Rc.f) := by
  have := SlAt.new w r.f 65 11 1 (by decide) rfl
  simpa using this
theorem recs_made0 (w : World) (base : Nat) (hb : base ≤ w.heap.size) : (w.alloc (.cells #[] 65)).ownsRow base 65 11 (.slice (some ⟨w.heap.size, 0, none⟩) 0 0) ([] : List Rc).length (([] : List Rc).flatMap Rc.f) := ownsRow_made0 w 65 11 base hb
end
--@@ end
end Go.Proofs.YtpfgpbafechncaaGreat
namespace Go.Proofs.YtpfgpbafechncaaGreat
open Go.RowKit
section
variable {α : Type} [DecidableEq α] {P : Program} {w : World} {b : Nat} {ek : α → Value} {l : List (α × Value)} {t kt et : TypeId}
structure EntryAt (w : World) (b : Nat) (ek : α → Value) (x : α) (st : Nat) (l : List (α × Value)) : Prop where
  mk' ::
  ex : ∃ es clock, w.heap[b]? = some (.map es clock) ∧ es.toList.map (fun e => (e.key, e.val)) = l.map (fun p => (ek p.1, p.2)) ∧ es.toList.Pairwise (fun x y => x.born ≠ y.born) ∧ (∀ e ∈ es.toList, e.born < clock) ∧
    ∃ j u e, afind x l 0 = some (j, u) ∧ es[j]? = some e ∧ e.born = st
theorem EntryAt.map {x : α} {st : Nat} (h : EntryAt w b ek x st l) : MapIs w b ek l := by
  obtain ⟨es, clock, h1, h2, h3, h4, _⟩ := h.ex
  exact ⟨es, clock, h1, h2, h3, h4⟩
theorem EntryAt.kept {w' : World} {x : α} {st : Nat} {S : List Nat} (h : EntryAt w b ek x st l) (hk : Kept S w w') (hb : b ∉ S) : EntryAt w' b ek x st l := by
  have hl := h.map.lt
  obtain ⟨es, clock, h1, h2⟩ := h.ex
  exact ⟨es, clock, (hk.block b hl hb).trans h1, h2⟩
theorem afind_aput_new {x : α} {v : Value} : ∀ {l : List (α × Value)} {i : Nat}, afind x l i = none → afind x (l ++ [(x, v)]) i = some (i + l.length, v)
  | [], i, _ => by simp [afind]
  | p :: r, i, h => by
    unfold afind at h
    split at h
    · cases h
    · rename_i hp
      rw [List.cons_append, afind, if_neg hp, afind_aput_new h]
      simp; omega
theorem afind_aput_old {x : α} {v : Value} : ∀ {l : List (α × Value)} {i j : Nat} {u : Value}, afind x l i = some (j, u) → afind x (aput x v l) i = some (j, v)
  | [], _, _, _, h => by simp [afind] at h
  | p :: r, i, j, u, h => by
    unfold afind at h
    simp only [aput]
    split at h
    · rename_i hp
      cases h
      rw [if_pos hp]
      simp [afind]
    · rename_i hp
      rw [if_neg hp, afind, if_neg hp]
      exact afind_aput_old h
theorem aput_same2 {x : α} {u : Value} : ∀ {l : List (α × Value)} {i j : Nat}, afind x l i = some (j, u) → aput x u l = l
  | [], _, _, h => by simp [afind] at h
  | p :: r, i, j, h => by
    unfold afind at h
    simp only [aput]
    split at h
    · rename_i hp
      cases h
      rw [if_pos hp, ← hp]
    · rename_i hp
      rw [if_neg hp, aput_same2 h]
theorem MapIs.run_entry (h : MapIs w b ek l) (K : KeyOK P kt ek) (ht : P.underlying t = some (.map kt et)) {z : Value} (hz : (zeroValue et).run P w = .ok z w) (x : α) :
    ∃ st w', (Instr.mapEntry t (.map (some b)) (ek x)).run P w = .ok (.tuple #[(aget x l).getD z, goInt (st : Nat)]) w' ∧ EntryAt w' b ek x st (aput x ((aget x l).getD z) l) ∧ Kept [b] w w' ∧ ∀ st' l', EntryAt w b ek x st' l' → st' = st := by
  obtain ⟨es, clock, hb, he, hp, hc⟩ := h.ex
  have hlt := (Array.getElem?_eq_some_iff.1 hb).1
  have hf := K.find w x es.toList l he
  have hl : es.toList.length = l.length := by have := congrArg List.length he; simpa using this
  have huniq : ∀ st' l', EntryAt w b ek x st' l' → ∃ j u e, afind x l 0 = some (j, u) ∧ es[j]? = some e ∧ e.born = st' := fun st' l' h' => by
    obtain ⟨es', clock', hb', he', _, _, j, u, e, h1, h2, h3⟩ := h'.ex
    rw [hb] at hb'
    obtain ⟨rfl, rfl⟩ := Obj.map.inj (Option.some.inj hb')
    have hf' := K.find w x es.toList l' he'
    rw [hf] at hf'
    have e1 : afind x l 0 = afind x l' 0 := by simpa using hf'
    exact ⟨j, u, e, e1.trans h1, h2, h3⟩
  cases hx : afind x l 0 with
  | none =>
    obtain ⟨hg, _, hput⟩ := afind_none hx
    refine ⟨clock, { w with heap := w.heap.setIfInBounds b (.map (es.push { key := ek x, val := z, born := clock }) (clock + 1)) }, ?_, ⟨es.push { key := ek x, val := z, born := clock }, clock + 1, by simp [hlt], ?_, ?_, ?_, ?_⟩, kept_set w b _, fun st' l' h' => by obtain ⟨j, u, e, h1, _⟩ := huniq st' l' h'; rw [hx] at h1; cases h1⟩
    · unfold Instr.mapEntry
      simp only [Sem.run_bind, run_underlying ht, Result.andThen_ok, getObj_map hb, K.check, hf, hx, hz, setObj_map hb, Sem.run_pure, hg, Option.getD_none]
    · rw [hput, hg]; simp [he]
    · simp only [Array.toList_push]
      rw [List.pairwise_append]
      exact ⟨hp, by simp, fun a ha c hc' => by simp at hc'; subst hc'; have := hc a ha; simp; omega⟩
    · intro e hm
      simp only [Array.toList_push, List.mem_append, List.mem_singleton] at hm
      rcases hm with hm | rfl
      · have := hc e hm; omega
      · simp
    · refine ⟨es.size, z, { key := ek x, val := z, born := clock }, ?_, by simp, rfl⟩
      rw [hput, hg, afind_aput_new hx, ← hl]
      simp
  | some r =>
    obtain ⟨j, u⟩ := r
    obtain ⟨k, hj, hk, hg, _, hput⟩ := afind_some hx
    simp only [Nat.zero_add] at hj
    subst hj
    have hke : (es.toList.map fun e => (e.key, e.val))[j]? = some (ek x, u) := by rw [he]; simp [hk]
    have hkl : j < es.size := by
      have := (List.getElem?_eq_some_iff.1 hke).1
      simpa using this
    have hkey : es[j].key = ek x := by
      simp [hkl] at hke
      exact hke.1
    have hsame : (es.modify j fun e => { e with key := ek x }) = es := by
      apply Array.ext (by simp)
      intro i h1 h2
      rw [Array.getElem_modify]
      split
      · rename_i hij
        subst hij
        have hh : ∀ e : MapEntry, e.key = ek x → ({ e with key := ek x } : MapEntry) = e := fun e h => by
          obtain ⟨a1, a2, a3⟩ := e
          simp only at h
          rw [h]
        exact hh _ hkey
      · rfl
    refine ⟨es[j].born, { w with heap := w.heap.setIfInBounds b (.map es clock) }, ?_, ⟨es, clock, by simp [hlt], ?_, hp, hc, j, u, es[j], ?_, by simp [hkl], rfl⟩, kept_set w b _, fun st' l' h' => by
      obtain ⟨j', u', e, h1, h2, h3⟩ := huniq st' l' h'
      rw [hx] at h1
      obtain ⟨rfl, rfl⟩ := Prod.mk.inj (Option.some.inj h1)
      rw [Array.getElem?_eq_getElem hkl] at h2
      rw [← h3, ← Option.some.inj h2]⟩
    · unfold Instr.mapEntry
      simp only [Sem.run_bind, run_underlying ht, Result.andThen_ok, getObj_map hb, K.check, hf, hx]
      simp only [Instr.keyThatStays, hkl, Array.getElem?_eq_getElem, Option.map_some, Option.getD_some, hkey, K.same, if_true, Sem.run_pure, Result.andThen_ok, hsame, setObj_map hb, hg]
    · rw [hg, Option.getD_some, aput_same2 hx, he]
    · rw [hg, Option.getD_some, aput_same2 hx, hx]
theorem EntryAt.run_store {x : α} {st : Nat} (h : EntryAt w b ek x st l) (v : Value) :
    ∃ w', (Instr.entryStore t (.map (some b)) (goInt (st : Nat)) v).run P w = .ok () w' ∧ MapIs w' b ek (aput x v l) ∧ Kept [b] w w' := by
  obtain ⟨es, clock, hb, he, hp, hc, j, u, e0, hx, h5, h6⟩ := h.ex
  have hlt := (Array.getElem?_eq_some_iff.1 hb).1
  obtain ⟨k, hj, hk, hg, _, hput⟩ := afind_some hx
  simp only [Nat.zero_add] at hj
  subst hj
  have hkl := (Array.getElem?_eq_some_iff.1 h5).1
  have hej := (Array.getElem?_eq_some_iff.1 h5).2
  have hfi : es.findIdx? (fun e => ((e.born : Nat) : Int) == ((st : Nat) : Int)) = some j := by
    rw [Array.findIdx?_eq_some_iff_getElem]
    refine ⟨hkl, by simp [hej, h6], fun i hi => ?_⟩
    have hne := List.pairwise_iff_getElem.1 hp i j (by simp; omega) (by simpa using hkl) hi
    simp only [Array.getElem_toList, hej, h6] at hne
    simp
    intro e
    exact hne (by omega)
  refine ⟨{ w with heap := w.heap.setIfInBounds b (.map (es.modify j fun e => { e with val := v }) clock) }, ?_, ⟨es.modify j fun e => { e with val := v }, clock, by simp [hlt], ?_, ?_, ?_⟩, kept_set w b _⟩
  · unfold Instr.entryStore
    simp [Sem.run_bind, Result.andThen_ok, getObj_map hb, asInt, asIntOf, goInt, hfi, setObj_map hb]
  · have hke : (es.toList.map fun e => (e.key, e.val))[j]? = some (ek x, u) := by rw [he]; simp [hk]
    have hkey : es[j].key = ek x := by
      simp [hkl] at hke
      exact hke.1
    rw [hput, List.map_set, ← he]
    refine List.ext_getElem? fun i => ?_
    simp only [Array.toList_modify, List.getElem?_map, List.getElem?_modify, List.getElem?_set, List.length_map, Array.length_toList]
    by_cases hij : j = i
    · subst hij; simp [hkl, hkey]
    · simp [hij]
  · rw [Array.toList_modify]
    have e1 : (es.toList.modify j fun e => { e with val := v }).map (·.born) = es.toList.map (·.born) := by
      refine List.ext_getElem? fun i => ?_
      simp only [List.getElem?_map, List.getElem?_modify]
      by_cases hij : j = i <;> simp [hij]
      cases es[i]? <;> simp
    have e2 : (es.toList.map (·.born)).Pairwise (· ≠ ·) := List.pairwise_map.2 hp
    rw [← e1] at e2
    exact List.pairwise_map.1 e2
  · intro e hm
    rw [Array.toList_modify] at hm
    obtain ⟨i, hi⟩ := List.mem_iff_getElem?.1 hm
    simp only [List.getElem?_modify] at hi
    cases hei : es.toList[i]? with
    | none => simp [hei] at hi
    | some e0 =>
      have h0 := hc e0 (List.mem_iff_getElem?.2 ⟨i, hei⟩)
      rw [hei] at hi
      by_cases hij : j = i <;> simp [hij] at hi <;> subst hi <;> exact h0
end
theorem wanted_not {o : Oper} {y : Nat → Option Bool} {j : Nat} {b c : Bool} (h : o.guard = some (j, b)) (hy : y j = some c) (hne : c ≠ b) : Region.wanted o y = false := by unfold Region.wanted; rw [h]; cases b <;> cases c <;> simp_all
theorem wanted_lost {o : Oper} {y : Nat → Option Bool} {j : Nat} {b : Bool} (h : o.guard = some (j, b)) (hy : y j = none) : Region.wanted o y = false := by unfold Region.wanted; rw [h]; simp [hy]
theorem yielded_undef {ops : Array Oper} {a : Act} {j t : Nat} {o : Oper} (ho : ops[j]? = some o) (ht : o.dst = some t) (he : a.tmps[t]? = some undef) : yielded ops a.tmps j = none := by
  unfold yielded
  rw [ho]
  simp only [Option.bind_some, ht, he]
  rfl
inductive YieldG (G : World → World → Prop) where
  | eq (v : Value)
  | is (p : Value → World → Prop) (hp : ∀ v w w', G w w' → p v w → p v w')
def YieldG.den {G : World → World → Prop} : YieldG G → Value → World → Prop
  | .eq u, v, _ => v = u
  | .is p _, v, w => p v w
def yieldDenG {G : World → World → Prop} (l : List (YieldG G)) (k : Nat) (v : Value) (w : World) : Prop := match l[k]? with
  | some p => p.den v w
  | none => True
theorem yieldDenG_kept {G : World → World → Prop} (l : List (YieldG G)) (k : Nat) (v : Value) (w w' : World) (hk : G w w') (h : yieldDenG l k v w) : yieldDenG l k v w' := by
  unfold yieldDenG at h ⊢
  cases hl : l[k]? with
  | none => trivial
  | some p =>
    rw [hl] at h
    dsimp only at h ⊢
    cases p with
    | eq u => exact h
    | is p hp => exact hp v w w' hk h
def EntD {α : Type} [DecidableEq α] (b : Nat) (ek : α → Value) (x : α) (ks : List α) (w : World) (st : Nat) : Prop := ∃ l, EntryAt w b ek x st l ∧ l.map (·.1) = ks ∧ ∀ p ∈ l, ∃ n, p.2 = .int .i64 n
def EntG {α : Type} [DecidableEq α] (b : Nat) (ek : α → Value) (x : α) (ks : List α) (w w' : World) : Prop := Kept [b] w w' ∧ ∀ st, EntD b ek x ks w st → EntD b ek x ks w' st
theorem EntG.refl {α : Type} [DecidableEq α] {b : Nat} {ek : α → Value} {x : α} {ks : List α} (w : World) : EntG b ek x ks w w := ⟨Kept.refl _ _, fun _ h => h⟩
def CntIs {α : Type} (w : World) (b : Nat) (ek : α → Value) (ks : List α) : Prop := ∃ l, MapIs w b ek l ∧ l.map (·.1) = ks ∧ ∀ p ∈ l, ∃ n, p.2 = .int .i64 n
theorem CntIs.kept {α : Type} {w w' : World} {b : Nat} {ek : α → Value} {ks : List α} {S : List Nat} (h : CntIs w b ek ks) (hk : Kept S w w') (hb : b ∉ S) : CntIs w' b ek ks := by
  obtain ⟨l, h1, h2⟩ := h
  exact ⟨l, h1.kept hk hb, h2⟩
theorem aput_keys {α β : Type} [DecidableEq α] {x : α} {v : β} : ∀ l : List (α × β), (aput x v l).map (·.1) = if x ∈ l.map (·.1) then l.map (·.1) else l.map (·.1) ++ [x]
  | [] => by simp [aput]
  | p :: r => by
    simp only [aput]
    by_cases hp : p.1 = x
    · rw [if_pos hp]; simp [hp]
    · rw [if_neg hp, List.map_cons, aput_keys r]
      by_cases hm : x ∈ r.map (·.1)
      · simp [hm]
      · have : x ∉ p.1 :: r.map (·.1) := by simp only [List.mem_cons, not_or]; exact ⟨fun e => hp e.symm, hm⟩
        rw [if_neg hm, List.map_cons, if_neg this, List.cons_append]
end Go.Proofs.YtpfgpbafechncaaGreat
namespace Go.Proofs.YtpfgpbafechncaaGreat
open Go.RowKit Go.ChangeShapes Go.WideShapes
namespace K4
def ok (k : K4) : Prop := True
def ps : List (Value → Prop) := [IsI .u8, IsI .u8, IsI .u8, IsI .u8]
theorem len (k : K4) : k.f.length = ps.length := rfl
theorem pos : 0 < ps.length := by decide
theorem dec (cs : List Value) (h : All2 ps cs) : ∃ k : K4, cs = k.f ∧ k.ok := by
  obtain ⟨_, _, rfl, ⟨a, rfl, ha⟩, h1⟩ := All2.cons h
  obtain ⟨_, _, rfl, ⟨b, rfl, hb⟩, h2⟩ := All2.cons h1
  obtain ⟨_, _, rfl, ⟨c, rfl, hc⟩, h3⟩ := All2.cons h2
  obtain ⟨_, _, rfl, ⟨d, rfl, hd⟩, h4⟩ := All2.cons h3
  obtain rfl := All2.nil h4
  obtain ⟨a', rfl⟩ := u8_of ha
  obtain ⟨b', rfl⟩ := u8_of hb
  obtain ⟨c', rfl⟩ := u8_of hc
  obtain ⟨d', rfl⟩ := u8_of hd
  exact ⟨⟨a', b', c', d'⟩, rfl, trivial⟩
--@@ key flat
theorem flat : Flat Tryz.prog 33 ps :=
  Flat.array (P := Tryz.prog) (t := 33) (n := 4) Tryz.underlying33 (by kernel_rfl) (Flat.int Tryz.underlying5 (by kernel_rfl))
--@@ key end
end K4
namespace V
def ps : List (Value → Prop) := [IsB, IsI .i64]
--@@ val flat
theorem flat : Flat Tryz.prog 44 ps := by
  have h := Flat.struct (P := Tryz.prog) (t := 44) (pss := [[IsB], [IsI .i64]]) Tryz.underlying44 (by kernel_rfl)
    ⟨rfl, Flat.bool Tryz.underlying4 (by kernel_rfl), rfl, Flat.int Tryz.underlying3 (by kernel_rfl), trivial⟩
  exact h
--@@ val end
end V
namespace Pr
def ok (p : Pr) : Prop := True
def ps : List (Value → Prop) := [IsI .u8, IsI .u8, IsI .u8, IsI .u8, IsB, IsI .i64]
theorem len (p : Pr) : p.f.length = ps.length := rfl
theorem pos : 0 < ps.length := by decide
theorem dec (cs : List Value) (h : All2 ps cs) : ∃ p : Pr, cs = p.f ∧ p.ok := by
  obtain ⟨_, _, rfl, ⟨a, rfl, ha⟩, h1⟩ := All2.cons h
  obtain ⟨_, _, rfl, ⟨b, rfl, hb⟩, h2⟩ := All2.cons h1
  obtain ⟨_, _, rfl, ⟨c, rfl, hc⟩, h3⟩ := All2.cons h2
  obtain ⟨_, _, rfl, ⟨d, rfl, hd⟩, h4⟩ := All2.cons h3
  obtain ⟨_, _, rfl, ⟨t, rfl⟩, h5⟩ := All2.cons h4
  obtain ⟨_, _, rfl, ⟨n, rfl, hn⟩, h6⟩ := All2.cons h5
  obtain rfl := All2.nil h6
  obtain ⟨a', rfl⟩ := u8_of ha
  obtain ⟨b', rfl⟩ := u8_of hb
  obtain ⟨c', rfl⟩ := u8_of hc
  obtain ⟨d', rfl⟩ := u8_of hd
  exact ⟨⟨⟨a', b', c', d'⟩, ⟨t, n⟩⟩, rfl, trivial⟩
--@@ pair flat
theorem flat : Flat Tryz.prog 68 ps := by
  have h := Flat.struct (P := Tryz.prog) (t := 68) (pss := [K4.ps, V.ps]) Tryz.underlying68 (by kernel_rfl)
    ⟨rfl, K4.flat, rfl, V.flat, trivial⟩
  exact h
--@@ pair end
end Pr
end Go.Proofs.YtpfgpbafechncaaGreat
