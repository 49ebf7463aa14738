/- draft.Pairs: the draft's keys and values, sorted by the keys. -/
import Derived.Test.YthidbnjijomlmaaSort
import Derived.Test.YthidbnjijomlmaaRange
set_option linter.all false
namespace Go.Proofs.Ythidbnjijomlmaa
open Go.RowKit Go.Shelf Go.Lib Go.Sort Go.Proofs
set_option linter.unusedVariables false
set_option linter.unusedSimpArgs false

/-- a slice of pairs, as it may be read; its address is a plain one -/
structure PrAt (w : World) (v : Value) (l : List Pr) : Prop where
  at' : SlAt w v 6 l.length (l.flatMap Pr.f)
  sp : ∀ a n c, v = .slice (some a) n c → a.spot = none
  nl : ∀ n c, v = .slice none n c → c = 0
theorem PrAt.kept {w w' : World} {v : Value} {l : List Pr} (h : PrAt w v l) (hk : Kept [] w w') : PrAt w' v l := ⟨h.at'.kept hk, h.sp, h.nl⟩
theorem PrAt.of_own {w : World} {base n : Nat} {e : TypeId} {v : Value} {l : List Pr} (h : w.ownsRow base e 6 v n (l.flatMap Pr.f)) (hn : n = l.length) : PrAt w v l := by
  subst hn
  refine ⟨SlAt.of_own h, fun a n c hv => ?_, fun n c hv => ?_⟩
  · rcases h.2 with ⟨rfl, _⟩ | ⟨g, cap, cur, rfl, _⟩
    · cases hv
    · cases hv; rfl
  · rcases h.2 with ⟨rfl, _⟩ | ⟨g, cap, cur, rfl, _⟩
    · cases hv; rfl
    · cases hv
theorem ownsRow_kept {S : List Nat} {w w' : World} {base n size : Nat} {e : TypeId} {v : Value} {xs : List Value} (h : w.ownsRow base e size v n xs) (hk : Kept S w w') (hS : ∀ x, x ∈ S → x < base) : w'.ownsRow base e size v n xs := by
  refine ⟨h.1, ?_⟩
  rcases h.2 with h1 | ⟨g, cap, cur, rfl, hb, hg, r⟩
  · exact .inl h1
  · exact .inr ⟨g, cap, cur, rfl, hb, (hk.block g (Array.getElem?_eq_some_iff.1 hg).1 (fun hx => by have := hS g hx; omega)).trans hg, r⟩
theorem ownsRow_grown {w w' : World} {base n size : Nat} {e : TypeId} {v : Value} {xs : List Value} (h : w.ownsRow base e size v n xs) (hg : w.grownBy w' v.ownBlock) : ∃ S, Kept S w w' ∧ ∀ x, x ∈ S → base ≤ x :=
  ⟨v.ownBlock.toList, Kept.of_grown hg _ (fun k hk => by simp [hk]), fun x hx => (h.lt x (by simpa using hx)).1⟩
theorem perm_of_map {α β : Type} (f : α → β) : ∀ {a b : List β}, a.Perm b → ∀ t : List α, b = t.map f → ∃ t' : List α, t'.Perm t ∧ a = t'.map f := fun h => by
  induction h with
  | nil => intro t ht; exact ⟨[], by cases t with | nil => exact List.Perm.refl _ | cons x t => simp at ht, rfl⟩
  | cons x _ ih =>
    intro t ht
    cases t with
    | nil => simp at ht
    | cons y t =>
      simp only [List.map_cons, List.cons.injEq] at ht
      obtain ⟨t', h1, h2⟩ := ih t ht.2
      exact ⟨y :: t', h1.cons y, by rw [ht.1, h2]; rfl⟩
  | swap x y l =>
    intro t ht
    cases t with
    | nil => simp at ht
    | cons u t =>
      cases t with
      | nil => simp at ht
      | cons z t =>
        simp only [List.map_cons, List.cons.injEq] at ht
        exact ⟨z :: u :: t, List.Perm.swap _ _ _, by rw [ht.1, ht.2.1, ht.2.2]; rfl⟩
  | trans _ _ ih1 ih2 =>
    intro t ht
    obtain ⟨t2, h1, h2⟩ := ih2 t ht
    obtain ⟨t1, h3, h4⟩ := ih1 t2 h2
    exact ⟨t1, h3.trans h1, h4⟩
theorem dl_perm {todo : List (K4 × V)} {x : K4} {u : Value} {T : List (K4 × Value)} (h : (dl todo).Perm ((x, u) :: T)) : ∃ v t', u = V.v v ∧ T = dl t' ∧ todo.Perm ((x, v) :: t') := by
  obtain ⟨t', h1, h2⟩ := perm_of_map (fun p : K4 × V => (p.1, p.2.v)) h.symm todo rfl
  cases t' with
  | nil => cases h2
  | cons y t' =>
    simp only [List.map_cons, List.cons.injEq, Prod.mk.injEq] at h2
    obtain ⟨⟨rfl, rfl⟩, rfl⟩ := h2
    exact ⟨y.2, t', rfl, rfl, h1.symm⟩
def toPr (p : K4 × V) : Pr := ⟨p.1, p.2⟩
--@@ (*draft.Draft).Pairs
theorem sorted_keysP (ps ls : List Pr) (hp : ps.Perm ls) (hn : (ls.map (·.key)).Nodup) (hs : ps.Pairwise fun x y => x.key.num ≤ y.key.num) : ps = keysP ls := by
  have hn' : (ps.map (·.key)).Nodup := (hp.map _).nodup_iff.2 hn
  refine keysP_of ?_ fun k => ?_
  · have h2 : ps.Pairwise fun x y => x.key ≠ y.key := List.pairwise_map.1 hn'
    exact (hs.and h2).imp fun {a b} h => by
      have : a.key.num ≠ b.key.num := fun e => h.2 (K4.num_inj e)
      show a.key.num < b.key.num
      have := h.1; omega
  · unfold lastP
    exact (perm_getP hp hn' k).trans (perm_getP (List.reverse_perm ls).symm hn k)
set_option maxHeartbeats 1000000 in
set_option maxRecDepth 100000 in
theorem sortFunc_own (v : Value) (base n : Nat) (ps ls : List Pr) (w : World) (hown : w.ownsRow base 54 6 v n (ps.flatMap Pr.f)) (hnl : n = ps.length) (hl : ps.length ≤ 100000) (hp : ps.Perm ls) (hn : (ls.map (·.key)).Nodup) :
    Calls Try.prog 33 #[v, .func (.func 34) #[] #[]] w fun e w' => e = .returned (.tuple #[]) ∧ PrAt w' v (keysP ls) ∧ ∃ S, Kept S w w' ∧ ∀ x, x ∈ S → base ≤ x := by
  have eO : ∀ args w, (callFunc 34 args).run Try.prog w = .ok (.enter 34 args) w := enters_of (Try.func34) (by kernel_rfl) rfl
  subst hnl
  rcases Nat.eq_zero_or_pos ps.length with h0 | hne
  · have hps : ps = [] := List.eq_nil_of_length_eq_zero h0
    subst hps
    have hls : ls = [] := List.eq_nil_of_length_eq_zero hp.length_eq.symm
    subst hls
    have hw := PrAt.of_own hown rfl
    obtain ⟨a, cap, rfl⟩ := ownsRow_slice hown
    refine (AnyF.slices_SortFunc_none Try.laySortPairs a cap _ w).mono ?_
    rintro e w' ⟨rfl, rfl⟩
    exact ⟨rfl, hw, [], Kept.refl _ _, fun x hx => by cases hx⟩
  · have hown' := hown
    rcases hown.2 with ⟨_, hz⟩ | ⟨g, cap, cur, rfl, hb, hg, hle, _⟩
    · omega
    · have hgl := (Array.getElem?_eq_some_iff.1 hg).1
      obtain ⟨d, hd⟩ : ∃ d : Array (Pr × Nat), d = (ps.map fun x => (x, 0)).toArray := ⟨_, rfl⟩
      have hds : d.size = ps.length := by rw [hd]; simp
      have hdl : d.toList.map (·.1) = ps := by rw [hd]; simp [Function.comp_def]
      have hH : HoldsK encT 6 w g 0 d := ownsRow_holds hown rfl d hds (fun x hx => by
        rw [getElem!_pos d x hx, getElem!_pos ps x (by omega)]
        simp [hd])
      have := AnyQ.slices_SortFunc Try.laySortPairs 6 aggP sizP encT encT_len encT_one cfT swoT 34 #[] g 0 cap d w eO (cmpT _ _ _ _) hH hgl (by omega)
      rw [hds] at this
      refine this.mono ?_
      rintro e w' ⟨rfl, d', n, os, hP, hS, rfl⟩
      have hsz : d'.size = d.size := hP.1
      have S1 : SWK encT 6 w g 0 d' (sortWorldK encT 6 w g 0 n d' os) := ⟨n, os, rfl⟩
      have hH' := S1.holds hgl hH hsz
      have hperm : (d'.toList.map (·.1)).Perm ls := by
        have h1 := hP.2.2
        have e1 : d'.extract 0 ps.length = d' := by rw [← hds, ← hsz]; simp
        have e2 : d.extract 0 ps.length = d := by rw [← hds]; simp
        rw [e1, e2] at h1
        have := h1.map (fun x : Pr × Nat => x.1)
        rw [hdl] at this
        exact this.trans hp
      have hkeys : d'.toList.map (·.1) = keysP ls := sorted_keysP _ ls hperm hn (by
        refine List.pairwise_map.2 ?_
        rw [List.pairwise_iff_getElem]
        intro i j hi hj hij
        have := hS i j (Nat.zero_le _) hij (by simpa [hsz, hds] using hj)
        rw [getElem!_pos d' i (by simpa using hi), getElem!_pos d' j (by simpa using hj)] at this
        have h2 : ¬ (d'[j]'(by simpa using hj)).1.key.num < (d'[i]'(by simpa using hi)).1.key.num := fun h => by
          have e := ordK_neg (d'[j]'(by simpa using hj)).1.key (d'[i]'(by simpa using hi)).1.key
          rw [decide_eq_true h] at e
          unfold ltOf cfT at this
          rw [e] at this; cases this
        simpa using h2)
      have hr := holdsK_slAt encT_len hH' (S1.lt hgl) d'.toList cap (by simp) (fun x hx => by rw [getElem!_pos d' x (by simpa using hx), getElem!_pos d'.toList x hx]; simp) (by simp; omega)
      rw [flat_fst, hkeys] at hr
      have hlen : d'.toList.length = (keysP ls).length := by rw [← hkeys]; simp
      refine ⟨rfl, ⟨?_, fun a n c hv => by cases hv; rfl, fun n c hv => by cases hv⟩, [g], swk_kept S1, fun x hx => by simp at hx; omega⟩
      rw [show ps.length = d'.toList.length by simp [hsz, hds]]
      rw [← hlen]
      exact hr
set_option maxHeartbeats 8000000 in
set_option maxRecDepth 100000 in
theorem dpairs_any (a m : Nat) (l : List (K4 × V)) (w : World) (h : DraftIs w a m l) (hn : (l.map (·.1)).Nodup) (hl : l.length ≤ 1000) :
    Calls Try.prog 18 #[.pointer (some ⟨a, 0, none⟩)] w fun e w' => ∃ v, e = .returned v ∧ PrAt w' v (keysP (l.map toPr)) ∧ Kept [] w w' := by
  have c0 := h.c0
  have HM := hid h.map
  have HF := hid (show (Try.prog.info? 54).map (fun i => (i.zero, i.size, i.bytes)) = some (some (.agg #[.int .u8 0, .int .u8 0, .int .u8 0, .int .u8 0, .bool false, .int .i64 0]), 6, 24) by kernel_rfl)
  have hmw := h.lt.2
  clear h
  go_enter Try.func18, Try.ntmps18
  go_wp2_with (first | (at_range; refine wpList_range_is rfl _ 65 rfl _ _ Try.underlying65 rfl HM.out ?_; intro w0 hR hk hsz0))
  go_frame
  have HR := hid hR
  have HK := hid hk
  clear hR hk
  go_loopg [3] l.length (fun kx s3 wr => ∃ (todo acc : List (K4 × V)), Aside (wr.ownsRow w0.heap.size 54 6 s3 acc.length ((acc.map toPr).flatMap Pr.f)) ∧ Aside ((acc ++ todo).Perm l) ∧ Aside (RangeIs wr m w.heap.size K4.v (dl todo)) ∧ Aside (Kept [] w wr) ∧ todo.length ≤ kx ∧ w0.heap.size ≤ wr.heap.size)
  case atStart => exact ⟨l, [], ⟨rfl, .inl ⟨rfl, rfl⟩⟩, List.Perm.refl _, HR.out, HK.out, Nat.le_refl _, Nat.le_refl _⟩
  case round =>
    clear HR HK
    obtain ⟨todo, acc, HO, HP, HR, HK, hkx, hsz⟩ := hrel
    go_wp2_with (first
      | (at_next; refine wpList_next_is rfl _ rfl rfl HR.out ?_ ?_; (intro hd0); rotate_left; (intro x u T w1 hp hR1 hk1 hs1 hen; obtain ⟨v, t', rfl, rfl, hp'⟩ := dl_perm hp; have HP' := hid hp'; have HR1 := hid hR1; have HK1 := hid hk1; clear hp hp' hR1 hk1; obtain ⟨k1, k2, k3, k4⟩ := x; obtain ⟨y1, y2⟩ := v; simp only [K4.v, V.v] at hen ⊢))
      | (at_builtin; refine Here.mk ?_)
      | (go_at_call 33; refine Here.mk ?_))
    · refine Here.of ?_
      clear hen
      have HO1 := hid (ownsRow_kept HO.out HK1.out (fun x hx => by simp at hx; omega))
      generalize Obj.cells #[Value.int IntKind.u8 (k1.toNat : Int), Value.int IntKind.u8 (k2.toNat : Int), Value.int IntKind.u8 (k3.toNat : Int), Value.int IntKind.u8 (k4.toNat : Int)] 24 = A
      generalize Obj.cells #[Value.bool y1, Value.int IntKind.i64 y2] 32 = B
      have hAB : ((w1.alloc A).alloc B).heap.size = wr.heap.size + 1 + 1 := by simp [hs1]
      rw [← hAB]
      have hacc : acc.length + todo.length = l.length := by have := HP.out.length_eq; simpa using this
      refine wpList_append_is rfl _ _ 38 rfl 54 _ 6 24 Try.underlying38 HF.out rfl (by decide) (by decide) w0.heap.size _ acc.length _ rfl (((HO1.out.alloc _).alloc _).alloc _) _ 1 1 (Pr.f ⟨⟨k1, k2, k3, k4⟩, ⟨y1, y2⟩⟩) rfl rfl (fun j u h => cells_new _ (Pr.f ⟨⟨k1, k2, k3, k4⟩, ⟨y1, y2⟩⟩) _ j u h) (by simp [Pr.f, Value.oneCell']) (by omega) (by simp; omega) ?_
      intro v' w2 hown2 hgrow hnil
      obtain ⟨S, hS1, hS2⟩ := ownsRow_grown (((HO1.out.alloc _).alloc _).alloc _) hgrow
      have HW := hid ((((Kept.refl [] w1).alloc A).alloc B).alloc (.cells (Pr.f ⟨⟨k1, k2, k3, k4⟩, ⟨y1, y2⟩⟩).toArray 54))
      have hk2 := HW.out.trans (c := w2) (T := S) hS1
      have HR2 := hid ((HR1.out.kept HW.out (by simp) (by simp)).kept hS1 (fun hx => by have := hS2 _ hx; omega) (fun hx => by have := hS2 _ hx; omega))
      have HK2 := hid ((((HK.out.trans HK1.out (fun x hx => .inr (by simp at hx; omega))).trans HW.out (fun x hx => .inl hx)).trans hS1 (fun x hx => .inr (by have := hS2 x hx; omega))))
      have hsz2 : w1.heap.size ≤ w2.heap.size := Nat.le_trans HW.out.size hS1.size
      have H2 := hid hown2
      clear hown2 hgrow hnil hS1 hk2
      go_wp2
      go_roundg t'.length
      case measure =>
        have := HP'.out.length_eq
        simp at this
        omega
      case rel =>
        refine ⟨t', acc ++ [(⟨k1, k2, k3, k4⟩, ⟨y1, y2⟩)], ?_, ?_, HR2.out, HK2.out, Nat.le_refl _, by omega⟩
        · have := H2.out
          show World.ownsRow _ _ _ _ _ _ _
          rw [List.map_append, List.flatMap_append, List.length_append]
          simpa [toPr] using this
        · show List.Perm _ _
          rw [List.append_assoc]
          exact (HP'.out.symm.append_left acc).trans HP.out
    · refine Here.of ?_
      have ht : todo = [] := by
        cases todo with
        | nil => rfl
        | cons p t => simp [dl] at hd0
      subst ht
      have hperm : (acc.map toPr).Perm (l.map toPr) := by have := HP.out.map toPr; simpa using this
      have hlen : acc.length = l.length := by have := HP.out.length_eq; simpa using this
      refine (sortFunc_own u3 w0.heap.size acc.length (acc.map toPr) (l.map toPr) wr HO.out (by simp) (by simp; omega) hperm (by rw [List.map_map]; exact hn)).mono ?_
      rintro e w3 ⟨rfl, hpr, S, hS1, hS2⟩
      have hk3 : Kept [] w w3 := HK.out.trans hS1 (fun x hx => .inr (by have := hS2 x hx; omega))
      go_wp2
      go_returns
      exact ⟨_, rfl, hpr, hk3⟩
--@@ end
end Go.Proofs.Ythidbnjijomlmaa
