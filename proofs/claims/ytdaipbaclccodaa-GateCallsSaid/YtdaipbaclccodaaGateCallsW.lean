/- GateCalls: the walk. -/
import Derived.Test.YtdaipbaclccodaaCall14
import Derived.Test.YtdaipbaclccodaaGateRel
import Derived.Deep.DeepCutAuto
import Derived.Deep.CutBlock
import Derived.Deep.RegionHeld3
set_option linter.all false
namespace Go.Proofs.Ytdaipbaclccodaa.gateCalls
open Go.ChangeShapes Go.WideShapes Go.ChangeAt Go.RowKit
set_option linter.unusedVariables false
set_option linter.unusedSimpArgs false

structure Lab where
  s : Nat
  t : Nat
namespace Lab
def f (c : Lab) : List Value := [.int .u64 (c.s : Int), .int .u64 (c.t : Int)]
def ok (c : Lab) : Prop := U64 c.s ∧ U64 c.t
def ps : List (Value → Prop) := [IsI .u64, IsI .u64]
theorem dec (cs : List Value) (h : All2 ps cs) : ∃ c : Lab, cs = c.f ∧ c.ok := by
  obtain ⟨_, _, rfl, ⟨a, rfl, ha⟩, h1⟩ := All2.cons h
  obtain ⟨_, _, rfl, ⟨b, rfl, hb⟩, h2⟩ := All2.cons h1
  obtain rfl := All2.nil h2
  obtain ⟨k, rfl, hk⟩ := u64_of ha
  obtain ⟨j, rfl, hj⟩ := u64_of hb
  exact ⟨⟨k, j⟩, rfl, hk, hj⟩
theorem flat : Flat Try.prog 25 ps := by
  have h := Flat.struct (P := Try.prog) (t := 25) (pss := [[IsI .u64], [IsI .u64]]) Try.underlying25 (by kernel_rfl)
    ⟨rfl, Flat.int Try.underlying22 (by kernel_rfl), rfl, Flat.int Try.underlying22 (by kernel_rfl), trivial⟩
  exact h
end Lab

structure GInv (w wr : World) (ga ma ra : Nat) (owned : Nat) (rows rrows : List RR) (vb : Nat) : Prop where
  g : GateIs wr ga ma owned rows
  r : RG wr ra vb rrows
  rel : GRel rows rrows
  k : Kept [] w wr
  n1 : ga ≠ ra
  n2 : ga ≠ vb
  n3 : ma ≠ ra
  n4 : ma ≠ vb
  l1 : w.heap.size ≤ ma
  l2 : w.heap.size ≤ ra
  l3 : w.heap.size ≤ vb
theorem GInv.same {w wr w1 : World} {ga ma ra owned vb : Nat} {rows rrows : List RR} (h : GInv w wr ga ma ra owned rows rrows vb) (hk : Kept [] wr w1) : GInv w w1 ga ma ra owned rows rrows vb :=
  ⟨h.g.kept hk (by simp) (by simp), h.r.kept hk (by simp) (by simp), h.rel, h.k.trans hk (by simp), h.n1, h.n2, h.n3, h.n4, h.l1, h.l2, h.l3⟩
theorem GInv.mid {w w1 w2 : World} {ga ma ra owned vb : Nat} {rows rrows : List RR} (h : GInv w w1 ga ma ra owned rows rrows vb) (hk2 : Kept [ma] w1 w2) : RG w2 ra vb rrows :=
  h.r.kept hk2 (by simp; exact fun e => h.n3 e.symm) (by simp; exact fun e => h.n4 e.symm)
theorem GInv.next {w w1 w2 w3 : World} {ga ma ra owned vb vb' : Nat} {rows rrows rows' rrows' : List RR} (h : GInv w w1 ga ma ra owned rows rrows vb) (hg : GateIs w2 ga ma owned rows') (hk2 : Kept [ma] w1 w2)
    (hr : RG w3 ra vb' rrows') (hk3 : Kept [ra, vb] w2 w3) (hvb : vb' = ra ∨ vb' = vb ∨ w2.heap.size ≤ vb') (hrel : GRel rows' rrows') : GInv w w3 ga ma ra owned rows' rrows' vb' := by
  have hlt := hg.lt
  have hs := (h.k.trans hk2 (fun x hx => .inr (by simp at hx; subst hx; exact h.l1))).size
  refine ⟨hg.kept hk3 (by simp; exact ⟨h.n1, h.n2⟩) (by simp; exact ⟨h.n3, h.n4⟩), hr, hrel, (h.k.trans hk2 (fun x hx => .inr (by simp at hx; subst hx; exact h.l1))).trans hk3 (fun x hx => .inr ?_), h.n1, ?_, h.n3, ?_, h.l1, h.l2, ?_⟩
  · simp at hx
    rcases hx with rfl | rfl
    · exact h.l2
    · exact h.l3
  · rcases hvb with rfl | rfl | h1
    · exact h.n1
    · exact h.n2
    · omega
  · rcases hvb with rfl | rfl | h1
    · exact h.n3
    · exact h.n4
    · omega
  · rcases hvb with rfl | rfl | h1
    · exact h.l2
    · exact h.l3
    · omega
/-- block n holds the copy of a call -/
abbrev CS (n : Nat) (c : Call14) (w' : World) : Prop :=
  w'.cell? ⟨n, 0, none⟩ = some (.int .i64 c.what) ∧ w'.cell? ⟨n, 1, none⟩ = some (.int .i64 c.tx) ∧ w'.cell? ⟨n, 2, none⟩ = some (.int .i64 c.part) ∧
    w'.cell? ⟨n, 3, none⟩ = some (.int .i64 c.n) ∧ w'.cell? ⟨n, 4, none⟩ = some (.int .u16 (c.mask : Int)) ∧ w'.cell? ⟨n, 5, none⟩ = some (.bool c.commit)
theorem CS.kept {n : Nat} {c : Call14} {w w' : World} {S : List Nat} (h : CS n c w) (hk : Kept S w w') (hn : n ∉ S) : CS n c w' :=
  ⟨hk.cell h.1 hn, hk.cell h.2.1 hn, hk.cell h.2.2.1 hn, hk.cell h.2.2.2.1 hn, hk.cell h.2.2.2.2.1 hn, hk.cell h.2.2.2.2.2 hn⟩

abbrev LS (n s t s' t' : Nat) (w' : World) : Prop :=
  w'.cell? ⟨n, 0, none⟩ = some (.int .u64 (s : Int)) ∧ w'.cell? ⟨n, 1, none⟩ = some (.int .u64 (t : Int)) ∧ w'.cell? ⟨n + 1, 0, none⟩ = some (.int .u64 (s' : Int)) ∧ w'.cell? ⟨n + 1, 1, none⟩ = some (.int .u64 (t' : Int))
theorem LS.kept {n s t s' t' : Nat} {w w' : World} (h : LS n s t s' t' w) (hk : Kept [] w w') : LS n s t s' t' w' :=
  ⟨hk.cell h.1 (by simp), hk.cell h.2.1 (by simp), hk.cell h.2.2.1 (by simp), hk.cell h.2.2.2 (by simp)⟩
set_option maxRecDepth 100000 in
set_option maxHeartbeats 8000000 in
theorem walk (o0 : Int) (v1 : Value) (l : List Call14) (la lb : Lab) (o4 o5 : Int) (w : World) (w0 : IntKind.u64.min ≤ o0 ∧ o0 ≤ IntKind.u64.max)
    (h0 : SlAt w v1 Call14.ps.length l.length (l.flatMap Call14.f)) (hl : ∀ x ∈ l, x.ok) (hla : la.ok) (hlb : lb.ok) (w4 : IntKind.u64.min ≤ o4 ∧ o4 ≤ IntKind.u64.max) (w5 : IntKind.u64.min ≤ o5 ∧ o5 ≤ IntKind.u64.max) :
    Calls Try.prog 3 #[.int .u64 o0, v1, .agg la.f.toArray, .agg lb.f.toArray, .int .u64 o4, .int .u64 o5] w fun e w' => e = .returned (.bool true) ∧ Kept [] w w' := by
  obtain ⟨owned, rfl, u0⟩ := u64_of w0
  obtain ⟨have', rfl, u4⟩ := u64_of w4
  obtain ⟨want, rfl, u5⟩ := u64_of w5
  obtain ⟨s, t⟩ := la
  obtain ⟨s', t'⟩ := lb
  obtain ⟨us, ut⟩ := hla
  obtain ⟨us', ut'⟩ := hlb
  simp only [Lab.f] at us ut us' ut' ⊢
  clear w0 w4 w5
  obtain ⟨a, cap, rfl, hmax, _, hc⟩ := h0.ex
  have HC := hid hc
  have HL := hid hl
  clear h0 hc hl
  have HU := hid (And.intro u0 (And.intro u4 (And.intro u5 (And.intro us (And.intro ut (And.intro us' ut'))))))
  clear u0 u4 u5 us ut us' ut'
  by_cases hlen : 200 < l.length
  · go_enter Try.func3, Try.ntmps3
    go_wp2_with (go_at_call 8; refine (alive_any _).mono ?_; rintro e wa ⟨rfl, hka⟩)
    go_ret
    exact ⟨rfl, (((Kept.refl [] w).alloc _).alloc _).trans hka (by simp)⟩
  · go_enter Try.func3, Try.ntmps3
    go_wp2_with fail
    refine (alive_any _).mono ?_
    rintro e wa ⟨rfl, hka⟩
    go_wp2_with fail
    refine (gnew_any owned _).mono ?_
    rintro e wb ⟨rfl, hGa, hkb⟩
    obtain ⟨wl, hwl⟩ : ∃ wl, wl = (w.alloc (.cells #[.int .u64 (s : Int), .int .u64 (t : Int)] 25)).alloc (.cells #[.int .u64 (s' : Int), .int .u64 (t' : Int)] 25) := ⟨_, rfl⟩
    rw [← hwl] at hka
    have hk0 : Kept [] w wl := by rw [hwl]; exact ((Kept.refl [] w).alloc _).alloc _
    have hcl : wl.cell? ⟨w.heap.size, 0, none⟩ = some (.int .u64 (s : Int)) ∧ wl.cell? ⟨w.heap.size, 1, none⟩ = some (.int .u64 (t : Int)) ∧ wl.cell? ⟨w.heap.size + 1, 0, none⟩ = some (.int .u64 (s' : Int)) ∧ wl.cell? ⟨w.heap.size + 1, 1, none⟩ = some (.int .u64 (t' : Int)) := by
      rw [hwl]
      have e1 := new_cell w [.int .u64 (s : Int), .int .u64 (t : Int)] 25
      have e2 := new_cell (w.alloc (.cells #[.int .u64 (s : Int), .int .u64 (t : Int)] 25)) [.int .u64 (s' : Int), .int .u64 (t' : Int)] 25
      simp only [World.size_alloc] at e2
      exact ⟨((Kept.refl [] _).alloc _).cell (e1 0 _ rfl) (by simp), ((Kept.refl [] _).alloc _).cell (e1 1 _ rfl) (by simp), e2 0 _ rfl, e2 1 _ rfl⟩
    have hinv : GInv wl (wb.alloc (.cells #[.slice none 0 0] 32)) (wa.heap.size + 1) wa.heap.size wb.heap.size owned [] [] wb.heap.size := by
      have h1 := hka.size
      have h2 := hGa.lt
      have h3 := hkb.size
      exact ⟨hGa.kept ((Kept.refl [] wb).alloc _) (by simp) (by simp), ⟨.slice none 0 0, heap_alloc_new wb _, World.ownsRow_nil _ _ _ _, .inl ⟨rfl, rfl⟩⟩, GRel.nil, (hka.trans hkb (by simp)).alloc _, by omega, by omega, by omega, by omega, by omega, by omega, by omega⟩
    have hc1 : ∀ k : Nat, k < l.length → ∃ b off, a = some ⟨b, off, none⟩ ∧ b < w.heap.size ∧ ∀ j u, (l.flatMap Call14.f)[j]? = some u → wl.cell? ⟨b, off + j, none⟩ = some u := fun k hk => by
      obtain ⟨b, off, h1, h2, h3⟩ := HC.out (by omega)
      exact ⟨b, off, h1, h2, fun j u hu => hk0.cell (h3 j u hu) (by simp)⟩
    have hsl : wl.heap.size = w.heap.size + 2 := by rw [hwl]; simp
    have HI := hid hinv
    have HCL := hid hcl
    have HK0 := hid hk0
    have HC1 := hid hc1
    have HSL := hid hsl
    have HSZ := hid (show w.heap.size < wl.heap.size by omega)
    clear hGa hkb hka hwl hk0 hcl hinv hc1 HC hsl
    generalize wa.heap.size + 1 = ga at *
    generalize wa.heap.size = ma at *
    go_wp2_with fail
    generalize wb.heap.size = ra at *
    go_loopw [15] (fun i wr => ∃ (k : Nat) (rows rrows : List RR) (vb : Nat), k ≤ l.length ∧ i = .int .i64 k ∧ GInv wl wr ga ma ra owned rows rrows vb) (fun i _ => l.length - (intOf i).toNat)
    case atStart => exact ⟨0, [], [], _, Nat.zero_le _, rfl, HI.out⟩
    case round =>
      obtain ⟨k, rows, rrows, vb, hk, rfl, hinv⟩ := hrel
      have H0 := hid hinv
      clear hinv
      by_cases hlt : k < l.length
      · have hltb : decide ((k : Int) < (l.length : Int)) = true := by simp; omega
        obtain ⟨b, off, rfl, hbl, hcs⟩ := HC1.out k hlt
        obtain ⟨d0, d1, d2, d3, d4, d5⟩ := Call14.cells hcs hlt
        have hmk : (l[k]).mask < 65536 := HL.out _ (List.getElem_mem hlt)
        generalize l[k] = c at *
        have d0 := H0.out.k.cell d0 (by simp)
        have d1 := H0.out.k.cell d1 (by simp)
        have d2 := H0.out.k.cell d2 (by simp)
        have d3 := H0.out.k.cell d3 (by simp)
        have d4 := H0.out.k.cell d4 (by simp)
        have d5 := H0.out.k.cell d5 (by simp)
        have hbl2 : b < wr.heap.size := by have := H0.out.k.size; have := HSZ.out; omega
        have HN := hid (show wr.heap.size ∉ [ma] ∧ wr.heap.size ∉ [ra, vb] by have h1 := H0.out.g.lt; have h2 := H0.out.r.lt; simp; omega)
        have H1 := hid (H0.out.same ((Kept.refl [] wr).alloc (.cells c.f.toArray 35)))
        have H2 := hid (H0.out.same ((Kept.refl [] wr).alloc (.cells c.f.toArray 35)).drew)
        have hS0 : CS wr.heap.size c (wr.alloc (.cells c.f.toArray 35)) := Call14.copy (Kept.refl [] _) (by simp)
        have HS0 := hid hS0
        clear hcs hS0
        go_upto_block 2 with (fail)
        go_cut [16] (fun sl wx => sl = .pointer (some ⟨wr.heap.size, 0, none⟩) ∧ ∃ (rows' rrows' : List RR) (vb' : Nat), GInv wl wx ga ma ra owned rows' rrows' vb' ∧ CS wr.heap.size c wx)
        case first =>
          clear d0 d1 d2 d3 d4 d5
          by_cases hw0 : c.what = 0
          · have hwb : (c.what == 0) = true := by simp [hw0]
            clear hw0
            have HE := hid ((H2.out.rel.openOk c.tx c.mask c.n).1)
            go_wp2_with fail
            have hSd : CS wr.heap.size c (wr.alloc (.cells c.f.toArray 35)).drew := HS0.out
            go_region_held3 (fun w' => CS wr.heap.size c w') (first | exact hSd | exact hS1 | exact hS2)
              (first
                | (go_at_call 10; refine (gopen_any ga ma owned rows c.tx c.n c.mask hmk _ H2.out.g).mono ?_; rintro e w1 ⟨rfl, hG1, hk1⟩; have hS1 := CS.kept hSd hk1 HN.out.1)
                | (go_at_call 11; refine (ropen_any ra vb rrows c.tx c.n c.mask hmk _ (H2.out.mid hk1)).mono ?_; rw [← HE.out]; rintro e w2 ⟨rfl, ⟨vb', hR2, hvb⟩, hk2⟩; have hS2 := CS.kept hS1 (hk2.mono (T := [ra, vb]) (by simp)) HN.out.2))
            have H4 := hid (H2.out.next hG1 hk1 hR2 (hk2.mono (T := [ra, vb]) (by simp)) hvb (H2.out.rel.openOk c.tx c.mask c.n).2)
            have HS4 := hid hS2
            clear hG1 hk1 hR2 hk2 hS1 hS2 hSd HE
            go_wp2
            go_meet
            exact ⟨rfl, _, _, _, H4.out, HS4.out⟩
          · have hwb : (c.what == 0) = false := by simp [hw0]
            clear hw0
            by_cases hw1 : c.what = 1
            · have hwb1 : (c.what == 1) = true := by simp [hw1]
              clear hw1
              have HE := hid ((H2.out.rel.set c.tx c.commit).1)
              go_wp2_with fail
              have hSd : CS wr.heap.size c (wr.alloc (.cells c.f.toArray 35)).drew := HS0.out
              go_region_held3 (fun w' => CS wr.heap.size c w') (first | exact hSd | exact hS1 | exact hS2)
                (first
                | (go_at_call 12; refine (gset_any ga ma owned rows c.tx c.commit _ H2.out.g).mono ?_; rintro e w1 ⟨rfl, hG1, hk1⟩; have hS1 := CS.kept hSd hk1 HN.out.1)
                | (go_at_call 13; refine (rset_any ra vb rrows c.tx c.commit _ (H2.out.mid hk1)).mono ?_; rw [← HE.out]; rintro e w2 ⟨rfl, hR2, hk2⟩; have hS2 := CS.kept hS1 (hk2.mono (T := [ra, vb]) (by simp)) HN.out.2))
              have H4 := hid (H2.out.next hG1 hk1 hR2 (hk2.mono (T := [ra, vb]) (by simp)) (.inr (.inl rfl)) (H2.out.rel.set c.tx c.commit).2)
              have HS4 := hid hS2
              clear hG1 hk1 hR2 hk2 hS1 hS2 hSd HE
              go_wp2
              go_meet
              exact ⟨rfl, _, _, _, H4.out, HS4.out⟩
            · have hwb1 : (c.what == 1) = false := by simp [hw1]
              clear hw1
              by_cases hw2 : c.what = 2
              · have hwb2 : (c.what == 2) = true := by simp [hw2]
                clear hw2
                obtain ⟨e0, e1, e2, e3, e4, e5⟩ := HS0.out
                go_wp2_with fail
                refine (gread_any ga ma owned rows c.tx c.part c.n _ H1.out.g H1.out.rel.ok).mono ?_
                rintro e w1 ⟨rfl, hk1⟩
                have H3 := hid (H1.out.same hk1)
                have HS1 := hid (CS.kept HS0.out hk1 (by simp))
                clear e0 e1 e2 e3 e4 e5 hk1
                obtain ⟨e0, e1, e2, e3, e4, e5⟩ := HS1.out
                go_wp2_with fail
                refine (rread_any ra vb rrows c.tx c.part c.n _ H3.out.r H3.out.rel.rok H3.out.rel.rout).mono ?_
                rw [H3.out.rel.read]
                rintro e w2 ⟨rfl, rfl⟩
                go_wp2
                go_meet
                exact ⟨rfl, _, _, _, H3.out, HS1.out⟩
              · have hwb2 : (c.what == 2) = false := by simp [hw2]
                clear hw2
                by_cases hw3 : c.what = 3
                · have hwb3 : (c.what == 3) = true := by simp [hw3]
                  clear hw3
                  have HE := hid ((show (aget c.tx rows).isSome = (aget c.tx rrows).isSome by rw [H2.out.rel.get]))
                  go_wp2_with fail
                  have hSd : CS wr.heap.size c (wr.alloc (.cells c.f.toArray 35)).drew := HS0.out
                  go_region_held3 (fun w' => CS wr.heap.size c w') (first | exact hSd | exact hS1 | exact hS2)
                    (first
                | (go_at_call 16; refine (gclose_any ga ma owned rows c.tx _ H2.out.g).mono ?_; rintro e w1 ⟨rfl, hG1, hk1⟩; have hS1 := CS.kept hSd hk1 HN.out.1)
                | (go_at_call 17; refine (rclose_any ra vb rrows c.tx _ (H2.out.mid hk1) (by rw [H2.out.rel.len]; exact H2.out.rel.wf.len)).mono ?_; rw [← HE.out]; rintro e w2 ⟨rfl, ⟨vb', hR2, hvb⟩, hk2⟩; have hS2 := CS.kept hS1 (hk2.mono (T := [ra, vb]) (by simp)) HN.out.2))
                  have H4 := hid (H2.out.next hG1 hk1 hR2 (hk2.mono (T := [ra, vb]) (by simp)) hvb (H2.out.rel.del c.tx))
                  have HS4 := hid hS2
                  clear hG1 hk1 hR2 hk2 hS1 hS2 hSd HE
                  go_wp2
                  go_meet
                  exact ⟨rfl, _, _, _, H4.out, HS4.out⟩
                · have hwb3 : (c.what == 3) = false := by simp [hw3]
                  clear hw3
                  obtain ⟨e0, e1, e2, e3, e4, e5⟩ := HS0.out
                  go_wp2
                  go_meet
                  exact ⟨rfl, _, _, _, H1.out, HS0.out⟩
        case rest =>
          obtain ⟨rfl, rows', rrows', vb', hinv', hcs'⟩ := hcut
          have H3 := hid hinv'
          have HS3 := hid hcs'
          clear hinv' hcs' d0 d1 d2 d3 d4 d5 H1 H2 HS0 H0
          obtain ⟨e0, e1, e2, e3, e4, e5⟩ := HS3.out
          go_wp2_with fail
          refine (gmask_any ga ma owned rows' c.tx _ H3.out.g).mono ?_
          rintro e w1 ⟨rfl, hk1⟩
          have H4 := hid (H3.out.same hk1)
          have HS4 := hid (CS.kept HS3.out hk1 (by simp))
          clear hk1 e0 e1 e2 e3 e4 e5 HS3 H3
          obtain ⟨e0, e1, e2, e3, e4, e5⟩ := HS4.out
          go_wp2_with fail
          refine (rmask_any ra vb' rrows' c.tx _ H4.out.r).mono ?_
          rw [H4.out.rel.mask]
          rintro e w2 ⟨rfl, hk2⟩
          have H5 := hid (H4.out.same hk2)
          clear hk2 e0 e1 e2 e3 e4 e5 HS4 H4
          go_wp2_with fail
          refine (gtxs_any ga ma owned rows' _ H5.out.g H5.out.rel.wf).mono ?_
          rintro e w3 ⟨v1, rfl, hv1, hk3⟩
          have H6 := hid (H5.out.same hk3)
          have HV1 := hid (SlAt.of_own hv1)
          clear hv1 hk3 H5
          go_wp2_with fail
          refine (rtxs_any ra vb' rrows' _ H6.out.r (by rw [H6.out.rel.len]; exact H6.out.rel.wf.len)).mono ?_
          rintro e w4 ⟨v2, rfl, hv2, hk4⟩
          have H7 := hid (H6.out.same hk4)
          have HV2 := hid (SlAt.of_own hv2)
          have HV3 := hid (HV1.out.kept hk4)
          clear hv2 hk4
          have hx1 : SlAt w4 v1 1 (rrows'.map (·.1)).length ((rrows'.map (·.1)).map (Value.int .i64)) := by
            have := HV3.out
            rw [H6.out.rel.txs] at this
            simpa [H6.out.rel.len] using this
          have hx2 : SlAt w4 v2 1 (rrows'.map (·.1)).length ((rrows'.map (·.1)).map (Value.int .i64)) := by simpa using HV2.out
          have HX := hid (And.intro hx1 hx2)
          clear hx1 hx2 HV1 HV2 HV3 H6
          go_wp2_with fail
          refine (sameInts_any v1 v2 (rrows'.map (·.1)) (rrows'.map (·.1)) _ HX.out.1 HX.out.2).mono ?_
          rw [show decide (rrows'.map (·.1) = rrows'.map (·.1)) = true by simp]
          rintro e w5 ⟨rfl, hk5⟩
          have H8 := hid (H7.out.same hk5)
          clear hk5 HX H7
          go_wp2
          go_roundw
          case rel => exact ⟨k + 1, _, _, _, by omega, by go_num, H8.out⟩
          case measure => simp [intOf]; omega
      · go_wp2_with fail
        have hcl : (wr.cell? ⟨w.heap.size, 0, none⟩ = some (.int .u64 (s : Int)) ∧ wr.cell? ⟨w.heap.size, 1, none⟩ = some (.int .u64 (t : Int)) ∧ wr.cell? ⟨w.heap.size + 1, 0, none⟩ = some (.int .u64 (s' : Int)) ∧ wr.cell? ⟨w.heap.size + 1, 1, none⟩ = some (.int .u64 (t' : Int))) :=
          ⟨H0.out.k.cell HCL.out.1 (by simp), H0.out.k.cell HCL.out.2.1 (by simp), H0.out.k.cell HCL.out.2.2.1 (by simp), H0.out.k.cell HCL.out.2.2.2 (by simp)⟩
        have hSd : LS w.heap.size s t s' t' wr.drew := hcl
        have H1 := hid (H0.out.same (Kept.refl [] wr).drew)
        clear hcl
        go_region_held3 (fun w' => LS w.heap.size s t s' t' w') (first | exact hSd | exact hS1 | exact hS2)
          (first
            | (go_at_call 23; refine (gpass_any ga ma owned s t s' t' rows _ H1.out.g HU.out.1 HU.out.2.2.2.1 HU.out.2.2.2.2.1 HU.out.2.2.2.2.2.1 HU.out.2.2.2.2.2.2).mono ?_; rintro e w1 ⟨rfl, hk1⟩; have hS1 := LS.kept hSd hk1; have H2 := hid (H1.out.same hk1))
            | (go_at_call 24; refine (rwith_any s t s' t' owned _ HU.out.2.2.2.1 HU.out.2.2.2.2.1 HU.out.2.2.2.2.2.1 HU.out.2.2.2.2.2.2 HU.out.1).mono ?_; rintro e w2 ⟨rfl, hb2⟩; have hS2 := LS.kept hS1 (Kept.of_below hb2 (Nat.le_refl _) []); have H3 := hid (H2.out.same (Kept.of_below hb2 (Nat.le_refl _) [])))
            | (go_at_call 25; refine (ggive_any ga ma owned have' want rows _ H3.out.g HU.out.1 HU.out.2.1 HU.out.2.2.1).mono ?_; rintro e w3 ⟨rfl, rfl⟩)
            | (go_at_call 26; refine (rgive_any owned have' want _ HU.out.1 HU.out.2.1 HU.out.2.2.1).mono ?_; rintro e w4 ⟨rfl, rfl⟩))
        go_wp2
        go_ret
        exact ⟨rfl, HK0.out.trans H3.out.k (by simp)⟩
end Go.Proofs.Ytdaipbaclccodaa.gateCalls
