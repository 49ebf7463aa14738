/- LockOrder: the walk. -/
import Derived.Test.YtiheoddlknbomaaLockArgs
import Derived.Test.YtiheoddlknbomaaLockInv5
import Derived.Deep.AppendLies
set_option linter.all false
namespace Go.Proofs.Ytiheoddlknbomaa.lockOrder
open Go.RowKit Go.Shelf Go.Lib Go.Sort Go.Proofs Go.Proofs.Ytiheoddlknbomaa
set_option linter.unusedVariables false
set_option linter.unusedSimpArgs false

def keyO7 : K4 := ⟨7, 0, 0, 0⟩
theorem taken_one (l : List (Int × Int)) (j : Nat) (hj : j < l.length) (n : Int) : decide (n ∈ (l.take (j + 1)).map (·.1)) = (decide (n ∈ (l.take j).map (·.1)) || decide (n = l[j].1)) := by
  rw [List.take_succ_eq_append_getElem hj, List.map_append, Bool.eq_iff_iff]
  simp
section
variable {P : Program} {w : World} {ops : Array Oper} {rest : List Oper} {o : Oper} {a : Act} {Q : Exit → Act → World → Prop}
theorem wpList_append_li (hgd : o.guard = none) (s x : Operand) (t : TypeId)
    (ho : o.op = .call { callee := .builtin .append, args := #[s, x], argTypes := #[t, t] })
    (e : TypeId) (z : Value) (size bytes : Nat) (ht : P.underlying t = some (.slice e)) (hi : (P.info? e).map (fun i => (i.zero, i.size, i.bytes)) = some (some z, size, bytes))
    (hzs : z.cells.size = size) (hsz : 0 < size) (hby : 0 < bytes) (base : Nat)
    (v : Value) (n : Nat) (xs : List Value) (hs : a.eval s = v) (hown : w.ownsRow base e size v n xs)
    (ad : Addr) (m c : Nat) (news : List Value) (hx : a.eval x = .slice (some ad) m c) (hl : news.length = m * size) (hnews : ∀ j u, news[j]? = some u → w.cell? (ad.add j) = some u) (h1 : ∀ u ∈ news, u.oneCell' = true) (hm : 0 < m)
    (hbytes : (n + m) * bytes ≤ 140737488355328) (hbase : base ≤ w.heap.size)
    (h : ∀ g cap w', w'.ownsRow base e size (.slice (some ⟨g, 0, none⟩) (n + m) cap) (n + m) (xs ++ news) → w.grownBy w' v.ownBlock → (v.ownBlock = some g ∨ g = w.heap.size) → wpList P ops Q rest (a.put o.dst (.slice (some ⟨g, 0, none⟩) (n + m) cap)) w') : wpList P ops Q (o :: rest) a w := by
  obtain ⟨i, hi, hz0, hz1, hz2⟩ := info_parts hi
  have h63 : n + m ≤ maxLen := by
    have := Nat.le_mul_of_pos_right (n + m) hby
    unfold maxLen; omega
  exact wpList_append_lies w hgd s x t ho base e i z size bytes ht hi hz0 hz1 hz2 hzs hsz v n xs hs hown ad m c news hx hl hnews h1 hm h63 hbytes hbase w.heap.size rfl fun g cap w' g1 g2 g3 _ => h g cap w' g1 g2 g3
end
--@@ concordatlaw08.LockOrder
theorem askO {W : World} {E : Nat → Prop} {A m : Nat} {t : Ta} (h : TabAt W E A t) (hl : t.le m) (hm : m ≤ 100000) (n now : Int) : Calls Try.prog 18 #[.pointer (some ⟨A, 0, none⟩), .int .i64 n, .agg #[.int .u8 7, .int .u8 0, .int .u8 0, .int .u8 0], .bool true, .int .i64 now] W fun e w' => e = .returned (.int .i64 (t.ask n keyO7 true now).1) ∧ TabAt w' E A (t.ask n keyO7 true now).2 ∧ KD E W w' := ask_at h hl hm n keyO7 true now
theorem holdsO {W : World} {E : Nat → Prop} {A m : Nat} {t : Ta} (h : TabAt W E A t) (hl : t.le m) (hm : m ≤ 100000) (n : Int) : Calls Try.prog 13 #[.pointer (some ⟨A, 0, none⟩), .int .i64 n, .agg #[.int .u8 7, .int .u8 0, .int .u8 0, .int .u8 0]] W fun e w' => e = .returned (.int .i64 (how (t.row keyO7).h n)) ∧ Kept [] W w' := holds_at h hl hm n keyO7
set_option maxHeartbeats 8000000 in
set_option maxRecDepth 100000 in
theorem walk (first : Int) (v1 : Value) (ls : List Int) (w : World) (_o : IntKind.i64.min ≤ first ∧ first ≤ IntKind.i64.max) (h1 : SlAt w v1 In.ps.length ls.length (ls.flatMap In.f)) (hok : ∀ x ∈ ls, In.ok x) :
    Calls Try.prog 7 #[.int .i64 first, v1] w fun e w' => e = .returned (.bool true) ∧ Kept [] w w' := by
  clear _o hok
  rw [In.flatMap] at h1
  obtain ⟨a, cap, rfl, hmax, _, hc⟩ := h1.ex
  have HC := hid hc
  clear h1 hc
  by_cases hlen : 60 < ls.length
  · have hlenz : (60 : Int) < (ls.length : Int) := by omega
    go_enter Try.func7, Try.ntmps7
    go_wp2_with (go_at_call 9; refine (alive_any _).mono ?_; rintro e wa ⟨rfl, hka⟩)
    go_ret
    exact ⟨rfl, hka⟩
  have hlenz : (ls.length : Int) ≤ 60 := by omega
  by_cases hf1 : first < 1
  · go_enter Try.func7, Try.ntmps7
    go_wp2_with (go_at_call 9; refine (alive_any _).mono ?_; rintro e wa ⟨rfl, hka⟩)
    go_ret
    exact ⟨rfl, hka⟩
  by_cases hf2 : 1048576 < first
  · have hf1' : (1 : Int) ≤ first := by omega
    clear hf1
    go_enter Try.func7, Try.ntmps7
    go_wp2_with (go_at_call 9; refine (alive_any _).mono ?_; rintro e wa ⟨rfl, hka⟩)
    go_ret
    exact ⟨rfl, hka⟩
  have hf1' : (1 : Int) ≤ first := by omega
  have hf2' : first ≤ (1048576 : Int) := by omega
  clear hf1 hf2
  obtain ⟨s1, s2⟩ := ord_start 5 keyO7 first ⟨hf1', hf2'⟩
  have HS1 := hid s1
  have HS2 := hid s2
  clear s1 s2
  have HF := hid (show (Try.prog.info? 3).map (fun i => (i.zero, i.size, i.bytes)) = some (some (.int .i64 0), 1, 8) by kernel_rfl)
  go_enter Try.func7, Try.ntmps7
  go_wp2_with (first
    | (go_at_call 9; refine (alive_any _).mono ?_; rintro e wa ⟨rfl, hka⟩)
    | (go_at_call 19; refine (new5_any wa).mono ?_; rintro e w1 ⟨A, rfl, hT, hk⟩)
    | (go_at_call 18; refine Here.mk ?_))
  refine Here.of ?_
  obtain ⟨E0, HE0, HE1, HEK⟩ : ∃ E : Nat → Prop, Hid (TabAt (w1.alloc (.cells #[.int .u8 7, .int .u8 0, .int .u8 0, .int .u8 0] 32)) E A ⟨5, [], []⟩) ∧ Hid (∀ b, b < wa.heap.size → E b) ∧ Hid (E w1.heap.size) :=
    ⟨_, hid (hT.widen ((Kept.refl [] w1).alloc _) (by simp)), hid (fun b hb => .inl hb), hid (.inr ⟨Nat.le_refl _, by simp⟩)⟩
  have hsa := hka.size
  refine (askO HE0.out (m := 0) (fun p hp => by cases hp) (by omega) first 0).mono ?_
  rw [HS1.out]
  rintro e w2 ⟨rfl, hT2, hK2⟩
  have hsz2 := hK2.size
  rw [World.size_alloc] at hsz2
  have HQ2 := hid (fun j u h => hK2.cell (new_cell w1 [.int .u8 7, .int .u8 0, .int .u8 0, .int .u8 0] 32 j u h) HEK.out)
  have HKW2 := hid (show Kept [] w w2 from KD.then ((hka.trans hk (fun x hx => by cases hx)).alloc (.cells #[.int .u8 7, .int .u8 0, .int .u8 0, .int .u8 0] 32)) hK2 (fun x hx _ => HE1.out x (by omega)))
  obtain ⟨t1, ht1⟩ : ∃ t1, t1 = ((⟨5, [], []⟩ : Ta).ask first keyO7 true 0).2 := ⟨_, rfl⟩
  have hle1 : t1.le 1 := by rw [ht1]; exact Ta.le.ask (n := 0) (fun p hp => by cases hp) true 0
  have hrl1 : t1.rows.length ≤ 1 := by rw [ht1]; exact Ta.ask_len _ _ _ _
  rw [← ht1] at hT2 HS2
  have HLE1 := hid hle1
  obtain ⟨E2, HE2, HF1, HFK, HFR⟩ : ∃ E : Nat → Prop, Hid (TabAt (w2.alloc (.cells #[] 3)) E A t1) ∧ Hid (∀ b, b < w.heap.size → E b) ∧ Hid (E w1.heap.size) ∧ Hid (E w2.heap.size) :=
    ⟨_, hid (hT2.widen ((Kept.refl [] w2).alloc _) (by simp)), hid (fun b hb => .inl (HE1.out b (by omega))), hid (.inl HEK.out), hid (.inr ⟨Nat.le_refl _, by simp⟩)⟩
  have HO0 := hid (ownsRow_made0 w2 3 1 w2.heap.size (Nat.le_refl _))
  have HQ0 := hid (fun j u h => ((Kept.refl [] w2).alloc (.cells #[] 3)).cell (HQ2.out j u h) (by simp))
  have hsw : w.heap.size ≤ w2.heap.size := HKW2.out.size
  have HKW0 := hid (HKW2.out.alloc (.cells #[] 3))
  generalize w1.heap.size = KB at *
  clear hT hk hka hT2 hK2 ht1 hle1 HE0 HE1 HEK HQ2 hsa HS1
  go_wp2_with fail
  go_loopg [8, 9] ls.length (fun kx s8 s9 wr => ∃ (i : Nat) (l : List (Int × Int)) (t : Ta) (E : Nat → Prop), s9 = .int .i64 i ∧ i ≤ ls.length ∧ ls.length - i ≤ kx ∧ l.length ≤ i ∧ t.rows.length ≤ i + 1 ∧ w2.heap.size ≤ wr.heap.size ∧ Aside (TabAt wr E A t) ∧ Aside (OrdIs t keyO7 (first, 0) l) ∧ Aside (t.le (i + 1)) ∧ Aside (wr.ownsRow w2.heap.size 3 1 s8 l.length ((l.map (·.1)).map (Value.int .i64))) ∧ Aside (∀ x, s8.ownBlock = some x → E x) ∧ Aside (E KB) ∧ Aside (∀ b, b < w.heap.size → E b) ∧ Aside (∀ j u, [Value.int .u8 7, .int .u8 0, .int .u8 0, .int .u8 0][j]? = some u → wr.cell? ⟨KB, j, none⟩ = some u) ∧ Aside (Kept [] w wr))
  case atStart => exact ⟨0, [], t1, E2, by first | rfl | go_num, by omega, by omega, by simp, hrl1, by simp, HE2.out, HS2.out, HLE1.out, HO0.out, fun x hx => by simp [Value.ownBlock] at hx; subst hx; exact HFR.out, HFK.out, HF1.out, HQ0.out, HKW0.out⟩
  case round =>
    clear HE2 HS2 HLE1 HO0 HFR HFK HF1 HQ0 HKW0 HKW2 hrl1
    obtain ⟨i, l, t, E, rfl, hi, hix, hli, hrl, hsz, HT, HOR, HLE, HO, HER, HEK, HEW, HQ, HK⟩ := hrel
    rename World => wo
    obtain ⟨ra, rc, hs8⟩ := ownsRow_slice HO.out
    subst hs8
    by_cases hlt : i < ls.length
    · have hltz : (i : Int) < (ls.length : Int) := by omega
      have hll : (l.length : Int) ≤ 60 := by omega
      obtain ⟨b, off, ha, hb, hcs⟩ := HC.out (by omega)
      subst ha
      have c0 := HK.out.cell (hcs i (.int .i64 ls[i]) (by simp [hlt])) (by simp)
      clear hcs
      generalize ls[i] = n at *
      have q0 := HQ.out 0 _ rfl
      have q1 := HQ.out 1 _ rfl
      have q2 := HQ.out 2 _ rfl
      have q3 := HQ.out 3 _ rfl
      go_wp2_with fail
      go_loopg [11, 12] l.length (fun kx s11 s12 wr => ∃ (j : Nat) (bb : Bool), s11 = .bool bb ∧ s12 = .int .i64 j ∧ j ≤ l.length ∧ l.length - j ≤ kx ∧ Aside (bb = (decide (n = first) || decide (n ∈ (l.take j).map (·.1)))) ∧ wr = wo)
      case atStart => exact ⟨0, decide (n = first), by first | rfl | (rw [Bool.beq_eq_decide_eq]) | simp, by first | rfl | go_num, by omega, by omega, by show _ = _; simp, rfl⟩
      case round =>
        obtain ⟨j, bb, rfl, rfl, hj, hjx, HBB, rfl⟩ := hrel
        by_cases hjl : j < l.length
        · have hjlz : (j : Int) < (l.length : Int) := by omega
          have HTK := hid (taken_one l j hjl n)
          cases bb with
          | true =>
            go_wp2_with fail
            go_roundg (l.length - (j + 1))
            case measure => omega
            case rel => exact ⟨j + 1, true, by first | rfl | go_num, by first | rfl | go_num, by omega, Nat.le_refl _, by show _ = _; rw [HTK.out, ← Bool.or_assoc, ← HBB.out]; rfl, rfl⟩
          | false =>
            obtain ⟨g, hg⟩ := own_some HO.out (by omega)
            subst hg
            have c1 := own_ints HO.out (show j < (l.map (·.1)).length by simpa using hjl)
            rw [List.getElem_map] at c1
            generalize l[j].1 = y at *
            by_cases hyn : y = n
            · subst hyn
              go_wp2_with fail
              go_roundg (l.length - (j + 1))
              case measure => omega
              case rel => exact ⟨j + 1, true, by first | rfl | go_num, by first | rfl | go_num, by omega, Nat.le_refl _, by show _ = _; rw [HTK.out]; simp, rfl⟩
            · have hyb : (y == n) = false := by simpa using hyn
              have HYN := hid (show ¬ n = y from fun e => hyn e.symm)
              clear hyn
              go_wp2_with fail
              go_roundg (l.length - (j + 1))
              case measure => omega
              case rel => exact ⟨j + 1, false, by first | rfl | go_num, by first | rfl | go_num, by omega, Nat.le_refl _, by show _ = _; rw [HTK.out, ← Bool.or_assoc, ← HBB.out, decide_eq_false HYN.out]; rfl, rfl⟩
        · obtain rfl : j = l.length := by omega
          have hjlz : ¬ (l.length : Int) < (l.length : Int) := by omega
          rw [List.take_length] at HBB
          rename World => wo
          have HASK := hid (askO HT.out HLE.out (by omega) n i)
          have hnl := Ta.ask_len (t := t) n keyO7 true i
          have HNLE := hid (Ta.le.ask (tx := n) (k := keyO7) HLE.out true i)
          have HN := hid (show ∀ w3, KD E wo w3 → w3.ownsRow w2.heap.size 3 1 (.slice ra l.length rc) l.length ((l.map (·.1)).map (Value.int .i64)) ∧ (∀ j u, [Value.int .u8 7, .int .u8 0, .int .u8 0, .int .u8 0][j]? = some u → w3.cell? ⟨KB, j, none⟩ = some u) ∧ Kept [] w w3 ∧ w2.heap.size ≤ w3.heap.size from fun w3 hK => ⟨hK.own HO.out HER.out, fun j u h => hK.cell (HQ.out j u h) HEK.out, KD.then HK.out hK (fun x hx _ => HEW.out x hx), Nat.le_trans hsz hK.size⟩)
          obtain ⟨r, hr⟩ : ∃ r, r = t.ask n keyO7 true i := ⟨_, rfl⟩
          rw [← hr] at HASK hnl HNLE
          obtain ⟨er, t2⟩ := r
          dsimp only at HASK hnl HNLE
          have hiz : (0 : Int) ≤ (i : Int) ∧ (i : Int) ≤ 1099511627776 := by omega
          by_cases hn1 : n < 1
          · skip
            obtain ⟨rfl, hord⟩ : er = 11 ∧ OrdIs t2 keyO7 (first, 0) l := by
              have := ask_out t n i keyO7 true (.inl hn1)
              rw [← hr] at this
              injection this with e1 e2
              exact ⟨e1, e2 ▸ HOR.out⟩
            have HORD := hid hord
            clear hord
            clear hr
            go_wp2_with (go_at_call 18; refine Here.mk ?_)
            refine Here.of ?_
            refine HASK.out.mono ?_
            rintro e w3 ⟨rfl, hT3, hK3⟩
            have HT3 := hid hT3
            have HN3 := hid (HN.out w3 hK3)
            clear hT3 hK3 c0 q0 q1 q2 q3
            go_wp2_with fail
            go_roundg (ls.length - (i + 1))
            case measure => omega
            case rel => exact ⟨i + 1, l, t2, E, by first | rfl | go_num, by omega, Nat.le_refl _, by omega, by omega, HN3.out.2.2.2, HT3.out, HORD.out, HNLE.out, HN3.out.1, HER.out, HEK.out, HEW.out, HN3.out.2.1, HN3.out.2.2.1⟩
          have hn1' : (1 : Int) ≤ n := by omega
          clear hn1
          by_cases hn2 : 1048576 < n
          · skip
            obtain ⟨rfl, hord⟩ : er = 11 ∧ OrdIs t2 keyO7 (first, 0) l := by
              have := ask_out t n i keyO7 true (.inr hn2)
              rw [← hr] at this
              injection this with e1 e2
              exact ⟨e1, e2 ▸ HOR.out⟩
            have HORD := hid hord
            clear hord
            clear hr
            go_wp2_with (go_at_call 18; refine Here.mk ?_)
            refine Here.of ?_
            refine HASK.out.mono ?_
            rintro e w3 ⟨rfl, hT3, hK3⟩
            have HT3 := hid hT3
            have HN3 := hid (HN.out w3 hK3)
            clear hT3 hK3 c0 q0 q1 q2 q3
            go_wp2_with fail
            go_roundg (ls.length - (i + 1))
            case measure => omega
            case rel => exact ⟨i + 1, l, t2, E, by first | rfl | go_num, by omega, Nat.le_refl _, by omega, by omega, HN3.out.2.2.2, HT3.out, HORD.out, HNLE.out, HN3.out.1, HER.out, HEK.out, HEW.out, HN3.out.2.1, HN3.out.2.2.1⟩
          have hn2' : n ≤ (1048576 : Int) := by omega
          clear hn2
          by_cases hnf : n = first
          · obtain rfl : first = n := hnf.symm
            obtain ⟨rfl, hord⟩ : er = 0 ∧ OrdIs t2 keyO7 (first, 0) l := by
              have := ord_first HOR.out i ⟨hf1', hf2', hiz.1, hiz.2⟩
              rw [← hr] at this
              injection this with e1 e2
              exact ⟨e1, e2 ▸ HOR.out⟩
            have HORD := hid hord
            clear hord
            obtain rfl : bb = true := by rw [HBB.out]; simp
            clear hr
            go_wp2_with (go_at_call 18; refine Here.mk ?_)
            refine Here.of ?_
            refine HASK.out.mono ?_
            rintro e w3 ⟨rfl, hT3, hK3⟩
            have HT3 := hid hT3
            have HN3 := hid (HN.out w3 hK3)
            clear hT3 hK3 c0 q0 q1 q2 q3
            go_wp2_with fail
            go_roundg (ls.length - (i + 1))
            case measure => omega
            case rel => exact ⟨i + 1, l, t2, E, by first | rfl | go_num, by omega, Nat.le_refl _, by omega, by omega, HN3.out.2.2.2, HT3.out, HORD.out, HNLE.out, HN3.out.1, HER.out, HEK.out, HEW.out, HN3.out.2.1, HN3.out.2.2.1⟩
          by_cases hnk : n ∈ l.map (·.1)
          · skip
            obtain ⟨rfl, hord⟩ : er = 17 ∧ OrdIs t2 keyO7 (first, 0) l := by
              have := ord_known HOR.out n i ⟨hn1', hn2', hiz.1, hiz.2⟩ hnf hnk
              rw [← hr] at this
              injection this with e1 e2
              exact ⟨e1, e2 ▸ HOR.out⟩
            have HORD := hid hord
            clear hord
            obtain rfl : bb = true := by rw [HBB.out]; simp [hnk]
            have hnb : (n == first) = false := by simpa using hnf
            have hnb2 : (n != first) = true := by simpa using hnf
            clear hr hnf hnk
            go_wp2_with (go_at_call 18; refine Here.mk ?_)
            refine Here.of ?_
            refine HASK.out.mono ?_
            rintro e w3 ⟨rfl, hT3, hK3⟩
            have HT3 := hid hT3
            have HN3 := hid (HN.out w3 hK3)
            clear hT3 hK3 c0 q0 q1 q2 q3
            go_wp2_with fail
            go_roundg (ls.length - (i + 1))
            case measure => omega
            case rel => exact ⟨i + 1, l, t2, E, by first | rfl | go_num, by omega, Nat.le_refl _, by omega, by omega, HN3.out.2.2.2, HT3.out, HORD.out, HNLE.out, HN3.out.1, HER.out, HEK.out, HEW.out, HN3.out.2.1, HN3.out.2.2.1⟩
          · skip
            obtain ⟨rfl, hord⟩ : er = 17 ∧ OrdIs t2 keyO7 (first, 0) (l ++ [(n, (i : Int))]) := by
              have := ord_new HOR.out n i ⟨hn1', hn2', hiz.1, hiz.2⟩ hnf hnk
              rw [← hr] at this
              exact this
            have HORD := hid hord
            clear hord
            obtain rfl : bb = false := by rw [HBB.out]; simp [hnk, hnf]
            have hnb : (n == first) = false := by simpa using hnf
            have hnb2 : (n != first) = true := by simpa using hnf
            clear hr hnf hnk
            go_wp2_with (go_at_call 18; refine Here.mk ?_)
            refine Here.of ?_
            refine HASK.out.mono ?_
            rintro e w3 ⟨rfl, hT3, hK3⟩
            have HT3 := hid hT3
            have HN3 := hid (HN.out w3 hK3)
            clear hT3 hK3 c0 q0 q1 q2 q3
            go_wp2_with (at_builtin; refine Here.mk ?_)
            refine Here.of ?_
            have hs3 := HN3.out.2.2.2
            refine wpList_append_li rfl _ _ 26 rfl 3 _ 1 8 Try.underlying26 HF.out rfl (by decide) (by decide) w2.heap.size _ l.length _ rfl (HN3.out.1.alloc _) _ 1 1 [.int .i64 n] rfl rfl (fun j u h => cells_new w3 [.int .i64 n] 3 j u h) (by simp [Value.oneCell']) (by omega) (by omega) (by simp; omega) ?_
            intro g cap' w5 hown hgrow hat
            have hgrow : World.grownBy _ w5 (Value.slice ra l.length rc).ownBlock := hgrow
            have hat : (Value.slice ra l.length rc).ownBlock = some g ∨ _ := hat
            have hkS : Kept (Value.slice ra l.length rc).ownBlock.toList w3 w5 := ((Kept.refl _ w3).alloc _).trans (Kept.of_grown hgrow _ (fun k hk => by simp [hk])) (fun x hx => .inl hx)
            have hSE : ∀ x ∈ (Value.slice ra l.length rc).ownBlock.toList, E x := fun x hx => HER.out x (by simpa using hx)
            have hSB : ∀ x ∈ (Value.slice ra l.length rc).ownBlock.toList, w2.heap.size ≤ x := fun x hx => (HN3.out.1.lt x (by simpa using hx)).1
            have HT5 := hid (HT3.out.widen hkS hSE)
            have hglt := (hown.lt g rfl).2
            rw [World.size_alloc] at hat
            have HER5 := hid (show ∀ x, (Value.slice (some ⟨g, 0, none⟩) (l.length + 1) cap').ownBlock = some x → (E x ∨ (w3.heap.size ≤ x ∧ x < w5.heap.size)) from fun x hx => by
              simp [Value.ownBlock] at hx
              subst hx
              rcases hat with h | h
              · exact .inl (HER.out g h)
              · exact .inr ⟨by omega, hglt⟩)
            have HQ5 := hid (show ∀ j u, [Value.int .u8 7, .int .u8 0, .int .u8 0, .int .u8 0][j]? = some u → w5.cell? ⟨KB, j, none⟩ = some u from fun j u h => hkS.cell (HN3.out.2.1 j u h) (fun hx => by have := hSB KB hx; omega))
            have HK5 := hid (show Kept [] w w5 from HN3.out.2.2.1.trans hkS (fun x hx => .inr (by have := hSB x hx; omega)))
            have hs5 : w2.heap.size ≤ w5.heap.size := Nat.le_trans hs3 hkS.size
            have HO5 := hid (show w5.ownsRow w2.heap.size 3 1 (.slice (some ⟨g, 0, none⟩) (l.length + 1) cap') (l ++ [(n, (i : Int))]).length (((l ++ [(n, (i : Int))]).map (·.1)).map (Value.int .i64)) by
              rw [List.length_append, List.map_append, List.map_append]; exact hown)
            clear hown hgrow hat hkS hSE hSB hglt
            go_wp2_with fail
            go_roundg (ls.length - (i + 1))
            case measure => omega
            case rel => exact ⟨i + 1, l ++ [(n, (i : Int))], t2, _, by first | rfl | go_num, by omega, Nat.le_refl _, by simp; omega, by omega, hs5, HT5.out, HORD.out, HNLE.out, HO5.out, HER5.out, .inl HEK.out, fun b hb => .inl (HEW.out b hb), HQ5.out, HK5.out⟩
    · obtain rfl : i = ls.length := by omega
      have hltz : ¬ (ls.length : Int) < (ls.length : Int) := by omega
      have hll : (l.length : Int) ≤ 60 := by omega
      go_wp2_with (go_at_call 14; refine Here.mk ?_)
      refine Here.of ?_
      refine (free_at HT.out HLE.out (by omega) (by omega) first).mono ?_
      rintro e w3 ⟨rfl, hT3, hK3⟩
      have HT3 := hid hT3
      have HR3 := hid (ord_rest HOR.out)
      have HL3 := hid (show Ta.le 70 (t.freeT first) from (HLE.out.freeT (tx := first)).mono (by omega))
      have hr3 : (t.freeT first).rows.length ≤ 70 := Nat.le_trans (HOR.out.1.ok.free_len first) (by omega)
      have HO3 := hid (hK3.own HO.out HER.out)
      have HQ3 := hid (show ∀ j u, [Value.int .u8 7, .int .u8 0, .int .u8 0, .int .u8 0][j]? = some u → w3.cell? ⟨KB, j, none⟩ = some u from fun j u h => hK3.cell (HQ.out j u h) HEK.out)
      have HK3 := hid (show Kept [] w w3 from KD.then HK.out hK3 (fun x hx _ => HEW.out x hx))
      dsimp only at HR3
      clear hT3 hK3 HT HOR HLE HO HQ HK
      generalize t.freeT first = t3 at *
      go_wp2_with fail
      go_loopg [14] l.length (fun kx s14 wr => ∃ (i : Nat) (t : Ta), s14 = .int .i64 i ∧ i ≤ l.length ∧ l.length - i ≤ kx ∧ t.rows.length ≤ 70 ∧ Aside (TabAt wr E A t) ∧ Aside (RestIs t keyO7 (l.drop i)) ∧ Aside (t.le 70) ∧ Aside (wr.ownsRow w2.heap.size 3 1 (.slice ra l.length rc) l.length ((l.map (·.1)).map (Value.int .i64))) ∧ Aside (∀ j u, [Value.int .u8 7, .int .u8 0, .int .u8 0, .int .u8 0][j]? = some u → wr.cell? ⟨KB, j, none⟩ = some u) ∧ Aside (Kept [] w wr))
      case atStart => exact ⟨0, t3, by first | rfl | go_num, by omega, by omega, hr3, HT3.out, by show RestIs _ _ _; rw [List.drop_zero]; exact HR3.out, HL3.out, HO3.out, HQ3.out, HK3.out⟩
      case round =>
        clear HT3 HR3 HL3 hr3 HO3 HQ3 HK3
        obtain ⟨i, t, rfl, hi, hix, hrl, HT, HRS, HLE, HO, HQ, HK⟩ := hrel
        rename World => wo
        by_cases hlt : i < l.length
        · have hltz : (i : Int) < (l.length : Int) := by omega
          obtain ⟨g, hg⟩ := own_some HO.out (by omega)
          subst hg
          have hml : (l.map (·.1)).length = l.length := by simp
          have HD := hid (List.drop_eq_getElem_cons hlt)
          have HRH := hid (show RestIs t keyO7 (l[i] :: l.drop (i + 1)) from by rw [← HD.out]; exact HRS.out)
          have HX := hid (fun w' (hk : Kept [] wo w') (n : Nat) (hn : n < l.length) => (show w'.cell? ⟨g, n, none⟩ = some (.int .i64 l[n].1) ∧ w'.cell? ⟨KB, 0, none⟩ = some (.int .u8 7) ∧ w'.cell? ⟨KB, 1, none⟩ = some (.int .u8 0) ∧ w'.cell? ⟨KB, 2, none⟩ = some (.int .u8 0) ∧ w'.cell? ⟨KB, 3, none⟩ = some (.int .u8 0) from ⟨by
            have := own_ints (own_below HO.out hk (by simp)) (show n < (l.map (·.1)).length by omega)
            rw [List.getElem_map] at this; exact this, hk.cell (HQ.out 0 _ rfl) (by simp), hk.cell (HQ.out 1 _ rfl) (by simp), hk.cell (HQ.out 2 _ rfl) (by simp), hk.cell (HQ.out 3 _ rfl) (by simp)⟩))
          have HHH := hid (fun W (hk : Kept [] wo W) (y : Int) => holdsO (HT.out.kept hk (by simp)) HLE.out (by omega) y)
          have HXI := hid (fun w' (hk : Kept [] wo w') => HX.out w' hk i hlt)
          have HHI := hid (show ∀ W, Kept [] wo W → Calls Try.prog 13 #[.pointer (some ⟨A, 0, none⟩), .int .i64 l[i].1, .agg #[.int .u8 7, .int .u8 0, .int .u8 0, .int .u8 0]] W fun e w' => e = .returned (.int .i64 2) ∧ Kept [] W w' from fun W hk => by
            have := HHH.out W hk l[i].1
            rw [rest_head HRH.out] at this
            exact this)
          have HFREE := hid (rest_free HRH.out)
          have HOK := hid HRH.out.ok
          have HTAIL := hid (fun (n : Nat) (hn : n < l.length) (hin : i + 1 ≤ n) => (show how (t.row keyO7).h l[n].1 = 0 from rest_tail HRH.out (List.mem_map.2 ⟨l[n], List.mem_iff_getElem.2 ⟨n - (i + 1), by simp; omega, by rw [List.getElem_drop]; congr 1; omega⟩, rfl⟩)))
          clear HRH HRS HD
          generalize l[i].1 = x at *
          go_wp2_with fail
          go_region_held3 (fun w' => w'.cell? ⟨g, i, none⟩ = some (.int .i64 x) ∧ w'.cell? ⟨KB, 0, none⟩ = some (.int .u8 7) ∧ w'.cell? ⟨KB, 1, none⟩ = some (.int .u8 0) ∧ w'.cell? ⟨KB, 2, none⟩ = some (.int .u8 0) ∧ w'.cell? ⟨KB, 3, none⟩ = some (.int .u8 0))
            ((refine HXI.out _ ?_; (repeat (first | assumption | (with_reducible exact Kept.refl _ _) | (with_reducible refine Kept.drew ?_) | (with_reducible refine Kept.alloc ?_ _) | (with_reducible refine Kept.setCell ?_ (by right; simp; try omega) _)))))
            (first
              | (go_at_call 13; refine (HHI.out _ (show Kept [] wo _ by (repeat (first | assumption | (with_reducible exact Kept.refl _ _) | (with_reducible refine Kept.drew ?_) | (with_reducible refine Kept.alloc ?_ _) | (with_reducible refine Kept.setCell ?_ (by right; simp; try omega) _))))).mono ?_; rintro e w6 ⟨rfl, hk6'⟩; have hk6 : Kept [] wo w6 := Kept.trans (show Kept [] wo _ by (repeat (first | assumption | (with_reducible exact Kept.refl _ _) | (with_reducible refine Kept.drew ?_) | (with_reducible refine Kept.alloc ?_ _) | (with_reducible refine Kept.setCell ?_ (by right; simp; try omega) _)))) hk6' (fun x hx => by cases hx)))
          have HK6 := hid hk6
          clear hk6 hk6'
          go_wp2_with fail
          go_loopg [15] l.length (fun kx s15 wr => ∃ n : Nat, s15 = .int .i64 n ∧ i + 1 ≤ n ∧ n ≤ l.length ∧ l.length - n ≤ kx ∧ Aside (Kept [] wo wr))
          case atStart => exact ⟨i + 1, by first | rfl | go_num, by omega, by omega, by omega, HK6.out⟩
          case round =>
            clear HK6
            obtain ⟨n, rfl, hin, hn, hnx, HK7⟩ := hrel
            rename World => w7
            by_cases hnl : n < l.length
            · have hnlz : (n : Int) < (l.length : Int) := by omega
              have HXN := hid (fun w' (hk : Kept [] wo w') => HX.out w' hk n hnl)
              have HHN := hid (show ∀ W, Kept [] wo W → Calls Try.prog 13 #[.pointer (some ⟨A, 0, none⟩), .int .i64 l[n].1, .agg #[.int .u8 7, .int .u8 0, .int .u8 0, .int .u8 0]] W fun e w' => e = .returned (.int .i64 0) ∧ Kept [] W w' from fun W hk => by
                have := HHH.out W hk l[n].1
                rw [HTAIL.out n hnl hin] at this
                exact this)
              generalize l[n].1 = y at *
              go_wp2_with fail
              go_region_held3 (fun w' => w'.cell? ⟨g, n, none⟩ = some (.int .i64 y) ∧ w'.cell? ⟨KB, 0, none⟩ = some (.int .u8 7) ∧ w'.cell? ⟨KB, 1, none⟩ = some (.int .u8 0) ∧ w'.cell? ⟨KB, 2, none⟩ = some (.int .u8 0) ∧ w'.cell? ⟨KB, 3, none⟩ = some (.int .u8 0))
                ((refine HXN.out _ (HK7.out.trans (show Kept [] w7 _ from ?_) (fun x hx => by cases hx)); (repeat (first | assumption | (with_reducible exact Kept.refl _ _) | (with_reducible refine Kept.drew ?_) | (with_reducible refine Kept.alloc ?_ _) | (with_reducible refine Kept.setCell ?_ (by right; simp; try omega) _)))))
                (first
                  | (go_at_call 13; refine (HHN.out _ (HK7.out.trans (show Kept [] w7 _ by (repeat (first | assumption | (with_reducible exact Kept.refl _ _) | (with_reducible refine Kept.drew ?_) | (with_reducible refine Kept.alloc ?_ _) | (with_reducible refine Kept.setCell ?_ (by right; simp; try omega) _)))) (fun x hx => by cases hx))).mono ?_; rintro e w8 ⟨rfl, hk8'⟩; have hk8 : Kept [] w7 w8 := Kept.trans (show Kept [] w7 _ by (repeat (first | assumption | (with_reducible exact Kept.refl _ _) | (with_reducible refine Kept.drew ?_) | (with_reducible refine Kept.alloc ?_ _) | (with_reducible refine Kept.setCell ?_ (by right; simp; try omega) _)))) hk8' (fun x hx => by cases hx)))
              have HK8 := hid (HK7.out.trans hk8 (fun x hx => by cases hx))
              clear hk8 hk8'
              go_wp2_with fail
              go_roundg (l.length - (n + 1))
              case measure => omega
              case rel => exact ⟨n + 1, by first | rfl | go_num, by omega, by omega, Nat.le_refl _, HK8.out⟩
            · obtain rfl : n = l.length := by omega
              have hnlz : ¬ (l.length : Int) < (l.length : Int) := by omega
              obtain ⟨c0, _, _, _, _⟩ := HXI.out w7 HK7.out
              go_wp2_with (go_at_call 14; refine Here.mk ?_)
              refine Here.of ?_
              refine (free_at (HT.out.kept HK7.out (by simp)) HLE.out (by omega) (by omega) x).mono ?_
              rintro e w9 ⟨rfl, hT9, hK9⟩
              have HT9 := hid hT9
              have HL9 := hid (HLE.out.freeT (tx := x))
              have hr9 : (t.freeT x).rows.length ≤ 70 := Nat.le_trans (HOK.out.free_len x) hrl
              have HO9 := hid (hK9.own (own_below HO.out HK7.out (by simp)) HER.out)
              have HQ9 := hid (show ∀ j u, [Value.int .u8 7, .int .u8 0, .int .u8 0, .int .u8 0][j]? = some u → w9.cell? ⟨KB, j, none⟩ = some u from fun j u h => hK9.cell (HK7.out.cell (HQ.out j u h) (by simp)) HEK.out)
              have HK9 := hid (show Kept [] w w9 from KD.then (HK.out.trans HK7.out (fun x hx => by cases hx)) hK9 (fun x hx _ => HEW.out x hx))
              clear hT9 hK9 c0
              go_wp2_with fail
              go_roundg (l.length - (i + 1))
              case measure => omega
              case rel => exact ⟨i + 1, _, by first | rfl | go_num, by omega, Nat.le_refl _, hr9, HT9.out, HFREE.out, HL9.out, HO9.out, HQ9.out, HK9.out⟩
        · obtain rfl : i = l.length := by omega
          have hltz : ¬ (l.length : Int) < (l.length : Int) := by omega
          rw [List.drop_length] at HRS
          go_wp2_with (go_at_call 11; refine Here.mk ?_)
          refine Here.of ?_
          refine (txs_at HT.out HLE.out (by omega) (by omega) HRS.out.ok).mono ?_
          rintro e w9 ⟨v, M, rfl, hM, ho, _, hk9⟩
          have hM0 := rest_none HRS.out hM
          subst hM0
          obtain ⟨xa, xc, hx⟩ := ownsRow_slice ho
          subst hx
          clear ho hM
          go_wp2_with fail
          go_returns
          exact ⟨rfl, HK.out.trans hk9 (fun x hx => by cases hx)⟩
--@@ end
end Go.Proofs.Ytiheoddlknbomaa.lockOrder
