/- Calls on a new table. -/
import Derived.Test.YtiheoddlknbomaaLockAt
set_option linter.all false
namespace Go.Proofs.Ytiheoddlknbomaa
open Go.RowKit Go.Shelf Go.Lib Go.Sort Go.Proofs Go.ChangeShapes Go.WideShapes
set_option linter.unusedVariables false
set_option linter.unusedSimpArgs false

def Cl.f (c : Cl) : List Value := [.int .i64 c.what, .int .i64 c.tx, .int .u8 (c.key.a.toNat : Int), .int .u8 (c.key.b.toNat : Int), .int .u8 (c.key.c.toNat : Int), .int .u8 (c.key.d.toNat : Int), .bool c.ex, .int .i64 c.now]
namespace Cl
def ok (c : Cl) : Prop := True
def ps : List (Value → Prop) := [IsI .i64, IsI .i64, IsI .u8, IsI .u8, IsI .u8, IsI .u8, IsB, IsI .i64]
theorem len (c : Cl) : c.f.length = ps.length := rfl
theorem pos : 0 < ps.length := by decide
theorem dec (cs : List Value) (h : All2 ps cs) : ∃ c : Cl, cs = c.f ∧ c.ok := by
  obtain ⟨_, _, rfl, ⟨wh, rfl, _⟩, g1⟩ := All2.cons h
  obtain ⟨_, _, rfl, ⟨tx, rfl, _⟩, g2⟩ := All2.cons g1
  obtain ⟨_, _, rfl, ⟨a, rfl, ha⟩, h1⟩ := All2.cons g2
  obtain ⟨_, _, rfl, ⟨b, rfl, hb⟩, h2⟩ := All2.cons h1
  obtain ⟨_, _, rfl, ⟨c, rfl, hc⟩, h3⟩ := All2.cons h2
  obtain ⟨_, _, rfl, ⟨d, rfl, hd⟩, h4⟩ := All2.cons h3
  obtain ⟨_, _, rfl, ⟨ex, rfl⟩, h5⟩ := All2.cons h4
  obtain ⟨_, _, rfl, ⟨n, rfl, hn⟩, h6⟩ := All2.cons h5
  obtain rfl := All2.nil h6
  obtain ⟨a', rfl⟩ := u8_of ha
  obtain ⟨b', rfl⟩ := u8_of hb
  obtain ⟨c', rfl⟩ := u8_of hc
  obtain ⟨d', rfl⟩ := u8_of hd
  exact ⟨⟨wh, tx, ⟨a', b', c', d'⟩, ex, n⟩, rfl, trivial⟩
end Cl
namespace K4
def ok (k : K4) : Prop := True
def ps : List (Value → Prop) := [IsI .u8, IsI .u8, IsI .u8, IsI .u8]
theorem len (k : K4) : k.f.length = ps.length := rfl
theorem pos : 0 < ps.length := by decide
theorem dec (cs : List Value) (h : All2 ps cs) : ∃ k : K4, cs = k.f ∧ k.ok := by
  obtain ⟨_, _, rfl, ⟨a, rfl, ha⟩, h1⟩ := All2.cons h
  obtain ⟨_, _, rfl, ⟨b, rfl, hb⟩, h2⟩ := All2.cons h1
  obtain ⟨_, _, rfl, ⟨c, rfl, hc⟩, h3⟩ := All2.cons h2
  obtain ⟨_, _, rfl, ⟨d, rfl, hd⟩, h4⟩ := All2.cons h3
  obtain rfl := All2.nil h4
  obtain ⟨a', rfl⟩ := u8_of ha
  obtain ⟨b', rfl⟩ := u8_of hb
  obtain ⟨c', rfl⟩ := u8_of hc
  obtain ⟨d', rfl⟩ := u8_of hd
  exact ⟨⟨a', b', c', d'⟩, rfl, trivial⟩
--@@ key flat
theorem flat : Flat Try.prog 32 ps :=
  Flat.array (P := Try.prog) (t := 32) (n := 4) Try.underlying32 (by kernel_rfl) (Flat.int Try.underlying5 (by kernel_rfl))
--@@ key end
end K4
namespace Cl
--@@ call flat
theorem flat : Flat Try.prog 35 ps := by
  have h := Flat.struct (P := Try.prog) (t := 35) (pss := [[IsI .i64], [IsI .i64], K4.ps, [IsB], [IsI .i64]]) Try.underlying35 (by kernel_rfl)
    ⟨rfl, Flat.int Try.underlying3 (by kernel_rfl), rfl, Flat.int Try.underlying3 (by kernel_rfl), rfl, K4.flat, rfl, Flat.bool Try.underlying4 (by kernel_rfl), rfl, Flat.int Try.underlying3 (by kernel_rfl), trivial⟩
  exact h
--@@ call end
end Cl
theorem cl_cells {w : World} {l : List Cl} {b off k : Nat} (h : ∀ j u, (l.flatMap Cl.f)[j]? = some u → w.cell? ⟨b, off + j, none⟩ = some u) (hk : k < l.length) :
    w.cell? ⟨b, off + k * 8, none⟩ = some (.int .i64 l[k].what) ∧ w.cell? ⟨b, off + k * 8 + 1, none⟩ = some (.int .i64 l[k].tx) ∧ w.cell? ⟨b, off + k * 8 + 2, none⟩ = some (.int .u8 (l[k].key.a.toNat : Int)) ∧ w.cell? ⟨b, off + k * 8 + 3, none⟩ = some (.int .u8 (l[k].key.b.toNat : Int)) ∧
    w.cell? ⟨b, off + k * 8 + 4, none⟩ = some (.int .u8 (l[k].key.c.toNat : Int)) ∧ w.cell? ⟨b, off + k * 8 + 5, none⟩ = some (.int .u8 (l[k].key.d.toNat : Int)) ∧ w.cell? ⟨b, off + k * 8 + 6, none⟩ = some (.bool l[k].ex) ∧ w.cell? ⟨b, off + k * 8 + 7, none⟩ = some (.int .i64 l[k].now) := by
  have key : ∀ j, j < 8 → ∀ u, (Cl.f l[k])[j]? = some u → w.cell? ⟨b, off + k * 8 + j, none⟩ = some u := fun j hj u hu => by
    have := flatMap_get Cl.f (c := 8) (fun _ => rfl) l k j l[k] (by simp [hk]) hj
    rw [hu] at this
    have h2 := h _ _ this
    rw [show off + (k * 8 + j) = off + k * 8 + j by omega] at h2
    exact h2
  exact ⟨key 0 (by omega) _ rfl, key 1 (by omega) _ rfl, key 2 (by omega) _ rfl, key 3 (by omega) _ rfl, key 4 (by omega) _ rfl, key 5 (by omega) _ rfl, key 6 (by omega) _ rfl, key 7 (by omega) _ rfl⟩
/-- the first n of a slice -/
theorem slAt_take {α : Type} {w : World} {a : Option Addr} {m cap c : Nat} {l : List α} {f : α → List Value} (hf : ∀ x, (f x).length = c) (h : SlAt w (.slice a m cap) c l.length (l.flatMap f)) (n : Nat) (hn : n ≤ l.length) : SlAt w (.slice a n cap) c (l.take n).length ((l.take n).flatMap f) := by
  obtain ⟨a', cap', he, h1, h2, h3⟩ := h.ex
  injection he with e1 e2 e3
  have hl : (l.take n).length = n := by simp; omega
  refine ⟨a', cap', by rw [hl, e1, e3], by omega, flatMap_len f hf _, fun hp => ?_⟩
  obtain ⟨b, off, h4, h5, h6⟩ := h3 (by omega)
  refine ⟨b, off, h4, h5, fun j u hj => h6 j u ?_⟩
  have e : l.flatMap f = (l.take n).flatMap f ++ (l.drop n).flatMap f := by rw [← List.flatMap_append, List.take_append_drop]
  rw [e]
  rw [List.getElem?_append_left (List.getElem?_eq_some_iff.1 hj).1]
  exact hj
def Roomy (v : Value) : Prop := ∀ a n c, v = .slice a n c → n ≤ c ∧ (a = none → c = 0)
theorem open_room {P : Program} {H : Type} {enc : TypeId × Value → H} {w W : World} {base b0 : Nat} {spare : Nat → Bool} {held : Bool} {r : Reach} {t e : TypeId} {v : Value} {d : DataW H} {p : List MemPlace}
    (ht : P.underlying t = some (.slice e)) (hv : Value.okWide P w r b0 t v) (h : DataW.Trod enc P W base spare held t v d p) : Roomy v := by
  obtain ⟨a0, len, cap, rfl⟩ := okWide_slice ht hv
  obtain ⟨fuel, hf'⟩ := h
  rcases Go.Deep.open_slice ht hf' with ⟨hcs, _⟩ | ⟨a, len', cap', m, n, D, Pl, hcs, hb, hl, hm, hmm, hx, hall⟩
  · simp [Value.cells] at hcs
    obtain ⟨rfl, rfl, rfl⟩ := hcs
    intro a n c e; injection e with e1 e2 e3; exact ⟨by omega, fun _ => e3.symm⟩
  · simp [Value.cells] at hcs
    obtain ⟨rfl, rfl, rfl⟩ := hcs
    intro a n c e; injection e with e1 e2 e3; exact ⟨by omega, fun h => by rw [h] at e1; cases e1⟩
--@@ concordatlaw08.do
set_option maxHeartbeats 8000000 in
set_option maxRecDepth 100000 in
theorem do_any (v : Value) (cs : List Cl) (w : World) (h : SlAt w v 8 cs.length (cs.flatMap Cl.f)) (hl : cs.length ≤ 60) :
    Calls Try.prog 10 #[v] w fun e w' => ∃ A, e = .returned (.pointer (some ⟨A, 0, none⟩)) ∧ TabAt w' (fun b => b < w.heap.size) A (doT cs) ∧ Kept [] w w' := by
  obtain ⟨a, cap, rfl, hmax, _, hc⟩ := h.ex
  have HC := hid hc
  clear h hc hmax
  have hlz : (cs.length : Int) ≤ 60 := by omega
  go_enter Try.func10, Try.ntmps10
  go_wp2_with (go_at_call 19; refine (new5_any w).mono ?_; rintro e w1 ⟨A, rfl, hT, hk⟩)
  have HT0 := hid hT
  have HK0 := hid hk
  clear hT hk
  go_loopg [5] cs.length (fun kx s5 wr => ∃ k : Nat, s5 = .int .i64 k ∧ k ≤ cs.length ∧ cs.length - k ≤ kx ∧ Aside (TabAt wr (fun b => b < w.heap.size) A (doT (cs.take k))) ∧ Aside (Kept [] w wr))
  case atStart => exact ⟨0, by first | rfl | go_num, by omega, by omega, HT0.out, HK0.out⟩
  case round =>
    clear HT0 HK0
    obtain ⟨k, rfl, hk, hkx, HT, HK⟩ := hrel
    by_cases hlt : k < cs.length
    · have hltz : (k : Int) < (cs.length : Int) := by omega
      obtain ⟨b, off, rfl, hb, hcs⟩ := HC.out (by omega)
      have HTK := hid (show doT (cs.take (k + 1)) = stepT (doT (cs.take k)) cs[k] by rw [List.take_succ_eq_append_getElem hlt, doT_snoc])
      obtain ⟨_, hrl, hle⟩ := doT_ok (cs.take k)
      have hkl : (cs.take k).length ≤ 60 := by simp; omega
      have HLE := hid hle
      clear hle
      obtain ⟨d0, d1, d2, d3, d4, d5, d6, d7⟩ := cl_cells (fun j u hj => HK.out.cell (hcs j u hj) (by simp)) hlt
      clear hcs
      generalize (cs.take k).length = m at *
      generalize doT (cs.take k) = t at *
      generalize cs[k] = x at *
      obtain ⟨x1, x2, ⟨y1, y2, y3, y4⟩, x4, x5⟩ := x
      dsimp only at d0 d1 d2 d3 d4 d5 d6 d7
      have HA := hid (HT.out.kept ((Kept.refl [] wr).alloc (.cells #[.int .i64 x1, .int .i64 x2, .int .u8 (y1.toNat : Int), .int .u8 (y2.toNat : Int), .int .u8 (y3.toNat : Int), .int .u8 (y4.toNat : Int), .bool x4, .int .i64 x5] 35)) (by simp))
      have HKA := hid (HK.out.alloc (.cells #[.int .i64 x1, .int .i64 x2, .int .u8 (y1.toNat : Int), .int .u8 (y2.toNat : Int), .int .u8 (y3.toNat : Int), .int .u8 (y4.toNat : Int), .bool x4, .int .i64 x5] 35))
      by_cases h0 : x1 = 0
      · subst h0
        have HS := hid (show stepT t ⟨0, x2, ⟨y1, y2, y3, y4⟩, x4, x5⟩ = _ by unfold stepT; rw [if_pos rfl])
        go_wp2_with (go_at_call 18; refine (ask_at HA.out HLE.out (by omega) x2 ⟨y1, y2, y3, y4⟩ x4 x5).mono ?_; rintro e w2 ⟨rfl, hT2, hK2⟩)
        have HT2 := hid hT2
        have HK2 := hid (KD.then HKA.out hK2 (fun x hx _ => hx))
        clear hT2 hK2
        go_wp2_with fail
        go_roundg (cs.length - (k + 1))
        case measure => omega
        case rel => exact ⟨k + 1, by first | rfl | go_num, by omega, Nat.le_refl _, by show TabAt _ _ _ _; rw [HTK.out, HS.out]; exact HT2.out, HK2.out⟩
      by_cases h1 : x1 = 1
      · subst h1
        have HS := hid (show stepT t ⟨1, x2, ⟨y1, y2, y3, y4⟩, x4, x5⟩ = _ by unfold stepT; rw [if_neg (by show ¬ (1 : Int) = 0; omega), if_pos rfl])
        go_wp2_with (go_at_call 14; refine (free_at HA.out HLE.out (by omega) (by omega) x2).mono ?_; rintro e w2 ⟨rfl, hT2, hK2⟩)
        have HT2 := hid hT2
        have HK2 := hid (KD.then HKA.out hK2 (fun x hx _ => hx))
        clear hT2 hK2
        go_wp2_with fail
        go_roundg (cs.length - (k + 1))
        case measure => omega
        case rel => exact ⟨k + 1, by first | rfl | go_num, by omega, Nat.le_refl _, by show TabAt _ _ _ _; rw [HTK.out, HS.out]; exact HT2.out, HK2.out⟩
      by_cases h2 : x1 = 2
      · subst h2
        have HS := hid (show stepT t ⟨2, x2, ⟨y1, y2, y3, y4⟩, x4, x5⟩ = _ by unfold stepT; rw [if_neg (by show ¬ (2 : Int) = 0; omega), if_neg (by show ¬ (2 : Int) = 1; omega), if_pos rfl])
        go_wp2_with (go_at_call 20; refine (quit_at HA.out HLE.out (by omega) x2).mono ?_; rintro e w2 ⟨rfl, hT2, hK2⟩)
        have HT2 := hid hT2
        have HK2 := hid (KD.then HKA.out hK2 (fun x hx _ => hx))
        clear hT2 hK2
        go_wp2_with fail
        go_roundg (cs.length - (k + 1))
        case measure => omega
        case rel => exact ⟨k + 1, by first | rfl | go_num, by omega, Nat.le_refl _, by show TabAt _ _ _ _; rw [HTK.out, HS.out]; exact HT2.out, HK2.out⟩
      · skip
        have b0 : (x1 == 0) = false := by simpa using h0
        have b1 : (x1 == 1) = false := by simpa using h1
        have b2 : (x1 == 2) = false := by simpa using h2
        have HS := hid (show stepT t ⟨x1, x2, ⟨y1, y2, y3, y4⟩, x4, x5⟩ = t by unfold stepT; rw [if_neg h0, if_neg h1, if_neg h2])
        clear h0 h1 h2
        go_wp2_with fail
        go_roundg (cs.length - (k + 1))
        case measure => omega
        case rel => exact ⟨k + 1, by first | rfl | go_num, by omega, Nat.le_refl _, by show TabAt _ _ _ _; rw [HTK.out, HS.out]; exact HA.out, HKA.out⟩
    · obtain rfl : k = cs.length := by omega
      have hltz : ¬ (cs.length : Int) < (cs.length : Int) := by omega
      rw [List.take_length] at HT
      go_wp2_with fail
      go_returns
      exact ⟨A, rfl, HT.out, HK.out⟩
--@@ end
end Go.Proofs.Ytiheoddlknbomaa
