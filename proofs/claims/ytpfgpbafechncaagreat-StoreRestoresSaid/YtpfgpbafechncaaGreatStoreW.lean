/- What the statements' walks on a store share. -/
import Derived.Test.YtpfgpbafechncaaGreatStoreAw
import Derived.Test.YtpfgpbafechncaaGreatM9
import Derived.Test.YtpfgpbafechncaaGreatM12
import Derived.Test.YtpfgpbafechncaaGreatR4Right
set_option linter.all false
namespace Go.Proofs.YtpfgpbafechncaaGreat
open Go.RowKit Go.Shelf Go.Lib Go.Sort Go.Proofs
--@@ concordatlaw10.do
theorem StoreAt.widen {w w' : World} {D : Nat → Prop} {A : Nat} {s : Sp} (h : StoreAt w D A s) (hk : Kept [] w w') : StoreAt w' (fun b => D b ∨ (w.heap.size ≤ b ∧ b < w'.heap.size)) A s := by
  obtain ⟨M, L, bv, ws, H⟩ := h
  exact ⟨M, L, bv, ws, H.widen hk (fun x hx => by cases hx)⟩
theorem StoreAt.kept {w w' : World} {D : Nat → Prop} {A : Nat} {s : Sp} (h : StoreAt w D A s) (hk : Kept [] w w') : StoreAt w' D A s := by
  obtain ⟨M, L, bv, ws, H⟩ := h
  exact ⟨M, L, bv, ws, H.kept hk (fun x hx => by cases hx)⟩
theorem StoreAt.less {w : World} {D E : Nat → Prop} {A : Nat} {s : Sp} (h : StoreAt w D A s) (hE : ∀ b, E b → D b) : StoreAt w E A s := by
  obtain ⟨M, L, bv, ws, H⟩ := h
  exact ⟨M, L, bv, ws, H.less hE⟩
theorem StoreAt.dlt {w : World} {D : Nat → Prop} {A : Nat} {s : Sp} (h : StoreAt w D A s) : ∀ b, D b → b < w.heap.size := by
  obtain ⟨M, L, bv, ws, H⟩ := h
  exact H.dlt
theorem SlAt.kd' {w w' : World} {v : Value} {c n : Nat} {xs : List Value} {E : Nat → Prop} (h : SlAt w v c n xs) (hk : KD E w w') (hE : ∀ b, bvB v b → E b) : SlAt w' v c n xs := by
  obtain ⟨a, cap, h1, h2, h3, h4⟩ := h.ex
  refine ⟨a, cap, h1, h2, h3, fun hn => ?_⟩
  obtain ⟨b, off, h5, h6, h7⟩ := h4 hn
  subst h5
  exact ⟨b, off, rfl, Nat.lt_of_lt_of_le h6 hk.size, fun j u hu => hk.cell (h7 j u hu) (hE b ⟨_, _, _, h1, hn, rfl⟩)⟩
theorem kd_kept0 {n0 : Nat} {w0 w w' : World} {D : Nat → Prop} (hk : Kept [] w0 w) (h : KD D w w') (hD : ∀ b, b < n0 → D b) (hn : w0.heap.size ≤ n0) : Kept [] w0 w' := KD.then hk h (fun x hx _ => hD x (by omega))
theorem call_lim {L : List (Cs × Value)} {s : Sp} (HO : SpOk s) (HL : Lim s 0) (hg : greatC (L.map (·.1)) = false) (k : Nat) : SpOk (s.steps ((L.map (·.1)).take k)) ∧ Lim (s.steps ((L.map (·.1)).take k)) 1280 := by
  refine ⟨HO.steps _, (HL.steps HO _).mono ?_⟩
  have h1 := (greatC_false hg).1
  have h2 : ((L.map (·.1)).take k).length ≤ (L.map (·.1)).length := List.length_take_le' _ _
  omega
theorem call_all {L : List (Cs × Value)} {s : Sp} : s.steps ((L.map (·.1)).take L.length) = s.steps (L.map (·.1)) := by rw [List.take_of_length_le (by simp)]
theorem do10_step {wr : World} {D : Nat → Prop} {A : Nat} {s : Sp} {L : List (Cs × Value)} {k : Nat} (h : StoreAt wr D A (s.steps ((L.map (·.1)).take k))) (HO : SpOk s) (HL : Lim s 0) (hg : greatC (L.map (·.1)) = false) (hk : k < L.length) (hr : SlAt wr L[k].2 6 L[k].1.pairs.length (L[k].1.pairs.flatMap Pr.f)) :
    Calls Tryz.prog 20 #[.pointer (some ⟨A, 0, none⟩), .agg (csF L[k]).toArray] wr fun e w' => e = .returned (.tuple #[]) ∧ StoreAt w' D A (s.steps ((L.map (·.1)).take (k + 1))) ∧ KD D wr w' := by
  obtain ⟨h1, h2⟩ := call_lim HO HL hg k
  have hkl : k < (L.map (·.1)).length := by simpa using hk
  rw [steps_take s (L.map (·.1)) k hkl]
  have e : (L.map (·.1))[k] = L[k].1 := by simp
  rw [e]
  exact do10_any h h1 h2 (by decide) L[k] hr ((greatC_false hg).2 _ (List.mem_map.2 ⟨_, List.getElem_mem hk, rfl⟩))
structure Opx where
  kind : Int
  tx : Int
  key : K4
  n : Int
namespace Opx
def f (o : Opx) : List Value := [.int .i64 o.kind, .int .i64 o.tx, .int .u8 (o.key.a.toNat : Int), .int .u8 (o.key.b.toNat : Int), .int .u8 (o.key.c.toNat : Int), .int .u8 (o.key.d.toNat : Int), .int .i64 o.n]
def ok (o : Opx) : Prop := True
theorem flat : Flat Tryz.prog 35 opPs := op_flat
theorem dec (cs : List Value) (h : All2 opPs cs) : ∃ o : Opx, cs = o.f ∧ o.ok := by
  obtain ⟨_, _, rfl, ⟨kind, rfl, _⟩, g4⟩ := All2.cons h
  obtain ⟨_, _, rfl, ⟨otx, rfl, _⟩, g5⟩ := All2.cons g4
  obtain ⟨_, _, rfl, ⟨a, rfl, ha⟩, h1⟩ := All2.cons g5
  obtain ⟨_, _, rfl, ⟨b, rfl, hb⟩, h2⟩ := All2.cons h1
  obtain ⟨_, _, rfl, ⟨c, rfl, hc⟩, h3⟩ := All2.cons h2
  obtain ⟨_, _, rfl, ⟨d, rfl, hd⟩, h4⟩ := All2.cons h3
  obtain ⟨_, _, rfl, ⟨n, rfl, _⟩, h5⟩ := All2.cons h4
  obtain rfl := All2.nil h5
  obtain ⟨a', rfl⟩ := u8_of ha
  obtain ⟨b', rfl⟩ := u8_of hb
  obtain ⟨c', rfl⟩ := u8_of hc
  obtain ⟨d', rfl⟩ := u8_of hd
  exact ⟨⟨kind, otx, ⟨a', b', c', d'⟩, n⟩, rfl, trivial⟩
end Opx
theorem aS0_ok : SpOk aS0 := SpOk.new List.Pairwise.nil (fun p hp => by cases hp) (by decide)
theorem aS0_lim : Lim aS0 0 := Lim.new []
--@@ reply eq
theorem reply_same (e n : Int) (b : Bool) (w : World) : (Op.equalIn 10000 46 (.agg #[.int .i64 e, .bool b, .int .i64 n]) (.agg #[.int .i64 e, .bool b, .int .i64 n])).run Tryz.prog w = .ok true w := by
  have hS : Tryz.prog.underlying 46 = some (.struct (Tryz.prog.fieldsOf 46)) := by kernel_rfl
  have hp : Tryz.prog.stoodInHeld 46 = false := by kernel_rfl
  rw [show (10000 : Nat) = 9999 + 1 from rfl, run_equalIn_agg w 9999 _ _ _ hS hp]
  simp only [Program.fieldsOf, Tryz.underlying46, Op.eqFields]
  go_simp
--@@ end
end Go.Proofs.YtpfgpbafechncaaGreat
