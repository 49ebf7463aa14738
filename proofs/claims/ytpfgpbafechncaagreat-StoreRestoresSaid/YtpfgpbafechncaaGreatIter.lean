/- Contracts of slices.Sorted over maps.Keys at this program: written by programs of the kit. -/
import Derived.Shelf.SlIterI.Nil
import Derived.Shelf.SortM.Plain
import Derived.Shelf.SortM.SortNone
import Derived.Test.YtpfgpbafechncaaGreatProg
set_option linter.all false
namespace Go.Proofs
open Go.RowKit Go.Maps Go.Sort Go.Shelf
def Tryz.keys44_ren : Go.Shelf.Ren := ⟨fun | 7 => 44 | 10 => 83 | n => n, fun | 23 => 80 | 26 => 3 | 3 => 83 | 28 => 95 | 0 => 0 | 27 => 94 | 33 => 111 | 4 => 4 | n => n, fun | n => n⟩
theorem Tryz.keys44 : Go.Proofs.SlLaysZI.n7 Tryz.prog Tryz.keys44_ren := {
  mixed := by kernel_rfl
  f7 := ⟨Tryz.f44.name, by decide, Tryz.func44.trans (congrArg some (by kernel_rfl))⟩
  f10 := ⟨Tryz.f83.name, by decide, Tryz.func83.trans (congrArg some (by kernel_rfl))⟩
  t0 := Tryz.underlying0
  a0 := Tryz.isAgg0
  z0 := Tryz.sizeOf0
  v0 := Tryz.zeroValue0
  t4 := Tryz.underlying4
  a4 := Tryz.isAgg4
  z4 := Tryz.sizeOf4
  v4 := Tryz.zeroValue4
  t23 := Tryz.underlying80
  a23 := Tryz.isAgg80
  z23 := Tryz.sizeOf80
  v23 := Tryz.zeroValue80
  t26 := Tryz.underlying3
  a26 := Tryz.isAgg3
  z26 := Tryz.sizeOf3
  v26 := Tryz.zeroValue3
  t27 := Tryz.underlying94
  a27 := Tryz.isAgg94
  z27 := Tryz.sizeOf94
  v27 := Tryz.zeroValue94
  t28 := Tryz.underlying95
  a28 := Tryz.isAgg95
  z28 := Tryz.sizeOf95
  v28 := Tryz.zeroValue95
  t33 := Tryz.underlying111
  a33 := Tryz.isAgg111
  z33 := Tryz.sizeOf111
  v33 := Tryz.zeroValue111 }
def Tryz.sorted43_ren : Go.Shelf.Ren := ⟨fun | 6 => 43 | 8 => 81 | 9 => 82 | 11 => 106 | 13 => 96 | 12 => 107 | 23 => 123 | 24 => 124 | 14 => 130 | 15 => 131 | 16 => 132 | 17 => 133 | 18 => 134 | 19 => 135 | 20 => 136 | 21 => 137 | 22 => 138 | 25 => 147 | 26 => 141 | 27 => 142 | 28 => 148 | 29 => 149 | 30 => 150 | 31 => 162 | n => n, fun | 26 => 3 | 28 => 95 | 24 => 55 | 0 => 0 | 3 => 3 | 37 => 153 | 48 => 178 | 50 => 180 | 4 => 4 | 40 => 171 | 39 => 170 | 45 => 175 | 5 => 5 | 9 => 9 | 51 => 192 | 55 => 196 | 57 => 201 | 58 => 202 | 33 => 111 | n => n, fun | n => n⟩
theorem Tryz.sorted43 : Go.Proofs.SlLaysZI.n6 Tryz.prog Tryz.sorted43_ren := {
  mixed := by kernel_rfl
  f6 := ⟨Tryz.f43.name, by decide, Tryz.func43.trans (congrArg some (by kernel_rfl))⟩
  f8 := ⟨Tryz.f81.name, by decide, Tryz.func81.trans (congrArg some (by kernel_rfl))⟩
  f11 := ⟨Tryz.f106.name, by decide, Tryz.func106.trans (congrArg some (by kernel_rfl))⟩
  t0 := Tryz.underlying0
  a0 := Tryz.isAgg0
  z0 := Tryz.sizeOf0
  v0 := Tryz.zeroValue0
  t24 := Tryz.underlying55
  a24 := Tryz.isAgg55
  z24 := Tryz.sizeOf55
  v24 := Tryz.zeroValue55
  t26 := Tryz.underlying3
  a26 := Tryz.isAgg3
  z26 := Tryz.sizeOf3
  v26 := Tryz.zeroValue3
  t28 := Tryz.underlying95
  a28 := Tryz.isAgg95
  z28 := Tryz.sizeOf95
  v28 := Tryz.zeroValue95
  i26 := by kernel_rfl }
def Tryz.sort82_ren : Go.Shelf.Ren := ⟨fun | 5 => 82 | 8 => 96 | 7 => 107 | 19 => 123 | 20 => 124 | 10 => 130 | 11 => 131 | 12 => 132 | 13 => 133 | 14 => 134 | 15 => 135 | 16 => 136 | 17 => 137 | 18 => 138 | 30 => 147 | 31 => 141 | 32 => 142 | 33 => 148 | 34 => 149 | 35 => 150 | 40 => 162 | n => n, fun | 23 => 55 | 25 => 3 | 3 => 3 | 32 => 153 | 22 => 55 | 0 => 0 | 44 => 178 | 46 => 180 | 4 => 4 | 36 => 171 | 35 => 170 | 41 => 175 | 5 => 5 | 9 => 9 | 53 => 192 | 57 => 196 | 63 => 201 | 64 => 202 | n => n, fun | n => n⟩
theorem Tryz.sort82 : Go.Proofs.SlLaysM.n5 Tryz.prog Tryz.sort82_ren := {
  mixed := by kernel_rfl
  f5 := ⟨Tryz.f82.name, by decide, Tryz.func82.trans (congrArg some (by kernel_rfl))⟩
  f7 := ⟨Tryz.f107.name, by decide, Tryz.func107.trans (congrArg some (by kernel_rfl))⟩
  f8 := Tryz.func96.trans (congrArg some (by kernel_rfl))
  f10 := ⟨Tryz.f130.name, by decide, Tryz.func130.trans (congrArg some (by kernel_rfl))⟩
  f11 := ⟨Tryz.f131.name, by decide, Tryz.func131.trans (congrArg some (by kernel_rfl))⟩
  f12 := ⟨Tryz.f132.name, by decide, Tryz.func132.trans (congrArg some (by kernel_rfl))⟩
  f13 := ⟨Tryz.f133.name, by decide, Tryz.func133.trans (congrArg some (by kernel_rfl))⟩
  f14 := ⟨Tryz.f134.name, by decide, Tryz.func134.trans (congrArg some (by kernel_rfl))⟩
  f15 := ⟨Tryz.f135.name, by decide, Tryz.func135.trans (congrArg some (by kernel_rfl))⟩
  f16 := ⟨Tryz.f136.name, by decide, Tryz.func136.trans (congrArg some (by kernel_rfl))⟩
  f17 := ⟨Tryz.f137.name, by decide, Tryz.func137.trans (congrArg some (by kernel_rfl))⟩
  f18 := ⟨Tryz.f138.name, by decide, Tryz.func138.trans (congrArg some (by kernel_rfl))⟩
  f19 := Tryz.func123.trans (congrArg some (by kernel_rfl))
  f20 := Tryz.func124.trans (congrArg some (by kernel_rfl))
  f30 := ⟨Tryz.f147.name, by decide, Tryz.func147.trans (congrArg some (by kernel_rfl))⟩
  f31 := Tryz.func141.trans (congrArg some (by kernel_rfl))
  f32 := Tryz.func142.trans (congrArg some (by kernel_rfl))
  f33 := ⟨Tryz.f148.name, by decide, Tryz.func148.trans (congrArg some (by kernel_rfl))⟩
  f34 := ⟨Tryz.f149.name, by decide, Tryz.func149.trans (congrArg some (by kernel_rfl))⟩
  f35 := ⟨Tryz.f150.name, by decide, Tryz.func150.trans (congrArg some (by kernel_rfl))⟩
  f40 := ⟨Tryz.f162.name, by decide, Tryz.func162.trans (congrArg some (by kernel_rfl))⟩
  t0 := Tryz.underlying0
  a0 := Tryz.isAgg0
  z0 := Tryz.sizeOf0
  v0 := Tryz.zeroValue0
  t3 := Tryz.underlying3
  a3 := Tryz.isAgg3
  z3 := Tryz.sizeOf3
  v3 := Tryz.zeroValue3
  t4 := Tryz.underlying4
  a4 := Tryz.isAgg4
  z4 := Tryz.sizeOf4
  v4 := Tryz.zeroValue4
  t5 := Tryz.underlying5
  a5 := Tryz.isAgg5
  z5 := Tryz.sizeOf5
  v5 := Tryz.zeroValue5
  t9 := Tryz.underlying9
  a9 := Tryz.isAgg9
  z9 := Tryz.sizeOf9
  v9 := Tryz.zeroValue9
  t22 := Tryz.underlying55
  a22 := Tryz.isAgg55
  z22 := Tryz.sizeOf55
  v22 := Tryz.zeroValue55
  t23 := Tryz.underlying55
  a23 := Tryz.isAgg55
  z23 := Tryz.sizeOf55
  v23 := Tryz.zeroValue55
  t25 := Tryz.underlying3
  a25 := Tryz.isAgg3
  z25 := Tryz.sizeOf3
  v25 := Tryz.zeroValue3
  t32 := Tryz.underlying153
  a32 := Tryz.isAgg153
  z32 := Tryz.sizeOf153
  v32 := Tryz.zeroValue153
  t35 := Tryz.underlying170
  a35 := Tryz.isAgg170
  z35 := Tryz.sizeOf170
  v35 := Tryz.zeroValue170
  t36 := Tryz.underlying171
  a36 := Tryz.isAgg171
  z36 := Tryz.sizeOf171
  v36 := Tryz.zeroValue171
  t41 := Tryz.underlying175
  a41 := Tryz.isAgg175
  z41 := Tryz.sizeOf175
  v41 := Tryz.zeroValue175
  t44 := Tryz.underlying178
  a44 := Tryz.isAgg178
  z44 := Tryz.sizeOf178
  v44 := Tryz.zeroValue178
  t46 := Tryz.underlying180
  a46 := Tryz.isAgg180
  z46 := Tryz.sizeOf180
  v46 := Tryz.zeroValue180
  t53 := Tryz.underlying192
  a53 := Tryz.isAgg192
  z53 := Tryz.sizeOf192
  v53 := Tryz.zeroValue192
  t57 := Tryz.underlying196
  a57 := Tryz.isAgg196
  z57 := Tryz.sizeOf196
  v57 := Tryz.zeroValue196
  t63 := Tryz.underlying201
  a63 := Tryz.isAgg201
  z63 := Tryz.sizeOf201
  v63 := Tryz.zeroValue201
  t64 := Tryz.underlying202
  a64 := Tryz.isAgg202
  z64 := Tryz.sizeOf202
  v64 := Tryz.zeroValue202 }
/-- slices.Sort's two contracts at this dump, at the fence that asks nothing. -/
theorem Tryz.sorts43 (m : Nat) : AnyZI.SortsIn Tryz.prog Tryz.sorted43_ren Fence.wide m :=
  ⟨fun blk off cap ss W hH hblk hsz => callsIn_wide.2 (AnyM.slices_Sort_int Tryz.sort82 blk off cap ss W hH hblk hsz),
   fun p cap W => callsIn_wide.2 (AnyM.slices_Sort_int_none Tryz.sort82 p cap W)⟩

/-- **maps.Keys[map[int]*concordat/store.work,int,*concordat/store.work], at whatever map, the nil one too:** a function value over ONE NEW BLOCK, which holds the map. -/
theorem Tryz.maps_Keys_44 (mb : Option Nat) (W : World) : CallsIn Fence.wide 5 Tryz.prog 44 #[.map mb] W fun e w' => e = .returned (.func (.func 83) #[] #[.pointer (some ⟨W.heap.size, 0, none⟩)]) ∧ w' = W.alloc (.cells #[.map mb] 80) :=
  AnyZI.keys_in Tryz.keys44 Fence.wide 5 trivial rfl mb W

set_option maxHeartbeats 1000000 in
/-- **slices.Sorted[int] AT WHAT maps.Keys[map[int]*concordat/store.work,int,*concordat/store.work] HANDED BACK FOR A MAP THAT IS NOT nil** ('w': the world AHEAD of maps.Keys' call): A NEW SLICE THAT HOLDS THE MAP's KEYS, SORTED; nil just where it has none; nothing that lay before has turned. -/
theorem Tryz.slices_Sorted_keys_43_44 {H : Type} (b nn : Nat) (D0 : DataW H) (R : Value → Option (DataW H × List MemPlace)) (w : World) (hown : w.ownsMap Tryz.prog 3 R b nn D0) (hmax : Maps.size D0 ≤ maxLen) (hbytes : Maps.size D0 * 8 ≤ 140737488355328) :
    CallsIn Fence.wide 5 Tryz.prog 43 #[.func (.func 83) #[] #[.pointer (some ⟨w.heap.size, 0, none⟩)]] (w.alloc (.cells #[.map (some b)] 80)) fun e w' => ∃ (v : Value) (ss : List Int), e = .returned v ∧ ss.Perm (intKeys D0) ∧
      w'.ownsRow (w.alloc (.cells #[.map (some b)] 80)).heap.size 3 1 v ss.length ((ss.mergeSort (fun x y => decide (x ≤ y))).map encZ) ∧ (v = .slice none 0 0 ↔ ss = []) ∧ Below (w.alloc (.cells #[.map (some b)] 80)).heap.size (w.alloc (.cells #[.map (some b)] 80)) w' := by
  have hbl := hown.lt
  have hseq : SeqGives Fence.wide 2 Tryz.prog 83 #[.pointer (some ⟨w.heap.size, 0, none⟩)] encZ (fun ss => ss.Perm (intKeys D0)) (Maps.size D0) (w.alloc (.cells #[.map (some b)] 80)) :=
    AnyZI.keys_gives (ρ := Tryz.keys44_ren) { Tryz.keys44 with } Fence.wide _ trivial rfl (by omega) w.heap.size b nn D0 _ (by simp) (by simp) (by
      obtain ⟨es, clock, hb, Ft, hs, hD⟩ := hown
      exact ⟨es, clock, (Below.heap_alloc _ _ b hbl).trans hb, Ft, hs, hD⟩)
  exact AnyZI.sorted_in Tryz.sorted43 Fence.wide 5 trivial trivial trivial trivial rfl (by omega) (Tryz.sorts43 _) (enters_of Tryz.func82 (by kernel_rfl) rfl) 83 #[.pointer (some ⟨w.heap.size, 0, none⟩)] trivial (enters_of Tryz.func83 (by kernel_rfl) rfl) _ _ hmax hbytes _ hseq

set_option maxHeartbeats 1000000 in
/-- **.. AND FOR THE nil MAP: nil.** -/
theorem Tryz.slices_Sorted_keys_nil_43_44 (w : World) :
    CallsIn Fence.wide 5 Tryz.prog 43 #[.func (.func 83) #[] #[.pointer (some ⟨w.heap.size, 0, none⟩)]] (w.alloc (.cells #[.map none] 80)) fun e w' => ∃ (v : Value) (ss : List Int), e = .returned v ∧ ss = [] ∧
      w'.ownsRow (w.alloc (.cells #[.map none] 80)).heap.size 3 1 v ss.length ((ss.mergeSort (fun x y => decide (x ≤ y))).map encZ) ∧ (v = .slice none 0 0 ↔ ss = []) ∧ Below (w.alloc (.cells #[.map none] 80)).heap.size (w.alloc (.cells #[.map none] 80)) w' := by
  have hseq : SeqGives Fence.wide 2 Tryz.prog 83 #[.pointer (some ⟨w.heap.size, 0, none⟩)] encZ (fun ss : List Int => ss = []) 0 (w.alloc (.cells #[.map none] 80)) :=
    AnyZI.keys_gives_nil (ρ := Tryz.keys44_ren) { Tryz.keys44 with } Fence.wide _ trivial rfl w.heap.size _ (by simp) (by simp)
  exact AnyZI.sorted_in Tryz.sorted43 Fence.wide 5 trivial trivial trivial trivial rfl (by omega) (Tryz.sorts43 _) (enters_of Tryz.func82 (by kernel_rfl) rfl) 83 #[.pointer (some ⟨w.heap.size, 0, none⟩)] trivial (enters_of Tryz.func83 (by kernel_rfl) rfl) _ 0 (Nat.zero_le _) (by omega) _ hseq



end Go.Proofs
