/- Rows of wishes in memory; who is found among them; who is taken away. -/
import Derived.Test.YtiheoddlknbomaaWDel
import Derived.Test.YtiheoddlknbomaaOwn
set_option linter.all false
namespace Go.Proofs.Ytiheoddlknbomaa
open Go.RowKit Go.Shelf Go.Lib Go.Sort Go.Proofs
set_option linter.unusedVariables false
set_option linter.unusedSimpArgs false

def Wi.f (w : Wi) : List Value := [.int .i64 w.tx, .bool w.ex, .int .i64 w.since, .bool w.ri]
def Wi.v (w : Wi) : Value := .agg #[.int .i64 w.tx, .bool w.ex, .int .i64 w.since, .bool w.ri]
theorem wf_len (x : Wi) : (Wi.f x).length = 4 := rfl
theorem wf_one (x : Wi) : ∀ v ∈ Wi.f x, v.oneCell' = true := fun v hv => by
  simp only [Wi.f, List.mem_cons, List.not_mem_nil, or_false] at hv
  rcases hv with rfl | rfl | rfl | rfl <;> rfl
theorem wflat_len (l : List Wi) : (l.flatMap Wi.f).length = l.length * 4 := rowK_len wf_len l
/-- wishes in a block, from a place on -/
structure BlkW (T : TypeId) (w : World) (g off cap sz : Nat) (l : List Wi) : Prop where
  ex : ∃ cur, w.heap[g]? = some (.cells cur T (0, 0)) ∧ cur.size = sz ∧ ∀ j u, (l.flatMap Wi.f)[j]? = some u → cur[off + j]? = some u
  le : l.length ≤ cap
  mx : cap ≤ 9223372036854775807
  fit : off + cap * 4 ≤ sz
section
variable {T : TypeId} {w w' : World} {g off cap sz : Nat} {l : List Wi}
theorem BlkW.lt (h : BlkW T w g off cap sz l) : g < w.heap.size := by
  obtain ⟨cur, h1, _⟩ := h.ex
  exact (Array.getElem?_eq_some_iff.1 h1).1
theorem BlkW.cell (h : BlkW T w g off cap sz l) {j : Nat} {u : Value} (hj : (l.flatMap Wi.f)[j]? = some u) : w.cell? ⟨g, off + j, none⟩ = some u := by
  obtain ⟨cur, h1, _, h3⟩ := h.ex
  rw [cell_of_row w g _ cur T (0, 0) h1]
  exact h3 j u hj
theorem BlkW.frozen (h : BlkW T w g off cap sz l) (j : Nat) : w.frozen? ⟨g, j, none⟩ = false := by
  obtain ⟨cur, h1, _⟩ := h.ex
  simp [World.frozen?, h1]
theorem BlkW.kept {S : List Nat} (h : BlkW T w g off cap sz l) (hk : Kept S w w') (hg : g ∉ S) : BlkW T w' g off cap sz l := by
  obtain ⟨cur, h1, h2, h3⟩ := h.ex
  exact ⟨⟨cur, (hk.block g h.lt hg).trans h1, h2, h3⟩, h.le, h.mx, h.fit⟩
theorem BlkW.holds (h : BlkW T w g off cap sz l) : HoldsK Wi.f 4 w g off l.toArray := by
  refine holds_of_cells wf_len l.toArray (fun i hi j u hu => ?_) (fun j => h.frozen j)
  have hj : j < 4 := by have := (List.getElem?_eq_some_iff.1 hu).1; rwa [wf_len] at this
  have hi' : i < l.length := by simpa using hi
  have hb : i * 4 + j < l.length * 4 := by omega
  have hg := rowK_at (enc := Wi.f) (k := 4) wf_len l (i * 4 + j) hb
  rw [show (i * 4 + j) / 4 = i by omega, show (i * 4 + j) % 4 = j by omega] at hg
  rw [show off + i * 4 + j = off + (i * 4 + j) by omega]
  refine h.cell ?_
  rw [hg]
  have : l.toArray[i]! = l[i]! := by simp
  rw [this] at hu
  exact hu
theorem BlkW.rowK (h : BlkW T w g off cap sz l) : RowK Wi.f 4 w g off l.toArray := ⟨wf_len, wf_one, h.holds, h.lt⟩
end
/-- a row that was turned in place: the block is as great as before -/
theorem mapBlock_at {w : World} {b : Nat} {f : Array Value → Array Value} {cur : Array Value} {e : TypeId} {fr : Nat × Nat} (h : w.heap[b]? = some (.cells cur e fr)) : (mapBlock w b f).heap[b]? = some (.cells (f cur) e fr) := by
  simp [mapBlock, Array.getElem?_modify, h, onCells]
theorem swk_block {α : Type} [Inhabited α] {enc : α → List Value} {k : Nat} {w0 W : World} {blk off : Nat} {d : Array α} (h : SWK enc k w0 blk off d W) {cur : Array Value} {e : TypeId} {fr : Nat × Nat} (hb : w0.heap[blk]? = some (.cells cur e fr)) :
    ∃ cur', W.heap[blk]? = some (.cells cur' e fr) ∧ cur'.size = cur.size := by
  obtain ⟨n, os, rfl⟩ := h
  have h1 : (mapBlock (Sort.ahead w0 n) blk (putCells id off (flatK enc k d))).heap[blk]? = some (.cells (putCells id off (flatK enc k d) cur) e fr) := mapBlock_at hb
  refine ⟨putCells id off (flatK enc k d) cur, ?_, by simp [putCells]⟩
  unfold sortWorldK putRowK putRow grow
  rw [Array.getElem?_append_left (Array.getElem?_eq_some_iff.1 h1).1]
  exact h1
theorem swk_same {α : Type} [Inhabited α] {enc : α → List Value} {k : Nat} {w0 W : World} {blk off : Nat} {d : Array α} (h : SWK enc k w0 blk off d W) (hH : HoldsK enc k w0 blk off d) : Kept [] w0 W := by
  obtain ⟨n, os, rfl⟩ := h
  unfold sortWorldK
  rw [putRowK_self _ _ _ _ _ _ (holdsK_ahead _ _ _ n _ _ _ hH)]
  exact kept_grow ((Kept.refl [] w0).drewN n) os
theorem BlkW.of_swk {T : TypeId} {w W : World} {g off cap sz : Nat} {l : List Wi} (h : BlkW T w g off cap sz l) {d' : Array Wi} (S : SWK Wi.f 4 w g off d' W) (hd : d'.size = l.length) (l' : List Wi) (hl : l'.length ≤ d'.size) (he : ∀ x, x < l'.length → d'[x]! = l'[x]!) : BlkW T W g off cap sz l' := by
  obtain ⟨cur, h1, h2, h3⟩ := h.ex
  obtain ⟨cur', c1, c2⟩ := swk_block S h1
  have hH := S.holds h.lt h.holds (by simpa using hd)
  have hle := h.le
  have hmx := h.mx
  have hs := holdsK_slAt wf_len hH (S.lt h.lt) l' cap hl he (by omega)
  refine ⟨⟨cur', c1, by rw [c2, h2], fun j u hj => ?_⟩, by omega, h.mx, h.fit⟩
  obtain ⟨a, c, ha, _, _, hc⟩ := hs.ex
  have hpos : 0 < l'.length := by
    cases l' with
    | nil => simp at hj
    | cons y l' => simp
  obtain ⟨b, o, hb, _, hcs⟩ := hc hpos
  cases ha
  cases hb
  have := hcs j u hj
  rw [cell_of_row W g _ cur' T (0, 0) c1] at this
  exact this
def idxI (p : Wi → Bool) (l : List Wi) : Int := match l.findIdx? p with
  | none => -1
  | some i => (i : Int)
/-- a row of wishes, as a value: nil, or cells of a block -/
def WRow (T : TypeId) (w : World) (v : Value) (l : List Wi) : Prop := (v = .slice none 0 0 ∧ l = []) ∨ ∃ g off cap sz, v = .slice (some ⟨g, off, none⟩) l.length cap ∧ BlkW T w g off cap sz l
theorem WRow.kept {T : TypeId} {w w' : World} {v : Value} {l : List Wi} {S : List Nat} (h : WRow T w v l) (hk : Kept S w w') (hg : ∀ g, v.ownBlock = some g → g ∉ S) : WRow T w' v l := by
  rcases h with h | ⟨g, off, cap, sz, rfl, h⟩
  · exact .inl h
  · exact .inr ⟨g, off, cap, sz, rfl, h.kept hk (hg g rfl)⟩
--@@ slices.IndexFunc[[]lock.wish,lock.wish]
theorem wAgg : ∀ w, (isAgg 59).run Try.prog w = .ok true w := fun w => by kernel_rfl
theorem wSize : ∀ w, (Go.sizeOf 59).run Try.prog w = .ok 4 w := fun w => by kernel_rfl
theorem wZero : ∀ w, (zeroValue 59).run Try.prog w = .ok (.agg (Wi.f ⟨0, false, 0, false⟩).toArray) w := fun w => by kernel_rfl
set_option maxHeartbeats 1000000 in
set_option maxRecDepth 100000 in
theorem windex_any (v : Value) (l : List Wi) (w : World) (hv : WRow 59 w v l) (gf : Nat) (cb : Array Value) (p : Wi → Bool)
    (eg : ∀ args w, (callFunc gf args).run Try.prog w = .ok (.enter gf args) w)
    (hp : ∀ W, Kept v.ownBlock.toList w W → ∀ x : Wi, Calls Try.prog gf (#[.agg x.f.toArray] ++ cb) W fun e w' => e = .returned (.bool (p x)) ∧ ∃ q os, w' = grow (W.drewN q) os) (hl : l.length < 1000000000000) :
    Calls Try.prog 41 #[v, .func (.func gf) #[] cb] w fun e w' => e = .returned (.int .i64 (idxI p l)) ∧ Kept [] w w' := by
  rcases hv with ⟨rfl, rfl⟩ | ⟨g, off, cap, sz, rfl, h⟩
  · clear hp eg
    go_enter Try.func41, Try.ntmps41
    go_wp2
    go_loopg [5, 8] 0 (fun kx s5 s8 wr => s8 = .int .i64 0 ∧ wr = w)
    case atStart => exact ⟨by first | rfl | go_num, rfl⟩
    case round =>
      obtain ⟨rfl, rfl⟩ := hrel
      go_wp2
      go_returns
      exact ⟨rfl, Kept.refl _ _⟩
  · have R := h.rowK
    have := windex_gen wfacts Try.func41 4 wAgg wSize Wi.f p gf cb g off cap l.toArray l.toArray w w eg (fun W d' x S => hp W (swk_kept S) x) R rfl (SWK.start R.hH) (by simpa using hl)
    rw [show l.toArray.size = l.length by simp] at this
    refine this.mono ?_
    rintro e w' ⟨S, ⟨rfl, hall⟩ | ⟨i, rfl, hi, hpi, hlo⟩⟩
    · refine ⟨?_, swk_same S R.hH⟩
      have : l.findIdx? p = none := by
        rw [List.findIdx?_eq_none_iff]
        intro x hx
        obtain ⟨j, hj, rfl⟩ := List.mem_iff_getElem.1 hx
        have := hall j hj
        rw [getElem!_pos l.toArray j (by simpa using hj)] at this
        simpa using this
      unfold idxI; rw [this]
    · refine ⟨?_, swk_same S R.hH⟩
      have : l.findIdx? p = some i := by
        rw [List.findIdx?_eq_some_iff_getElem]
        refine ⟨hi, by rw [getElem!_pos l.toArray i (by simpa using hi)] at hpi; simpa using hpi, fun j hj => ?_⟩
        have := hlo j hj
        rw [getElem!_pos l.toArray j (by simp; omega)] at this
        simpa using this
      unfold idxI; rw [this]
--@@ end
end Go.Proofs.Ytiheoddlknbomaa
