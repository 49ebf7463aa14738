/- Wishes taken away; who holds a key; whether a wish may be granted. -/
import Derived.Test.YtiheoddlknbomaaLockMem
set_option linter.all false
namespace Go.Proofs.Ytiheoddlknbomaa
open Go.RowKit Go.Shelf Go.Lib Go.Sort Go.Proofs
set_option linter.unusedVariables false
set_option linter.unusedSimpArgs false

theorem wselN_filter {α : Type} [Inhabited α] (q : α → Bool) (d : Array α) : ∀ n, n ≤ d.size → selN (fun j => q d[j]!) d n = (d.toList.take n).filter q
  | 0, _ => rfl
  | n + 1, hn => by
    rw [List.take_succ_eq_append_getElem (by simp; omega), List.filter_append, ← wselN_filter q d n (by omega)]
    have e : d.toList[n]'(by simp; omega) = d[n]! := by rw [getElem!_pos d n hn]; simp
    rw [e]
    cases hv : q d[n]! with
    | true => rw [selN_take hv]; simp [hv]
    | false => rw [selN_skip hv]; simp [hv]
--@@ slices.DeleteFunc[[]lock.wish,lock.wish]
set_option maxHeartbeats 1000000 in
set_option maxRecDepth 100000 in
theorem wdel_any (v : Value) (l : List Wi) (w : World) (hv : WRow 59 w v l) (gf : Nat) (cb : Array Value) (p : Wi → Bool)
    (eg : ∀ args w, (callFunc gf args).run Try.prog w = .ok (.enter gf args) w)
    (hp : ∀ W, Kept v.ownBlock.toList w W → ∀ x : Wi, Calls Try.prog gf (#[.agg x.f.toArray] ++ cb) W fun e w' => e = .returned (.bool (p x)) ∧ ∃ q os, w' = grow (W.drewN q) os) (hl : l.length < 1000000000000) :
    Calls Try.prog 46 #[v, .func (.func gf) #[] cb] w fun e w' => ∃ v', e = .returned v' ∧ v'.ownBlock = v.ownBlock ∧ Kept v.ownBlock.toList w w' ∧
      ((v = .slice none 0 0 ∧ v' = .slice none 0 0 ∧ l = []) ∨ ∃ g off cap sz, v = .slice (some ⟨g, off, none⟩) l.length cap ∧ BlkW 59 w g off cap sz l ∧ v' = .slice (some ⟨g, off, none⟩) (l.filter fun x => !p x).length cap ∧ BlkW 59 w' g off cap sz (l.filter fun x => !p x)) := by
  rcases hv with ⟨rfl, rfl⟩ | ⟨g, off, cap, sz, rfl, h⟩
  · have hI := hid (windex_any _ [] w (.inl ⟨rfl, rfl⟩) gf cb p eg hp (by simp))
    clear hp eg
    go_enter Try.func46, Try.ntmps46
    go_wp2_with (first
      | (go_at_call 41; refine hI.out.mono ?_; rintro e w1 ⟨rfl, hk1⟩))
    go_returns
    exact ⟨_, rfl, rfl, hk1, .inl (by simp)⟩
  · have R := h.rowK
    have := wdelete_gen wfacts Try.func46 Try.func41 4 wAgg wSize Wi.f ⟨0, false, 0, false⟩ wZero p gf cb g off cap l.toArray l.toArray w w eg (fun W d' x S => hp W (swk_kept S) x) R rfl (SWK.start R.hH) (by simpa using hl) (by simpa using h.le) (fun j => !p l.toArray[j]!) rfl
    rw [show l.toArray.size = l.length by simp] at this
    refine this.mono ?_
    rintro e w' ⟨d', n, rfl, hL, hn, hds, S⟩
    have hf : selN (fun j => !p l.toArray[j]!) l.toArray l.length = l.filter fun x => !p x := by
      have := wselN_filter (fun x => !p x) l.toArray l.length (by simp)
      rw [this]; simp
    rw [hf] at hL
    obtain ⟨rfl, hat⟩ := hL
    exact ⟨_, rfl, rfl, swk_kept S, .inr ⟨g, off, cap, sz, rfl, h, rfl, h.of_swk S (by simpa using hds) _ (by omega) hat⟩⟩
--@@ end
end Go.Proofs.Ytiheoddlknbomaa
