/- A key that is asked for exclusively by many: from the first ask to the last free. Plain data, no program text. -/
import Derived.Test.YtiheoddlknbomaaLockInv4
set_option linter.all false
namespace Go.Proofs.Ytiheoddlknbomaa
set_option linter.unusedVariables false
set_option linter.unusedSimpArgs false

theorem ord_start (n : Int) (k : K4) (first : Int) (hr : 1 ≤ first ∧ first ≤ 1048576) : ((⟨n, [], []⟩ : Ta).ask first k true 0).1 = 0 ∧ OrdIs ((⟨n, [], []⟩ : Ta).ask first k true 0).2 k (first, 0) [] := by
  obtain ⟨h1, h2⟩ := (OneRow.nil n k).grant first 0 true ⟨hr.1, hr.2, by omega, by omega⟩ (by rw [how_nil]; simp) rfl ⟨rfl, .inl rfl⟩
  refine ⟨h1, ?_, by simp⟩
  rw [how_nil] at h2
  exact h2
def RestIs (t : Ta) (k : K4) : List (Int × Int) → Prop
  | [] => OneRow t k [] []
  | g :: l => OrdIs t k g l
section
variable {t : Ta} {k : K4} {g : Int × Int} {l : List (Int × Int)}
theorem RestIs.ok {l : List (Int × Int)} (H : RestIs t k l) : TaOk t := by
  cases l with
  | nil => exact OneRow.ok H
  | cons g l => exact OneRow.ok (And.left H)
theorem ord_rest (H : OrdIs t k g l) : RestIs (t.freeT g.1) k l := by
  have := ord_free H
  cases l <;> exact this
theorem rest_free (H : RestIs t k (g :: l)) : RestIs (t.freeT g.1) k l := ord_rest H
theorem rest_head (H : RestIs t k (g :: l)) : how (t.row k).h g.1 = 2 := by
  have h : OrdIs t k g l := H
  rw [h.1.row]
  show how (exq [g]) g.1 = 2
  rw [how_one, if_pos rfl]
theorem rest_tail (H : RestIs t k (g :: l)) {x : Int} (hx : x ∈ l.map (·.1)) : how (t.row k).h x = 0 := by
  have h : OrdIs t k g l := H
  rw [h.1.row]
  show how (exq [g]) x = 0
  have hne : ¬ g.1 = x := fun e => h.2 (by rw [e]; exact hx)
  rw [how_one, if_neg hne]
theorem rest_none (H : RestIs t k []) {L : List Int} (hL : TxsOf t L) : L = [] := OneRow.none H hL
end
end Go.Proofs.Ytiheoddlknbomaa
