/- slices.SortStableFunc at pairs, by their keys: the plain 'stab'. -/
import Derived.Test.YtpcpeoejcnndhaaGreatStable2
import Derived.Test.YtpcpeoejcnndhaaGreatStable3
import Derived.Test.YtpcpeoejcnndhaaGreatStable3b
import Derived.Test.YtpcpeoejcnndhaaGreatM1
import Derived.Test.YtpcpeoejcnndhaaGreatLay
set_option linter.all false
namespace Go.Proofs.YtpcpeoejcnndhaaGreat
open Go.RowKit Go.Shelf Go.Lib Go.Sort Go.Proofs
--@@ slices.symMergeCmpFunc
theorem symMerge_gen {P : Program} (L : SFacts P) (FG : P.funcs[115]? = some Tryz.f115) (FR : P.funcs[119]? = some Tryz.f119) (FS : P.funcs[120]? = some Tryz.f120)
    (k : Nat) (aE : ∀ w, (isAgg 57).run P w = .ok true w) (zE : ∀ w, (Go.sizeOf 57).run P w = .ok k w) {α : Type} [Inhabited α] (enc : α → List Value) (cf : α → α → Int) (g : Nat) (cb : Array Value)
    (blk off cap : Nat) (d0 : Array α) (w0 : World)
    (eg : ∀ args w, (callFunc g args).run P w = .ok (.enter g args) w) (hcmp : CmpLays P g cb enc k cf blk off d0.size w0) (R : RowK enc k w0 blk off d0) :
    ∀ (f a m b : Nat) (d : Array α) (w : World), d0.size = d.size → SWK enc k w0 blk off d w → a < m → m < b → b ≤ d.size → d.size < 4611686018427387904 → b - a ≤ f →
    Calls P 115 #[.slice (some ⟨blk, off, none⟩) d.size cap, .int .i64 a, .int .i64 m, .int .i64 b, .func (.func g) #[] cb] w fun e w' => e = .returned (.tuple #[]) ∧ SWK enc k w0 blk off (symM (ltOf cf) f d a m b) w'
  | 0, a, m, b, d, w, _, _, h1, h2, _, _, h3 => by omega
  | f + 1, a, m, b, d, w, hs, S, h1, h2, h3, h4, h5 => by
    have IH : Hid (∀ (a' m' b' : Nat) (dk : Array α) (w' : World), dk.size = d.size → SWK enc k w0 blk off dk w' → a' < m' → m' < b' → b' ≤ d.size → b' - a' ≤ f →
        Calls P 115 #[.slice (some ⟨blk, off, none⟩) d.size cap, .int .i64 a', .int .i64 m', .int .i64 b', .func (.func g) #[] cb] w' fun e w'' => e = .returned (.tuple #[]) ∧ SWK enc k w0 blk off (symM (ltOf cf) f dk a' m' b') w'') := fun a' m' b' dk w' hk S' k1 k2 k3 k4 => by
      have := symMerge_gen L FG FR FS k aE zE enc cf g cb blk off cap d0 w0 eg hcmp R f a' m' b' dk w' (by omega) S' k1 k2 (by omega) (by omega) k4
      rw [hk] at this; exact this
    by_cases c1 : m - a = 1
    · exact symMerge1_gen L FG FR FS k aE zE enc cf g cb blk off cap a m b f d0 d w0 w eg hcmp R hs S h1 h2 h3 h4 c1
    · by_cases c2 : b - m = 1
      · exact symMerge2_gen L FG FR FS k aE zE enc cf g cb blk off cap a m b f d0 d w0 w eg hcmp R hs S h1 h2 h3 h4 c1 c2
      · by_cases c3 : (a + b) / 2 < m
        · exact symMerge3a_gen L FG FR FS k aE zE enc cf g cb blk off cap a m b f d0 d w0 w eg hcmp R hs S h1 h2 h3 h4 c1 c2 h5 IH c3
        · exact symMerge3b_gen L FG FR FS k aE zE enc cf g cb blk off cap a m b f d0 d w0 w eg hcmp R hs S h1 h2 h3 h4 c1 c2 h5 IH c3
--@@ slices.SortStableFunc
def encT (x : Pr × Nat) : List Value := x.1.f
def cfT (x y : Pr × Nat) : Int := ordK x.1.key y.1.key
instance : Inhabited Pr := ⟨⟨⟨0, 0, 0, 0⟩, V.zero⟩⟩
theorem encT_len (x : Pr × Nat) : (encT x).length = 6 := rfl
theorem encT_one (x : Pr × Nat) : ∀ v ∈ encT x, v.oneCell' = true := fun v hv => by
  simp [encT, Pr.f, K4.f, V.f] at hv
  rcases hv with rfl | rfl | rfl | rfl | rfl | rfl <;> rfl
theorem cmpT (blk off size : Nat) (w : World) : CmpLays Tryz.prog 78 #[] encT 6 cfT blk off size w := fun m os dk hdk x y => order_any x.1 y.1 _
theorem aggP : ∀ w, (isAgg 57).run Tryz.prog w = .ok true w := fun w => by kernel_rfl
theorem sizP : ∀ w, (Go.sizeOf 57).run Tryz.prog w = .ok 6 w := fun w => by kernel_rfl
theorem swoT : SWO (ltOf cfT) := by
  have e : ltOf cfT = fun x y : Pr × Nat => decide (x.1.key.num < y.1.key.num) := by
    funext x y; exact ordK_neg _ _
  rw [e]
  exact ⟨fun x => by simp, fun x y z h1 h2 => by simp only [decide_eq_true_eq] at *; omega, fun x y z h1 h2 => by simp only [decide_eq_false_iff_not] at *; omega⟩
set_option maxHeartbeats 1000000 in
set_option maxRecDepth 100000 in
theorem sortStable_any (blk off cap : Nat) (d0 d : Array (Pr × Nat)) (w0 w : World) (R : RowK encT 6 w0 blk off d0) (hs : d0.size = d.size) (S : SWK encT 6 w0 blk off d w) (hsz : d.size < 1000000000000) :
    Calls Tryz.prog 77 #[.slice (some ⟨blk, off, none⟩) d.size cap, .func (.func 78) #[] #[]] w fun e w' => e = .returned (.tuple #[]) ∧ SWK encT 6 w0 blk off (stab (ltOf cfT) d.size d) w' := by
  have eO : ∀ args w, (callFunc 78 args).run Tryz.prog w = .ok (.enter 78 args) w := enters_of (Tryz.func78) (by kernel_rfl) rfl
  have hin : Hid (∀ (a b : Nat) (dk : Array (Pr × Nat)) (w' : World), dk.size = d.size → SWK encT 6 w0 blk off dk w' → a ≤ b → b ≤ d.size →
      Calls Tryz.prog 95 #[.slice (some ⟨blk, off, none⟩) d.size cap, .int .i64 a, .int .i64 b, .func (.func 78) #[] #[]] w' fun e w'' => e = .returned (.tuple #[]) ∧ SWK encT 6 w0 blk off (insertionSort (ltOf cfT) dk a b) w'') := fun a b dk w' hk S' h1 h2 => by
    have := AnyQ.insertionSortCmpFunc_w Tryz.layInsPairs 6 aggP sizP encT cfT 78 #[] blk off cap a b d0 dk w0 w' eO (cmpT _ _ _ _) R (by omega) S' swoT h1 (by omega) (by omega)
    rw [hk] at this; exact this
  have hsy : Hid (∀ (f a m b : Nat) (dk : Array (Pr × Nat)) (w' : World), dk.size = d.size → SWK encT 6 w0 blk off dk w' → a < m → m < b → b ≤ d.size → b - a ≤ f →
      Calls Tryz.prog 115 #[.slice (some ⟨blk, off, none⟩) d.size cap, .int .i64 a, .int .i64 m, .int .i64 b, .func (.func 78) #[] #[]] w' fun e w'' => e = .returned (.tuple #[]) ∧ SWK encT 6 w0 blk off (symM (ltOf cfT) f dk a m b) w'') := fun f a m b dk w' hk S' h1 h2 h3 h4 => by
    have := symMerge_gen sfacts Tryz.func115 Tryz.func119 Tryz.func120 6 aggP sizP encT cfT 78 #[] blk off cap d0 w0 eO (cmpT _ _ _ _) R f a m b dk w' (by omega) S' h1 h2 (by omega) (by omega) h4
    rw [hk] at this; exact this
  have hst := stableCmp_gen sfacts Tryz.func104 (enters_of Tryz.func95 (by kernel_rfl) rfl) (enters_of Tryz.func115 (by kernel_rfl) rfl) 6 encT (ltOf cfT) (.func (.func 78) #[] #[]) blk off cap d.size d w0 w S (Nat.le_refl _) hsz hin hsy
  clear hin hsy R S hs eO
  have HST := hid hst
  clear hst
  go_enter Tryz.func77, Tryz.ntmps77
  go_wp2_with (go_at_call 104; refine HST.out.mono ?_; rintro e w' ⟨rfl, h⟩)
  go_end0
  exact ⟨rfl, h⟩
--@@ end
end Go.Proofs.YtpcpeoejcnndhaaGreat
