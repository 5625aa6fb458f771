/- The example of layer 7's statements. -/
import Derived.Test.YtlcjkogdbleboaaGreatV19
set_option linter.unusedSimpArgs false
set_option linter.unusedVariables false
namespace Go.Proofs.YtlcjkogdbleboaaGreat.V
open Go Go.RowKit Go.Proofs.YtlcjkogdbleboaaGreat.Hz
set_option maxRecDepth 100000

/-- So many steps of core k. -/
def itS (k : Int) (s : Sy) : Nat → Sy
  | 0 => s
  | j + 1 => alS (itS k s j) k
theorem itS_fin {N : Nat} {k : Int} {s : Sy} (h : Fin N s) : ∀ j, Fin (N + j) (itS k s j)
  | 0 => h
  | j + 1 => alS_fin (itS_fin h j)
def sh7 : Nat → Sy
  | 0 => newF 1 2
  | i + 1 => itS 0 (callS (sh7 i) 0 7 0 0 0) 9
theorem dfl_fin (c : Int) (m : Me) (hm : Fits m) (hc : c.toNat ≤ 1000) : Fin 0 (m, List.replicate c.toNat (dflt tCore), ([] : List Evt), ()) := by
  refine ⟨hm, ?_, fun d hd => ?_, Nat.le_refl _⟩
  · show List.length (List.replicate _ _) ≤ 1000
    rw [List.length_replicate]; exact hc
  · rw [(List.mem_replicate.1 (show d ∈ List.replicate _ _ from hd)).2]
    exact dflt_finC
theorem fillM_fits {m : Me} (h : Fits m) : Fits (fillM m) := by
  unfold fillM
  refine storeM_fits ?_
  have := fillN_len m ((m.2.1.length : Int) - 1) (m.2.1.length - 1)
  unfold Fits at h ⊢
  omega
theorem newF_fin {c n : Int} (h1 : 1 ≤ n) (h2 : n ≤ 200) (hc : c ≤ 8) : Fin 0 (newF c n) := dfl_fin c _ (fillM_fits (newI_fits h1 h2).1) (by omega)
theorem sh7_fin : ∀ i, Fin (9 * i) (sh7 i)
  | 0 => newF_fin (by decide) (by decide) (by decide)
  | i + 1 => itS_fin (sh7_fin i).callS 9
theorem sh7_is : (∀ i : Nat, i < 3 → (sh7 (i + 1)).2.1.length = 1 ∧ (cAt (sh7 (i + 1)).2.1 0).1.length = 0 ∧ (cE (sh7 (i + 1)) 0 = 0 ↔ (i : Int) < 2) ∧ (cE (sh7 (i + 1)) 0 = 0 → cV (sh7 (i + 1)) 0 = i + 1)) ∧ cE (sh7 3) 0 = 2 ∧ (sh7 3).1.2.1 = [0, 1, 1] := by decide +kernel
end Go.Proofs.YtlcjkogdbleboaaGreat.V
