/- Layer 7 of the program: the parts. -/
import Derived.Test.YtlcjkogdbleboaaGreatV16
set_option linter.unusedSimpArgs false
set_option linter.unusedVariables false
namespace Go.Proofs.YtlcjkogdbleboaaGreat.V
open Go Go.RowKit Go.Proofs.YtlcjkogdbleboaaGreat.Hz
set_option maxRecDepth 100000

theorem loopKs {α : Type} {BODY : (St → Prop) → St → Prop} {sk : List (List SV)} (μ : α → Nat) (Inv : α → Prop) (σ : List (List SV) → α → St) (hs : ∀ a ih, Inv a → (∀ b, Inv b → μ b < μ a → ih (σ sk b)) → BODY ih (σ sk a)) (a : α) {n : Nat} {st : St} (hn : n = μ a + 1) (e : st = σ sk a) (h0 : Inv a) :
    VHold (vLoop BODY n st) := loopK μ Inv (σ sk) hs a hn e h0
/-- The places among the first i that hold x. -/
def placesN (g : Li) (x : Int) : Nat → Li
  | 0 => []
  | i + 1 => if nI g i = x then placesN g x i ++ [(i : Int)] else placesN g x i
theorem placesN_len (g : Li) (x : Int) : ∀ i, (placesN g x i).length ≤ i
  | 0 => Nat.le_refl _
  | i + 1 => by
    have h := placesN_len g x i
    unfold placesN
    split
    · rw [List.length_append]
      have : List.length [(i : Int)] = 1 := rfl
      omega
    · omega
abbrev vLLL (a b c : Li) : SV := .tup [(false, [.sl tI a false]), (false, [.sl tI b false]), (false, [.sl tI c false])]
end Go.Proofs.YtlcjkogdbleboaaGreat.V
