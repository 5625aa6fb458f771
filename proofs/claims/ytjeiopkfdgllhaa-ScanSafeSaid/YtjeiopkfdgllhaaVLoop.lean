/- Loops: by an invariant. -/
import Derived.Test.YtjeiopkfdgllhaaVPlans
import Derived.Test.YtjeiopkfdgllhaaVFast
set_option linter.unusedSimpArgs false
set_option linter.unusedVariables false
namespace Go.Proofs.Ytjeiopkfdgllhaa.V
open Go Go.RowKit Go.Proofs.Ytjeiopkfdgllhaa.Hz

/-- So many slots, from the i-th on, of which but these are set. -/
def lay : Nat → Nat → List (Nat × SV) → List SV
  | 0, _, _ => []
  | n + 1, i, [] => .one .undef :: lay n (i + 1) []
  | n + 1, i, (j, v) :: r => bif Nat.beq i j then v :: lay n (i + 1) r else .one .undef :: lay n (i + 1) ((j, v) :: r)
theorem loopK {α : Type} {BODY : (St → Prop) → St → Prop} (μ : α → Nat) (Inv : α → Prop) (σ : α → St) (hs : ∀ a ih, Inv a → (∀ b, Inv b → μ b < μ a → ih (σ b)) → BODY ih (σ a)) (a : α) {n : Nat} {st : St} (hn : n = μ a + 1) (e : st = σ a) (h0 : Inv a) :
    VHold (vLoop BODY n st) := by
  subst hn e
  refine ⟨?_⟩
  suffices ∀ n a, μ a < n → Inv a → vLoop BODY n (σ a) from this _ _ (Nat.lt_succ_self _) h0
  intro n
  induction n with
  | zero => intro a h; exact absurd h (Nat.not_lt_zero _)
  | succ n ih => intro a h hi; rw [vLoop_succ]; exact hs a _ hi fun b hb hm => ih b (by omega) hb

abbrev cM (m : Me) : List C := [.sl tI m.1 false, .sl tI m.2.1 false, .bool m.2.2.1]
abbrev cS (s : Sy) : List C := [.sl tI s.1.1 false, .sl tI s.1.2.1 false, .bool s.1.2.2.1, .sl tCore s.2.1 false, .sl tEv s.2.2.1 false]
abbrev cC (c : Cor) : List C := [.sl tFrame c.1 false, .int .i64 c.2.1, .int .i64 c.2.2.1, .int .i64 c.2.2.2.1.1, .int .i64 c.2.2.2.1.2.1, .int .i64 c.2.2.2.1.2.2.1, .sl tI c.2.2.2.2.1 false]
abbrev pB (k : Nat) : SV := .one (.ptr k 0)
end Go.Proofs.Ytjeiopkfdgllhaa.V
