/- The program's data as tuples, and what the lower layers compute. -/
import Derived.Test.YtjeiopkfdgllhaaVTab
set_option linter.unusedSimpArgs false
set_option linter.unusedVariables false
namespace Go.Proofs.Ytjeiopkfdgllhaa.V
open Go Go.RowKit Go.Proofs.Ytjeiopkfdgllhaa.Hz

abbrev R3 := Den tR3
abbrev R8 := Den tR8
abbrev Frm := Den tFrame
abbrev Cor := Den tCore
abbrev Evt := Den tEv
abbrev Me := Den tMem
abbrev Sy := Den tSys

/-- Values of these. -/
abbrev vI (n : Int) : SV := .one (.int .i64 n)
abbrev vB (b : Bool) : SV := .one (.bool b)
abbrev Li := List (Den tI)
abbrev vL (l : Li) : SV := .one (.sl tI l false)
abbrev vM (m : Me) : SV := .agg [.sl tI m.1 false, .sl tI m.2.1 false, .bool m.2.2.1]
abbrev cR8 (r : R8) : List C := [.int .i64 r.1, .int .i64 r.2.1, .int .i64 r.2.2.1, .int .i64 r.2.2.2.1, .int .i64 r.2.2.2.2.1, .int .i64 r.2.2.2.2.2.1, .int .i64 r.2.2.2.2.2.2.1, .int .i64 r.2.2.2.2.2.2.2.1]
abbrev vF (f : Frm) : SV := .agg [.int .i64 f.1, .int .i64 f.2.1, .int .i64 f.2.2.1.1, .int .i64 f.2.2.1.2.1, .int .i64 f.2.2.1.2.2.1, .int .i64 f.2.2.1.2.2.2.1, .int .i64 f.2.2.1.2.2.2.2.1, .int .i64 f.2.2.1.2.2.2.2.2.1, .int .i64 f.2.2.1.2.2.2.2.2.2.1, .int .i64 f.2.2.1.2.2.2.2.2.2.2.1, .sl tI f.2.2.2.1 false]
abbrev vC (c : Cor) : SV := .agg [.sl tFrame c.1 false, .int .i64 c.2.1, .int .i64 c.2.2.1, .int .i64 c.2.2.2.1.1, .int .i64 c.2.2.2.1.2.1, .int .i64 c.2.2.2.1.2.2.1, .sl tI c.2.2.2.2.1 false]
abbrev vE (e : Evt) : SV := .agg [.int .i64 e.1, .int .i64 e.2.1, .int .i64 e.2.2.1, .int .i64 e.2.2.2.1, .int .i64 e.2.2.2.2.1]
abbrev vS (s : Sy) : SV := .agg [.sl tI s.1.1 false, .sl tI s.1.2.1 false, .bool s.1.2.2.1, .sl tCore s.2.1 false, .sl tEv s.2.2.1 false]

/-- Two ways. -/
theorem dcase {p : Prop} {_ : Decidable p} {A B : Prop} (h1 : p → A) (h2 : ¬ p → B) : (match decide p with | true => A | false => B) := by
  by_cases h : p
  · rw [decide_eq_true h]; exact h1 h
  · rw [decide_eq_false h]; exact h2 h
theorem ncase {p : Prop} {_ : Decidable p} {A B : Prop} (h1 : ¬ p → A) (h2 : p → B) : (match !decide p with | true => A | false => B) := by
  by_cases h : p
  · rw [decide_eq_true h]; exact h2 h
  · rw [decide_eq_false h]; exact h1 h
theorem bcase {b : Bool} {A B : Prop} (h1 : b = true → A) (h2 : b = false → B) : (match (generalizing := false) b with | true => A | false => B) := by
  cases b
  · exact h2 rfl
  · exact h1 rfl
/-- An element. -/
abbrev nI (l : Li) (i : Int) : Int := l.getD i.toNat (0 : Int)
theorem le_most {n : Nat} (h : n ≤ 1000000) : n ≤ mostElems := by unfold mostElems; omega

/-! ### Words -/
def modI (a b : Int) : Int := if a.tmod b < 0 then wrap64 (a.tmod b + b) else a.tmod b
/-! ### The arena -/
def atI (node cell : Int) : Int := wrap64 (wrap64 (128 + wrap64 (4 * wrap64 (node - 1))) + cell)
end Go.Proofs.Ytjeiopkfdgllhaa.V
