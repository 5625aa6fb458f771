/- Loops: by an invariant. -/
import Derived.Test.YtpobngddiifdpaaGreatZdVPlans
import Derived.Test.YtpobngddiifdpaaGreatZdVFast
set_option linter.unusedSimpArgs false
set_option linter.unusedVariables false
namespace Go.Proofs.YtpobngddiifdpaaGreat.V
open Go Go.RowKit Go.Proofs.YtpobngddiifdpaaGreat.Hz

/-- So many slots, from the i-th on, of which but these are set. -/
def lay : Nat → Nat → List (Nat × SV) → List SV
  | 0, _, _ => []
  | n + 1, i, [] => .one .undef :: lay n (i + 1) []
  | n + 1, i, (j, v) :: r => bif Nat.beq i j then v :: lay n (i + 1) r else .one .undef :: lay n (i + 1) ((j, v) :: r)
theorem loopK {α : Type} {BODY : (St → Prop) → St → Prop} (μ : α → Nat) (Inv : α → Prop) (σ : α → St) (hs : ∀ a ih, Inv a → (∀ b, Inv b → μ b < μ a → ih (σ b)) → BODY ih (σ a)) (a : α) {n : Nat} {st : St} (hn : n = μ a + 1) (e : st = σ a) (h0 : Inv a) :
    VHold (vLoop BODY n st) := by
  subst hn e
  refine ⟨?_⟩
  suffices ∀ n a, μ a < n → Inv a → vLoop BODY n (σ a) from this _ _ (Nat.lt_succ_self _) h0
  intro n
  induction n with
  | zero => intro a h; exact absurd h (Nat.not_lt_zero _)
  | succ n ih => intro a h hi; rw [vLoop_succ]; exact hs a _ hi fun b hb hm => ih b (by omega) hb

abbrev cM (m : Me) : List C := [.sl tI m.1 false, .sl tI m.2.1 false, .bool m.2.2.1]
abbrev cS (s : Sy) : List C := [.sl tI s.1.1 false, .sl tI s.1.2.1 false, .bool s.1.2.2.1, .sl tCore s.2.1 false, .sl tEv s.2.2.1 false]
abbrev pB (k : Nat) : SV := .one (.ptr k 0)
end Go.Proofs.YtpobngddiifdpaaGreat.V

set_option linter.unusedSimpArgs false
set_option linter.unusedVariables false
namespace Go.Proofs.YtpobngddiifdpaaGreat.V
open Go Go.RowKit Go.Proofs.YtpobngddiifdpaaGreat.Hz
set_option maxRecDepth 100000

theorem s_refAt (n c : Int) : Spec Tryz.prog 34 [vI n, vI c] (vI (atI n c)) := by
  refine spec_introF false tab_ok 0 Tryz.func34 rfl (by kernel_rfl) rfl ?_
  conv => whnf
  first | exact .inl rfl | exact .inr rfl
theorem atI_is {n c : Int} (h1 : -1000000000 ≤ n) (h2 : n ≤ 1000000000) (h3 : -1000000000 ≤ c) (h4 : c ≤ 1000000000) : atI n c = 128 + 4 * (n - 1) + c := by
  unfold atI
  rw [IntWalk.wrap64_in (n - 1) (by omega), IntWalk.wrap64_in (4 * _) (by omega), IntWalk.wrap64_in (128 + _) (by omega), IntWalk.wrap64_in _ (by omega)]
/-- The node of a place, if there are g. -/
def nodeI (g : Nat) (at_ : Int) : Int := if 128 ≤ at_ ∧ (at_ - 128) % 4 ≠ 0 ∧ (at_ - 128) / 4 + 1 < g then (at_ - 128) / 4 + 1 else 0
theorem s_refNode (m : Me) (p : Int) (hg : m.2.1.length ≤ 1000000) : Spec Tryz.prog 170 [vM m, vI p] (vI (nodeI m.2.1.length p)) := by
  refine spec_introF false tab_ok 0 Tryz.func170 rfl (by kernel_rfl) rfl ?_
  conv => whnf
  refine ⟨[], [1, 2, 4, 5], [2], ?_⟩
  apply Exists.intro
  conv => whnf
  refine loopK (fun i : Int => ((m.2.1.length : Int) + 1 - i).toNat) (fun i => 1 ≤ i ∧ i ≤ m.2.1.length + 1 ∧ ¬ (128 ≤ p ∧ (p - 128) % 4 ≠ 0 ∧ (p - 128) / 4 + 1 < i)) (fun i => ⟨lay 24 0 [(1, vI p), (2, pB 2), (4, vI 0), (5, vI i)], [(2, .cells yMem (cM m))], []⟩) ?_ 1 rfl rfl (by omega)
  intro i ih ⟨hi1, hi2, hi3⟩ hih
  conv => whnf
  refine dcase (fun h => ?_) (fun h => ?_)
  · conv => whnf
    refine ⟨[], [1, 2, 4, 5, 6], [2], ?_⟩
    apply Exists.intro
    conv => whnf
    refine loopK (fun k : Int => (4 - k).toNat) (fun k => 1 ≤ k ∧ k ≤ 4 ∧ (p < 128 + 4 * (i - 1) + 1 ∨ 128 + 4 * (i - 1) + k ≤ p)) (fun k => ⟨lay 24 0 [(1, vI p), (2, pB 2), (4, vI 0), (5, vI i), (6, vI k)], [(2, .cells yMem (cM m))], []⟩) ?_ 1 rfl rfl (by omega)
    intro k ih2 ⟨hk1, hk2, hk3⟩ hih2
    conv => whnf
    have hat : atI i k = 128 + 4 * (i - 1) + k := atI_is (by omega) (by omega) (by omega) (by omega)
    refine dcase (fun h4 => ?_) (fun h4 => ?_)
    · conv => whnf
      first | refine .inl ⟨_, s_refAt _ _, ?_⟩ | refine .inl (.inl ⟨_, s_refAt _ _, ?_⟩)
      conv => whnf
      refine dcase (fun he => ?_) (fun he => ?_)
      · conv => whnf
        rw [show nodeI m.2.1.length p = i by unfold nodeI; rw [if_pos (by omega)]; omega]
        first | exact .inl rfl | exact .inr rfl
      · conv => whnf
        rw [IntWalk.wrap64_in (k + 1) (by omega)]
        exact hih2 (k + 1) (by omega) (by omega)
    · conv => whnf
      rw [IntWalk.wrap64_in (i + 1) (by omega)]
      exact hih (i + 1) (by omega) (by omega)
  · conv => whnf
    rw [show nodeI m.2.1.length p = 0 by unfold nodeI; rw [if_neg (by omega)]]
    first | exact .inl rfl | exact .inr rfl

/-- Is it Bad, if a place is touched? -/
def badB (m : Me) (p : Int) : Bool := decide (p < 0 ∨ (m.1.length : Int) ≤ p) || m.2.2.1 || (decide (0 < nodeI m.2.1.length p) && decide (nI m.2.1 (nodeI m.2.1.length p) = 0))
theorem nodeI_lt (g : Nat) (p : Int) : 0 ≤ nodeI g p ∧ (0 < nodeI g p → (nodeI g p).toNat < g) := by
  unfold nodeI
  split <;> omega
theorem badB_out {m : Me} {p : Int} (h : p < 0 ∨ (m.1.length : Int) ≤ p) : badB m p = true := by unfold badB; rw [decide_eq_true h]; rfl
theorem badB_bad {m : Me} {p : Int} (h : m.2.2.1 = true) : badB m p = true := by unfold badB; rw [h, Bool.or_true]; rfl
theorem badB_in {m : Me} {p : Int} (h0 : ¬ (p < 0 ∨ (m.1.length : Int) ≤ p)) (h : m.2.2.1 = false) : badB m p = (decide (0 < nodeI m.2.1.length p) && decide (nI m.2.1 (nodeI m.2.1.length p) = 0)) := by
  unfold badB; rw [h, decide_eq_false h0]; rfl
theorem s_refBad (m : Me) (p : Int) (hg : m.2.1.length ≤ 1000000) : Spec Tryz.prog 105 [vM m, vI p] (vB (badB m p)) := by
  have hn := nodeI_lt m.2.1.length p
  refine spec_introF false tab_ok 0 Tryz.func105 rfl (by kernel_rfl) rfl ?_
  conv => whnf
  refine dcase (fun h => ?_) (fun h => ?_)
  · conv => whnf
    rw [badB_out (.inl h)]
    first | exact .inl rfl | exact .inr rfl
  conv => whnf
  refine dcase (fun h1 => ?_) (fun h1 => ?_)
  · conv => whnf
    rw [badB_out (.inr (by omega))]
    first | exact .inl rfl | exact .inr rfl
  conv => whnf
  first | refine .inl ⟨_, s_refNode m p hg, ?_⟩ | refine .inl (.inl ⟨_, s_refNode m p hg, ?_⟩)
  conv => whnf
  refine bcase (fun h2 => ?_) (fun h2 => ?_)
  · conv => whnf
    rw [badB_bad h2]
    first | exact .inl rfl | exact .inr rfl
  have e := badB_in (m := m) (p := p) (by omega) h2
  conv => whnf
  refine dcase (fun h3 => ?_) (fun h3 => ?_)
  · rw [decide_eq_true h3] at e
    conv => whnf
    repeat (refine ⟨by first | omega | (simp only [Option.getD_none, Option.getD_some]; omega) | (simp; done) | (simp; omega), ?_⟩; conv => whnf)
    rw [e]
    first | exact .inl rfl | exact .inr rfl
  · rw [decide_eq_false h3] at e
    conv => whnf
    rw [e]
    first | exact .inl rfl | exact .inr rfl

/-- The memory when a place was looked at; what it held. -/
def loadM (m : Me) (p : Int) : Me := (m.1, m.2.1, badB m p, ())
def loadI (m : Me) (p : Int) : Int := if p < 0 ∨ (m.1.length : Int) ≤ p then 0 else nI m.1 p
def storeM (m : Me) (p v : Int) : Me := if p < 0 ∨ (m.1.length : Int) ≤ p then (m.1, m.2.1, true, ()) else (m.1.set p.toNat v, m.2.1, badB m p, ())
abbrev vMI (m : Me) (v : Int) : SV := .tup [(true, cM m), (false, [.int .i64 v])]
abbrev vMB (m : Me) (v : Bool) : SV := .tup [(true, cM m), (false, [.bool v])]
theorem s_refLoad (m : Me) (p : Int) (hg : m.2.1.length ≤ 1000000) : Spec Tryz.prog 81 [vM m, vI p] (vMI (loadM m p) (loadI m p)) := by
  refine spec_introF false tab_ok 0 Tryz.func81 rfl (by kernel_rfl) rfl ?_
  conv => whnf
  refine ⟨p_hazelref02_Load_1, g_hazelref02_Load_1, by kernel_rfl, ?st1, ?_, ?_⟩
  rotate_left
  · conv => whnf
    refine ⟨?_, ?_⟩
    · conv => whnf
      first | refine .inl ⟨_, s_refBad m p hg, ?_⟩ | refine .inl (.inl ⟨_, s_refBad m p hg, ?_⟩)
      conv => whnf
    · conv => whnf
      first | refine .inl ⟨_, s_refBad m p hg, ?_⟩ | refine .inl (.inl ⟨_, s_refBad m p hg, ?_⟩)
      conv => whnf
  conv => whnf
  refine dcase (fun h => ?_) (fun h => ?_)
  · conv => whnf
    rw [show loadI m p = 0 from if_pos (.inl h)]
    first | exact .inl rfl | exact .inr rfl
  conv => whnf
  refine dcase (fun h1 => ?_) (fun h1 => ?_)
  · conv => whnf
    rw [show loadI m p = 0 from if_pos (.inr (by omega))]
    first | exact .inl rfl | exact .inr rfl
  conv => whnf
  refine ⟨p_hazelref02_Load_4, g_hazelref02_Load_4, by kernel_rfl, ?st2, ?_, ?_⟩
  rotate_left
  · conv => whnf
    repeat (refine ⟨by first | omega | (simp only [Option.getD_none, Option.getD_some]; omega) | (simp; done) | (simp; omega), ?_⟩; conv => whnf)
  rw [show loadI m p = nI m.1 p from if_neg (by omega)]
  conv => whnf
  first | exact .inl rfl | exact .inr rfl
theorem s_refStore (m : Me) (p v : Int) (hg : m.2.1.length ≤ 1000000) (hw : m.1.length ≤ 1000000) : Spec Tryz.prog 62 [vM m, vI p, vI v] (vM (storeM m p v)) := by
  refine spec_introF false tab_ok 0 Tryz.func62 rfl (by kernel_rfl) rfl ?_
  conv => whnf
  refine dcase (fun h => ?_) (fun h => ?_)
  · conv => whnf
    rw [show storeM m p v = (m.1, m.2.1, true, ()) from if_pos (.inl h)]
    first | exact .inl rfl | exact .inr rfl
  conv => whnf
  refine dcase (fun h1 => ?_) (fun h1 => ?_)
  · conv => whnf
    rw [show storeM m p v = (m.1, m.2.1, true, ()) from if_pos (.inr (by omega))]
    first | exact .inl rfl | exact .inr rfl
  rw [show storeM m p v = (List.set (α := Int) m.1 p.toNat v, m.2.1, badB m p, ()) from if_neg (by omega)]
  conv => whnf
  refine ⟨le_most (by omega), ?_⟩
  conv => whnf
  repeat (refine ⟨by first | omega | (simp only [Option.getD_none, Option.getD_some]; omega) | (simp; done) | (simp; omega), ?_⟩; conv => whnf)
  refine ⟨p_hazelref02_Store_5, g_hazelref02_Store_5, by kernel_rfl, ?st3, ?_, ?_⟩
  rotate_left
  · conv => whnf
    repeat (refine ⟨by first | omega | (simp only [Option.getD_none, Option.getD_some]; omega) | (simp; done) | (simp; omega), ?_⟩; conv => whnf)
    first | refine .inl ⟨_, s_refBad m p hg, ?_⟩ | refine .inl (.inl ⟨_, s_refBad m p hg, ?_⟩)
    conv => whnf
  conv => whnf
  first | exact .inl rfl | exact .inr rfl
def sameB (a b : List Int) : Bool := decide (a = b)
theorem sameB_yes {a b : List Int} (h : a = b) : sameB a b = true := decide_eq_true h
theorem sameB_no {a b : List Int} (h : ¬ a = b) : sameB a b = false := decide_eq_false h
theorem s_refInts (a b : Li) (ha : a.length ≤ 1000000000) : Spec Tryz.prog 26 [vL a, vL b] (vB (sameB a b)) := by
  refine spec_introF false tab_ok 0 Tryz.func26 rfl (by kernel_rfl) rfl ?_
  conv => whnf
  refine dcase (fun h => ?_) (fun h => ?_)
  · conv => whnf
    rw [sameB_no (fun e : a = b => h (by rw [e]))]
    first | exact .inl rfl | exact .inr rfl
  have h : a.length = b.length := by omega
  conv => whnf
  refine ⟨[], [0, 1, 4, 5], [], ?_⟩
  apply Exists.intro
  conv => whnf
  refine loopK (fun i : Int => ((a.length : Int) - i).toNat) (fun i => 0 ≤ i ∧ i ≤ a.length ∧ ∀ j : Nat, (j : Int) < i → a[j]? = b[j]?) (fun i => ⟨lay 26 0 [(0, vL a), (1, vL b), (4, vB false), (5, vI i)], [], []⟩) ?_ 0 rfl rfl ⟨by omega, by omega, fun j hj => by omega⟩
  intro i ih ⟨hi1, hi2, hi3⟩ hih
  conv => whnf
  refine dcase (fun h3 => ?_) (fun h3 => ?_)
  · conv => whnf
    refine ⟨p_hazelref02_Ints_6, g_hazelref02_Ints_6, by kernel_rfl, ?st4, ?_, ?_⟩
    rotate_left
    · conv => whnf
      repeat (refine ⟨by first | omega | (simp only [Option.getD_none, Option.getD_some]; omega) | (simp; done) | (simp; omega), ?_⟩; conv => whnf)
    conv => whnf
    refine dcase (fun h4 => ?_) (fun h4 => ?_)
    · conv => whnf
      rw [sameB_no (fun e : a = b => h4 (by subst e; rfl))]
      first | exact .inl rfl | exact .inr rfl
    · conv => whnf
      rw [IntWalk.wrap64_in (i + 1) (by omega)]
      refine hih (i + 1) ⟨by omega, by omega, fun j hj => ?_⟩ (by omega)
      by_cases c : (j : Int) < i
      · exact hi3 j c
      · have e : j = i.toNat := by omega
        subst e
        have h5 := Classical.not_not.1 h4
        rw [List.getD_eq_getElem?_getD, List.getD_eq_getElem?_getD, List.getElem?_eq_getElem (by omega), List.getElem?_eq_getElem (by omega)] at h5
        rw [List.getElem?_eq_getElem (by omega), List.getElem?_eq_getElem (by omega)]
        exact congrArg some h5
  · conv => whnf
    have e : a = b := List.ext_getElem? fun j => if hj : (j : Int) < i then hi3 j hj else by rw [List.getElem?_eq_none (by omega), List.getElem?_eq_none (by omega)]
    rw [sameB_yes e]
    first | exact .inl rfl | exact .inr rfl
theorem ncaseb {b : Bool} {A B : Prop} (h1 : b = false → A) (h2 : b = true → B) : (match (generalizing := false) !b with | true => A | false => B) := by
  cases b
  · exact h1 rfl
  · exact h2 rfl
end Go.Proofs.YtpobngddiifdpaaGreat.V

set_option linter.unusedSimpArgs false
set_option linter.unusedVariables false
namespace Go.Proofs.YtpobngddiifdpaaGreat.V
open Go Go.RowKit Go.Proofs.YtpobngddiifdpaaGreat.Hz
set_option maxRecDepth 100000

def nearP (n : Int) : Prop := -2305843009213693952 ≤ n ∧ n ≤ 2305843009213693952
instance (n : Int) : Decidable (nearP n) := inferInstanceAs (Decidable (_ ∧ _))
abbrev fAt (l : List Frm) (i : Int) : Frm := l.getD i.toNat (dflt tFrame)
abbrev cAt (l : List Cor) (i : Int) : Cor := l.getD i.toNat (dflt tCore)
def cF (f : Frm) : List C := [.int .i64 f.1, .int .i64 f.2.1, .int .i64 f.2.2.1.1, .int .i64 f.2.2.1.2.1, .int .i64 f.2.2.1.2.2.1, .int .i64 f.2.2.1.2.2.2.1, .int .i64 f.2.2.1.2.2.2.2.1, .int .i64 f.2.2.1.2.2.2.2.2.1, .int .i64 f.2.2.1.2.2.2.2.2.2.1, .int .i64 f.2.2.1.2.2.2.2.2.2.2.1, .sl tI f.2.2.2.1 false]
abbrev vFB (f : Frm) (b : Bool) : SV := .tup [(true, cF f), (false, [.bool b])]
/-- The last frame of a core. -/
def topI (s : Sy) (k : Int) : Option Frm := if 0 ≤ k then (s.2.1[k.toNat]?).bind fun c => c.1.getLast? else none
theorem s_refTop (s : Sy) (k : Int) (hl : s.2.1.length ≤ 1000000000000) (hl2 : ∀ c ∈ s.2.1, c.1.length ≤ 1000000000000) : Spec Tryz.prog 30 [vS s, vI k] (vFB ((topI s k).getD (dflt tFrame)) (topI s k).isSome) := by
  refine spec_introF false tab_ok 0 Tryz.func30 rfl (by kernel_rfl) rfl ?_
  conv => whnf
  refine dcase (fun h => ?_) (fun h => ?_)
  · have e : topI s k = none := if_neg (by omega)
    rw [e]
    conv => whnf
    exact .inr rfl
  conv => whnf
  refine dcase (fun h1 => ?_) (fun h1 => ?_)
  · have e : topI s k = none := by
      unfold topI
      rw [if_pos (by omega), List.getElem?_eq_none (by omega)]; rfl
    rw [e]
    conv => whnf
    exact .inr rfl
  have hk : k.toNat < s.2.1.length := by omega
  have hget : s.2.1.getD k.toNat (dflt tCore) = s.2.1[k.toNat] := by simp [List.getD, hk]
  have ht : topI s k = s.2.1[k.toNat].1.getLast? := by
    unfold topI
    rw [if_pos (by omega), List.getElem?_eq_getElem hk]; rfl
  conv => whnf
  refine ⟨by omega, ?_⟩
  conv => whnf
  rw [hget]
  refine dcase (fun h2 => ?_) (fun h2 => ?_)
  · have e : topI s k = none := by rw [ht, List.getLast?_eq_none_iff]; exact List.eq_nil_of_length_eq_zero (by omega)
    rw [e]
    conv => whnf
    exact .inr rfl
  have hlen := hl2 _ (List.getElem_mem hk)
  conv => whnf
  refine ⟨p_hazelref03_Top_3, g_hazelref03_Top_3, by kernel_rfl, ?_⟩
  refine ⟨?st, ?_, ?_⟩
  rotate_left
  · conv => whnf
    repeat (refine ⟨by omega, ?_⟩; conv => whnf)
    rw [hget, IntWalk.wrap64_in _ (by omega)]
    repeat (refine ⟨by omega, ?_⟩; conv => whnf)
  have e : topI s k = some (s.2.1[k.toNat].1.getD (((s.2.1[k.toNat].1.length : Nat) : Int) - 1).toNat (dflt tFrame)) := by
    rw [ht, List.getLast?_eq_getElem?, show (((s.2.1[k.toNat].1.length : Nat) : Int) - 1).toNat = s.2.1[k.toNat].1.length - 1 by omega]
    rw [List.getD, List.getElem?_eq_getElem (by omega)]; rfl
  rw [e]
  conv => whnf
  exact .inl rfl

/-! ### Changes -/
theorem s_refMem (s : Sy) (m : Me) : Spec Tryz.prog 65 [vS s, vM m] (vS (m, s.2)) := by
  refine spec_introF false tab_ok 0 Tryz.func65 rfl (by kernel_rfl) rfl ?_
  conv => whnf
  first | exact .inl rfl | exact .inr rfl
/-- Another core. -/
def withS (s : Sy) (k : Int) (c : Cor) : Sy := (s.1, s.2.1.set k.toNat c, s.2.2.1, ())
theorem s_refWith (s : Sy) (k : Int) (c : Cor) (h1 : 0 ≤ k) (h2 : k < s.2.1.length) (hl : s.2.1.length ≤ 1000000) : Spec Tryz.prog 95 [vS s, vI k, vC c] (vS (withS s k c)) := by
  refine spec_introF false tab_ok 0 Tryz.func95 rfl (by kernel_rfl) rfl ?_
  conv => whnf
  refine ⟨le_most (by omega), ?_⟩
  conv => whnf
  repeat (refine ⟨by first | omega | (simp only [Option.getD_none, Option.getD_some]; omega) | (simp; done) | (simp; omega), ?_⟩; conv => whnf)
  first | exact .inl rfl | exact .inr rfl
/-- A new frame. -/
def frm0 (op a b c : Int) : Frm := (op, (0 : Int), (a, b, c, (0 : Int), (0 : Int), (0 : Int), (0 : Int), (0 : Int), ()), ([] : List Int), ())
def pushS (s : Sy) (k : Int) (f : Frm) : Sy := withS s k ((cAt s.2.1 k).1 ++ [f], (cAt s.2.1 k).2)
def callS (s : Sy) (k op a b c : Int) : Sy := if 0 ≤ k ∧ k < s.2.1.length ∧ (cAt s.2.1 k).1.length < 40 then pushS s k (frm0 op a b c) else s
theorem s_refCall (s : Sy) (k op a b c : Int) (hl : s.2.1.length ≤ 1000000) : Spec Tryz.prog 51 [vS s, vI k, vI op, vI a, vI b, vI c] (vS (callS s k op a b c)) := by
  refine spec_introF false tab_ok 0 Tryz.func51 rfl (by kernel_rfl) rfl ?_
  conv => whnf
  refine dcase (fun h1 => ?_) (fun h1 => ?_)
  · conv => whnf
    rw [show callS s k op a b c = s from if_neg (by omega)]
    first | exact .inl rfl | exact .inr rfl
  conv => whnf
  refine dcase (fun h2 => ?_) (fun h2 => ?_)
  · conv => whnf
    rw [show callS s k op a b c = s from if_neg (by omega)]
    first | exact .inl rfl | exact .inr rfl
  conv => whnf
  repeat (refine ⟨by first | omega | (simp only [Option.getD_none, Option.getD_some]; omega) | (simp; done) | (simp; omega), ?_⟩; conv => whnf)
  refine dcase (fun h3 => ?_) (fun h3 => ?_)
  · conv => whnf
    rw [show callS s k op a b c = s from if_neg (fun h => by have := h.2.2; exact absurd h3 (Int.not_le.2 (Int.ofNat_lt.2 this)))]
    first | exact .inl rfl | exact .inr rfl
  conv => whnf
  have h4 : (cAt s.2.1 k).1.length < 40 := Int.ofNat_lt.1 (Int.not_le.1 h3)
  rw [show callS s k op a b c = pushS s k (frm0 op a b c) from if_pos ⟨by omega, by omega, h4⟩]
  repeat (refine ⟨by first | omega | (simp only [Option.getD_none, Option.getD_some]; omega) | (simp; done) | (simp; omega), ?_⟩; conv => whnf)
  refine ⟨Nat.le_trans (Nat.le_of_lt h4) (le_most (by decide)), ?_⟩
  conv => whnf
  refine ⟨Nat.le_trans (Nat.succ_le_succ (Nat.le_of_lt h4)) (le_most (by decide)), ?_⟩
  conv => whnf
  first | refine .inr (.inl ⟨_, s_refWith s k ((cAt s.2.1 k).1 ++ [frm0 op a b c], (cAt s.2.1 k).2) (by omega) (by omega) hl, ?_⟩) | refine .inl (.inr (.inl ⟨_, s_refWith s k ((cAt s.2.1 k).1 ++ [frm0 op a b c], (cAt s.2.1 k).2) (by omega) (by omega) hl, ?_⟩))
  conv => whnf
  first | exact .inl rfl | exact .inr rfl
end Go.Proofs.YtpobngddiifdpaaGreat.V
