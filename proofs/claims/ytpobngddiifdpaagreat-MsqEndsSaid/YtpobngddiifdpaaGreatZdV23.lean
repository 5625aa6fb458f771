/- Layer 7 of the program, each step; small things of the document. -/
import Derived.Test.YtpobngddiifdpaaGreatZdV15
set_option linter.unusedSimpArgs false
set_option linter.unusedVariables false
namespace Go.Proofs.YtpobngddiifdpaaGreat.V
open Go Go.RowKit Go.Proofs.YtpobngddiifdpaaGreat.Hz
set_option maxRecDepth 100000

/-- A step of layer 7. -/
def allocF (s : Sy) (k op pc : Int) (r : R8) (l : Li) : Sy := if op = 7 then allocS s k 7 pc r l else if op = 8 then dropS s k pc r l else scanF s k op pc r l
def alS (s : Sy) (k : Int) : Sy := match topI s k with
  | none => s
  | some f => allocF s k f.1 f.2.1 f.2.2.1 f.2.2.2.1
theorem alS_some {s : Sy} {k op pc : Int} {r : R8} {l : Li} (ht : topI s k = some (op, pc, r, l, ())) : alS s k = allocF s k op pc r l := by unfold alS; rw [ht]
theorem alS_none {s : Sy} {k : Int} (ht : topI s k = none) : alS s k = s := by unfold alS; rw [ht]
theorem thenS_fin {N : Nat} {s : Sy} {k op pc o a : Int} {r : R8} {l : Li} (h : Fin N s) (hl : l.length ≤ 1000) : Fin N (thenS s k op pc r l o a) := (h.setS (f := (op, wrap64 (pc + 1), r, l, ())) hl).callP
theorem allocF_fin {N : Nat} {s : Sy} {k op pc : Int} {r : R8} {l : Li} (h : Fin N s) (hl : l.length ≤ 1000) : Fin (N + 1) (allocF s k op pc r l) := by
  have h1 := h.more (Nat.le_succ N)
  unfold allocF
  split
  · unfold allocS
    split
    · exact thenS_fin h1 hl
    split
    · split
      · exact h1.backS
      split
      · exact h1.backS
      · exact thenS_fin h1 hl
    split
    · exact h1.backS
    · exact h1
  split
  · unfold dropS
    split
    · exact thenS_fin h1 hl
    split
    · exact h1.backS
    · exact h1
  exact scanF_fin h hl
theorem alS_fin {N : Nat} {s : Sy} {k : Int} (h : Fin N s) : Fin (N + 1) (alS s k) := by
  unfold alS
  split
  · exact h.more (Nat.le_succ N)
  · rename_i f hf
    exact allocF_fin h (h.top hf)
theorem s_alStep {N : Nat} (s : Sy) (k : Int) (hf : Fin N s) (hN : N ≤ 900000) : Spec Tryz.prog 73 [vS s, vI k] (vS (alS s k)) := by
  cases ht : topI s k with
  | none => rw [alS_none ht]; exact s_allocStepNo s k ht (hf.fine hN)
  | some f =>
    obtain ⟨op, pc, r, l, u⟩ := f
    obtain rfl : u = () := rfl
    rw [alS_some ht]
    unfold allocF
    split
    · rename_i h; subst h; exact s_allocStep7 s k pc r l ht (hf.fine hN)
    split
    · rename_i h; subst h; exact s_allocStep8 s k pc r l ht (hf.fine hN)
    · rename_i h7 h8
      have := s_scanStep s k hf hN
      rw [scanS_some ht] at this
      exact s_allocStepX s _ k op pc r l h7 h8 ht (hf.fine hN) this

/-! ### Which ops -/
def ownB (lo hi op : Int) : Bool := decide (lo ≤ op ∧ op ≤ hi)
theorem s_scanOwn (op : Int) : Spec Tryz.prog 108 [vI op] (vB (ownB 1 6 op)) := by
  have yes : 1 ≤ op ∧ op ≤ 6 → ownB 1 6 op = true := decide_eq_true
  have no : ¬ (1 ≤ op ∧ op ≤ 6) → ownB 1 6 op = false := decide_eq_false
  refine spec_introF false tab_ok 0 Tryz.func108 rfl (by kernel_rfl) rfl ?_
  conv => whnf
  refine .inr (.inr ⟨500, _, s_steps, ?_⟩)
  conv => whnf
  refine ⟨fun h => ?_, fun h5 => ⟨fun h => ?_, fun h6 => ⟨fun h => ?_, fun h1 => ⟨fun h => ?_, fun h2 => ⟨fun h => ?_, fun h3 => ⟨fun h => ?_, fun h4 => ?_⟩⟩⟩⟩⟩⟩
  · have h : op = 5 := h
    rw [yes (by omega)]; conv => whnf
    first | exact .inl rfl | exact .inr rfl
  · have h : op = 6 := h
    rw [yes (by omega)]; conv => whnf
    first | exact .inl rfl | exact .inr rfl
  · have h : op = 1 := h
    rw [yes (by omega)]; conv => whnf
    first | exact .inl rfl | exact .inr rfl
  · have h : op = 2 := h
    rw [yes (by omega)]; conv => whnf
    first | exact .inl rfl | exact .inr rfl
  · have h : op = 3 := h
    rw [yes (by omega)]; conv => whnf
    first | exact .inl rfl | exact .inr rfl
  · have h : op = 4 := h
    rw [yes (by omega)]; conv => whnf
    first | exact .inl rfl | exact .inr rfl
  · have h1 : ¬ op = 1 := h1
    have h2 : ¬ op = 2 := h2
    have h3 : ¬ op = 3 := h3
    have h4 : ¬ op = 4 := h4
    have h5 : ¬ op = 5 := h5
    have h6 : ¬ op = 6 := h6
    rw [no (by omega)]; conv => whnf
    first | exact .inl rfl | exact .inr rfl
theorem s_allocOwn (op : Int) : Spec Tryz.prog 68 [vI op] (vB (ownB 1 8 op)) := by
  have yes : 1 ≤ op ∧ op ≤ 8 → ownB 1 8 op = true := decide_eq_true
  refine spec_introF false tab_ok 0 Tryz.func68 rfl (by kernel_rfl) rfl ?_
  conv => whnf
  refine dcase (fun h => ?_) (fun h => ?_)
  · rw [yes (by omega)]
    conv => whnf
    first | exact .inl rfl | exact .inr rfl
  conv => whnf
  refine dcase (fun h8 => ?_) (fun h8 => ?_)
  · rw [yes (by omega)]
    conv => whnf
    first | exact .inl rfl | exact .inr rfl
  rw [show ownB 1 8 op = ownB 1 6 op from decide_eq_decide.2 (by omega)]
  conv => whnf
  first | refine .inl ⟨_, s_scanOwn op, ?_⟩ | refine .inl (.inl ⟨_, s_scanOwn op, ?_⟩)
  conv => whnf
  first | exact .inl rfl | exact .inr rfl

/-! ### The document's -/
end Go.Proofs.YtpobngddiifdpaaGreat.V

set_option linter.unusedSimpArgs false
set_option linter.unusedVariables false
namespace Go.Proofs.YtpobngddiifdpaaGreat.V
open Go Go.RowKit Go.Proofs.YtpobngddiifdpaaGreat.Hz
set_option maxRecDepth 100000

abbrev vLLL (a b c : Li) : SV := .tup [(false, [.sl tI a false]), (false, [.sl tI b false]), (false, [.sl tI c false])]
end Go.Proofs.YtpobngddiifdpaaGreat.V

set_option linter.unusedSimpArgs false
set_option linter.unusedVariables false
namespace Go.Proofs.YtpobngddiifdpaaGreat.V
open Go Go.RowKit Go.Proofs.YtpobngddiifdpaaGreat.Hz
set_option maxRecDepth 100000

theorem s_cut0 (w : Int) : Spec Tryz.prog 107 [vI w, vI 0] (vI (w % 2)) := by
  have e : wrap64 (((BitVec.ofInt 64 (w.fdiv (2 ^ 0)) &&& BitVec.ofInt 64 (wrap64 (wrap64 (1 * 2 ^ 1) - 1))).toNat : Nat) : Int) = w % 2 := by
    rw [show wrap64 (wrap64 (1 * 2 ^ 1) - 1) = 2 ^ 1 - 1 by rw [IntWalk.wrap64_in (1 * 2 ^ 1) (by omega), IntWalk.wrap64_in _ (by omega)]; rfl, and_low _ 1 (by omega), fdiv_pow]
    have h : (w / 2 ^ 0) % 2 ^ 1 = w % 2 := by omega
    rw [h, IntWalk.wrap64_in _ (by omega)]
  refine spec_introF false tab_ok 0 Tryz.func107 rfl (by kernel_rfl) rfl ?_
  conv => whnf
  refine ⟨p_pack_cut_1, g_pack_cut_1, by kernel_rfl, ?st1, ?_, ?_⟩
  rotate_left
  · conv => whnf
    first | refine .inl ⟨_, s_from0, ?_⟩ | refine .inl (.inl ⟨_, s_from0, ?_⟩)
    conv => whnf
    repeat (refine ⟨by first | omega | (simp only [Option.getD_none, Option.getD_some]; omega) | (simp; done) | (simp; omega), ?_⟩; conv => whnf)
    first | refine .inl ⟨_, s_wide, ?_⟩ | refine .inl (.inl ⟨_, s_wide, ?_⟩)
    conv => whnf
    repeat (refine ⟨by first | omega | (simp only [Option.getD_none, Option.getD_some]; omega) | (simp; done) | (simp; omega), ?_⟩; conv => whnf)
  conv => whnf
  exact .inl (congrArg vI e)
theorem s_Mark (w : Int) : Spec Tryz.prog 83 [vI w] (vI (w % 2)) := by
  refine spec_introF false tab_ok 0 Tryz.func83 rfl (by kernel_rfl) rfl ?_
  conv => whnf
  first | refine .inl ⟨_, s_cut0 w, ?_⟩ | refine .inl (.inl ⟨_, s_cut0 w, ?_⟩)
  conv => whnf
  first | exact .inl rfl | exact .inr rfl
end Go.Proofs.YtpobngddiifdpaaGreat.V

set_option linter.unusedSimpArgs false
set_option linter.unusedVariables false
namespace Go.Proofs.YtpobngddiifdpaaGreat.V
open Go Go.RowKit Go.Proofs.YtpobngddiifdpaaGreat.Hz
set_option maxRecDepth 100000

theorem dfl_fin (c : Int) (m : Me) (hm : Fits m) (hc : c.toNat ≤ 1000) : Fin 0 (m, List.replicate c.toNat (dflt tCore), ([] : List Evt), ()) := by
  refine ⟨hm, ?_, fun d hd => ?_, Nat.le_refl _⟩
  · show List.length (List.replicate _ _) ≤ 1000
    rw [List.length_replicate]; exact hc
  · rw [(List.mem_replicate.1 (show d ∈ List.replicate _ _ from hd)).2]
    exact dflt_finC
theorem fillM_fits {m : Me} (h : Fits m) : Fits (fillM m) := by
  unfold fillM
  refine storeM_fits ?_
  have := fillN_len m ((m.2.1.length : Int) - 1) (m.2.1.length - 1)
  unfold Fits at h ⊢
  omega
theorem newF_fin {c n : Int} (h1 : 1 ≤ n) (h2 : n ≤ 200) (hc : c ≤ 8) : Fin 0 (newF c n) := dfl_fin c _ (fillM_fits (newI_fits h1 h2).1) (by omega)
end Go.Proofs.YtpobngddiifdpaaGreat.V

set_option linter.unusedSimpArgs false
set_option linter.unusedVariables false
namespace Go.Proofs.YtpobngddiifdpaaGreat.V
open Go Go.RowKit Go.Proofs.YtpobngddiifdpaaGreat.Hz
set_option maxRecDepth 100000

/-! ### What is right and small -/
/-! ### The parts -/
/-- Those from 1 on. -/
def places1 (g : Li) (x : Int) : Nat → Li
  | 0 => []
  | i + 1 => if i ≠ 0 ∧ nI g i = x then places1 g x i ++ [(i : Int)] else places1 g x i
/-! ### A step turns at most one node -/
/-- One place at most is another one. -/
def oneSet (a b : Li) : Prop := b = a ∨ ∃ (q : Nat) (v : Int), b = List.set (α := Int) a q v
theorem turnM_one (m : Me) (p to : Int) : oneSet m.2.1 (turnM m p to).2.1 := by
  by_cases c : 1 ≤ p ∧ p < m.2.1.length ∧ turnB (nI m.2.1 p) to = true
  · rw [show turnM m p to = _ from if_pos c]; exact .inr ⟨_, _, rfl⟩
  · rw [show turnM m p to = _ from if_neg c]; exact .inl rfl
theorem storeM_G (m : Me) (p v : Int) : (storeM m p v).2.1 = m.2.1 := by
  unfold storeM; split <;> rfl
theorem casM_G (m : Me) (p a b : Int) : (casM m p a b).2.1 = m.2.1 := by
  unfold casM; split
  · exact storeM_G _ _ _
  · rfl
theorem setS_M (s : Sy) (k : Int) (f : Frm) : (setS s k f).1 = s.1 := by unfold setS; split <;> rfl
theorem backS_M (s : Sy) (k v e : Int) : (backS s k v e).1 = s.1 := by unfold backS; split <;> rfl
theorem callP_M (s : Sy) (k op a : Int) : (callP s k op a).1 = s.1 := by unfold callP; split <;> rfl
theorem logS_M (s : Sy) (k a b c v : Int) : (logS s k a b c v).1 = s.1 := (logS_cores s k a b c v).2
theorem scanF_one (s : Sy) (k op pc : Int) (r : R8) (l : Li) : oneSet s.1.2.1 (scanF s k op pc r l).1.2.1 := by
  have same : ∀ {a : Li}, oneSet a a := .inl rfl
  unfold scanF
  split
  · unfold popS
    split
    · unfold pop0
      split
      · rw [backS_M, logS_M]; exact same
      · rw [setS_M]; exact same
    split
    · rw [setS_M]; exact same
    split
    · unfold pop2
      cases casB s.1 0 r.1 with
      | true =>
        rw [cond_true, backS_M]
        have := turnM_one (casM s.1 0 r.1 (popN r)) (idxI r.1) 1
        rw [casM_G] at this
        exact this
      | false => rw [cond_false, setS_M]; show oneSet _ (casM _ _ _ _).2.1; rw [casM_G]; exact same
    · exact same
  split
  · unfold pushSt
    split
    · rw [setS_M]; exact same
    split
    · rw [setS_M]; show oneSet _ (storeM _ _ _).2.1; rw [storeM_G]; exact same
    split
    · unfold push2
      cases casB s.1 0 r.2.1 with
      | true =>
        rw [cond_true, backS_M]
        have := turnM_one (casM s.1 0 r.2.1 (pushN r)) r.1 0
        rw [casM_G] at this
        exact this
      | false => rw [cond_false, setS_M]; show oneSet _ (casM _ _ _ _).2.1; rw [casM_G]; exact same
    · exact same
  split
  · unfold protS
    split
    · unfold prot0
      split
      · rw [backS_M]; exact same
      · rw [setS_M]; exact same
    split
    · rw [setS_M]; show oneSet _ (storeM _ _ _).2.1; rw [storeM_G]; exact same
    split
    · unfold prot2
      split
      · rw [backS_M]; exact same
      · rw [setS_M]; exact same
    · exact same
  split
  · unfold clearS
    split
    · split
      · rw [backS_M]; show oneSet _ (storeM _ _ _).2.1; rw [storeM_G]; exact same
      · rw [setS_M]; show oneSet _ (storeM _ _ _).2.1; rw [storeM_G]; exact same
    · exact same
  split
  · unfold retireS
    split
    · rw [backS_M]; exact same
    split
    · unfold retire0
      split
      · rw [backS_M]; exact same
      split
      · rw [backS_M]; exact turnM_one _ _ _
      · rw [callP_M, setS_M]; exact turnM_one _ _ _
    · exact same
  split
  · unfold lookS
    split
    · unfold look0; rw [setS_M]; exact same
    split
    · unfold look1
      split
      · rw [backS_M]; exact same
      · unfold look1a; rw [callP_M, setS_M]; exact same
    · exact same
  exact same
theorem alS_one (s : Sy) (k : Int) : oneSet s.1.2.1 (alS s k).1.2.1 := by
  unfold alS
  split
  · exact .inl rfl
  · rename_i f _
    unfold allocF
    split
    · unfold allocS
      split
      · unfold thenS; rw [callP_M, setS_M]; exact .inl rfl
      split
      · split
        · rw [backS_M]; exact .inl rfl
        split
        · rw [backS_M]; exact .inl rfl
        · unfold thenS; rw [callP_M, setS_M]; exact .inl rfl
      split
      · rw [backS_M]; exact .inl rfl
      · exact .inl rfl
    split
    · unfold dropS
      split
      · unfold thenS; rw [callP_M, setS_M]; exact .inl rfl
      split
      · rw [backS_M]; exact .inl rfl
      · exact .inl rfl
    · exact scanF_one s k _ _ _ _
end Go.Proofs.YtpobngddiifdpaaGreat.V

set_option linter.unusedSimpArgs false
set_option linter.unusedVariables false
namespace Go.Proofs.YtpobngddiifdpaaGreat.V
open Go Go.RowKit Go.Proofs.YtpobngddiifdpaaGreat.Hz
set_option maxRecDepth 100000

/-- A system whose memory is m, and whose core k is c. -/
def stS (s : Sy) (k : Int) (m : Me) (c : Cor) : Sy := (m, List.set (α := Cor) s.2.1 k.toNat c, s.2.2.1, ())
section
variable {s : Sy} {k : Int} {m : Me} {c : Cor} {F : List Frm} {f g : Frm} {r : Den (.cons tI (.cons tI (.cons tR3 (.cons tL .nil))))}
theorem stS_len : (stS s k m c).2.1.length = s.2.1.length := List.length_set
theorem stS_core (h0 : 0 ≤ k) (h1 : k < s.2.1.length) : cAt (stS s k m c).2.1 k = c := getD_set (by omega)
theorem stS_self (h0 : 0 ≤ k) (h1 : k < s.2.1.length) : stS s k s.1 (cAt s.2.1 k) = s := by
  have e : List.set (α := Cor) s.2.1 k.toNat (cAt s.2.1 k) = s.2.1 := by
    apply List.ext_getElem?
    intro j
    by_cases hj : k.toNat = j
    · subst hj
      rw [List.getElem?_set_self (by omega)]
      unfold cAt
      rw [List.getD_eq_getElem?_getD, List.getElem?_eq_getElem (by omega)]
      rfl
    · rw [List.getElem?_set_ne hj]
  unfold stS
  rw [e]
theorem topI_is (h0 : 0 ≤ k) (h1 : k < s.2.1.length) : topI s k = (cAt s.2.1 k).1.getLast? := by
  unfold topI
  rw [if_pos h0]
  unfold cAt
  rw [List.getD_eq_getElem?_getD, List.getElem?_eq_getElem (by omega)]
  rfl
theorem topI_st (h0 : 0 ≤ k) (h1 : k < s.2.1.length) : topI (stS s k m (F ++ [f], r)) k = some f := by
  rw [topI_is h0 (by rw [stS_len]; exact h1), stS_core h0 h1]
  exact List.getLast?_concat
theorem withS_st {c' : Cor} : withS (stS s k m c) k c' = stS s k m c' := by
  unfold withS stS
  show (m, List.set (List.set (α := Cor) s.2.1 k.toNat c) k.toNat c', s.2.2.1, ()) = _
  rw [List.set_set]
theorem setS_st (h0 : 0 ≤ k) (h1 : k < s.2.1.length) : setS (stS s k m (F ++ [f], r)) k g = stS s k m (F ++ [g], r) := by
  unfold setS
  rw [topI_st h0 h1, if_pos (show (some f).isSome = true from rfl), stS_core h0 h1, withS_st]
  show stS s k m (List.set (F ++ [f]) (((F ++ [f]).length : Int) - 1).toNat g, r) = _
  have e : (((F ++ [f]).length : Int) - 1).toNat = F.length := by rw [List.length_append, List.length_singleton]; omega
  rw [e, List.set_append_right _ _ (Nat.le_refl _), Nat.sub_self]
  rfl
theorem backS_st {v e : Int} (h0 : 0 ≤ k) (h1 : k < s.2.1.length) : backS (stS s k m (F ++ [f], r)) k v e = stS s k m (F, v, e, r.2.2) := by
  unfold backS
  rw [topI_st h0 h1, if_pos (show (some f).isSome = true from rfl), stS_core h0 h1, withS_st]
  show stS s k m (List.take (((F ++ [f]).length : Int) - 1).toNat (F ++ [f]), v, e, r.2.2) = _
  have e : (((F ++ [f]).length : Int) - 1).toNat = F.length := by rw [List.length_append, List.length_singleton]; omega
  rw [e, List.take_left]
theorem callS_st {op a b d : Int} (h0 : 0 ≤ k) (h1 : k < s.2.1.length) (hl : F.length < 40) : callS (stS s k m (F, r)) k op a b d = stS s k m (F ++ [frm0 op a b d], r) := by
  unfold callS pushS
  rw [stS_core h0 h1, stS_len, if_pos ⟨h0, h1, hl⟩, withS_st]
theorem callP_st {op a : Int} (h0 : 0 ≤ k) (h1 : k < s.2.1.length) (hl : F.length < 40) : callP (stS s k m (F, r)) k op a = stS s k m (F ++ [frm0 op a 0 0], r) := by
  unfold callP pushS
  rw [stS_core h0 h1, if_pos ⟨by unfold isCoreB; rw [stS_len, decide_eq_true h0, decide_eq_true h1]; rfl, hl⟩, withS_st]
theorem keptS_st {l : Li} (h0 : 0 ≤ k) (h1 : k < s.2.1.length) : keptS (stS s k m c) k l = stS s k m (c.1, c.2.1, c.2.2.1, c.2.2.2.1, l, ()) := by
  unfold keptS
  rw [stS_core h0 h1, withS_st]
theorem callS_self {op a b d : Int} (h0 : 0 ≤ k) (h1 : k < s.2.1.length) (hl : (cAt s.2.1 k).1.length < 40) : callS s k op a b d = stS s k s.1 ((cAt s.2.1 k).1 ++ [frm0 op a b d], (cAt s.2.1 k).2) := by
  have h := callS_st (s := s) (k := k) (m := s.1) (F := (cAt s.2.1 k).1) (r := (cAt s.2.1 k).2) (op := op) (a := a) (b := b) (d := d) h0 h1 hl
  rw [show stS s k s.1 ((cAt s.2.1 k).1, (cAt s.2.1 k).2) = s from stS_self h0 h1] at h
  exact h
end
/-! ### Retired nodes, counted -/
end Go.Proofs.YtpobngddiifdpaaGreat.V
