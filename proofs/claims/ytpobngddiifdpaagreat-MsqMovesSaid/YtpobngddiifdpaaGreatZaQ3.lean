/- AllocParts. -/
import Derived.Test.YtpobngddiifdpaaGreatZaV20
set_option linter.unusedSimpArgs false
set_option linter.unusedVariables false
namespace Go.Proofs.YtpobngddiifdpaaGreat.V
open Go Go.RowKit Go.Proofs.YtpobngddiifdpaaGreat.Hz
set_option maxRecDepth 100000

/-! ### What is right and small -/
/-! ### The parts -/
/-- Those from 1 on. -/
def places1 (g : Li) (x : Int) : Nat → Li
  | 0 => []
  | i + 1 => if i ≠ 0 ∧ nI g i = x then places1 g x i ++ [(i : Int)] else places1 g x i
/-! ### A step turns at most one node -/
/-- One place at most is another one. -/
def oneSet (a b : Li) : Prop := b = a ∨ ∃ (q : Nat) (v : Int), b = List.set (α := Int) a q v
theorem turnM_one (m : Me) (p to : Int) : oneSet m.2.1 (turnM m p to).2.1 := by
  by_cases c : 1 ≤ p ∧ p < m.2.1.length ∧ turnB (nI m.2.1 p) to = true
  · rw [show turnM m p to = _ from if_pos c]; exact .inr ⟨_, _, rfl⟩
  · rw [show turnM m p to = _ from if_neg c]; exact .inl rfl
theorem storeM_G (m : Me) (p v : Int) : (storeM m p v).2.1 = m.2.1 := by
  unfold storeM; split <;> rfl
theorem casM_G (m : Me) (p a b : Int) : (casM m p a b).2.1 = m.2.1 := by
  unfold casM; split
  · exact storeM_G _ _ _
  · rfl
theorem setS_M (s : Sy) (k : Int) (f : Frm) : (setS s k f).1 = s.1 := by unfold setS; split <;> rfl
theorem backS_M (s : Sy) (k v e : Int) : (backS s k v e).1 = s.1 := by unfold backS; split <;> rfl
theorem callP_M (s : Sy) (k op a : Int) : (callP s k op a).1 = s.1 := by unfold callP; split <;> rfl
theorem logS_M (s : Sy) (k a b c v : Int) : (logS s k a b c v).1 = s.1 := (logS_cores s k a b c v).2
theorem scanF_one (s : Sy) (k op pc : Int) (r : R8) (l : Li) : oneSet s.1.2.1 (scanF s k op pc r l).1.2.1 := by
  have same : ∀ {a : Li}, oneSet a a := .inl rfl
  unfold scanF
  split
  · unfold popS
    split
    · unfold pop0
      split
      · rw [backS_M, logS_M]; exact same
      · rw [setS_M]; exact same
    split
    · rw [setS_M]; exact same
    split
    · unfold pop2
      cases casB s.1 0 r.1 with
      | true =>
        rw [cond_true, backS_M]
        have := turnM_one (casM s.1 0 r.1 (popN r)) (idxI r.1) 1
        rw [casM_G] at this
        exact this
      | false => rw [cond_false, setS_M]; show oneSet _ (casM _ _ _ _).2.1; rw [casM_G]; exact same
    · exact same
  split
  · unfold pushSt
    split
    · rw [setS_M]; exact same
    split
    · rw [setS_M]; show oneSet _ (storeM _ _ _).2.1; rw [storeM_G]; exact same
    split
    · unfold push2
      cases casB s.1 0 r.2.1 with
      | true =>
        rw [cond_true, backS_M]
        have := turnM_one (casM s.1 0 r.2.1 (pushN r)) r.1 0
        rw [casM_G] at this
        exact this
      | false => rw [cond_false, setS_M]; show oneSet _ (casM _ _ _ _).2.1; rw [casM_G]; exact same
    · exact same
  split
  · unfold protS
    split
    · unfold prot0
      split
      · rw [backS_M]; exact same
      · rw [setS_M]; exact same
    split
    · rw [setS_M]; show oneSet _ (storeM _ _ _).2.1; rw [storeM_G]; exact same
    split
    · unfold prot2
      split
      · rw [backS_M]; exact same
      · rw [setS_M]; exact same
    · exact same
  split
  · unfold clearS
    split
    · split
      · rw [backS_M]; show oneSet _ (storeM _ _ _).2.1; rw [storeM_G]; exact same
      · rw [setS_M]; show oneSet _ (storeM _ _ _).2.1; rw [storeM_G]; exact same
    · exact same
  split
  · unfold retireS
    split
    · rw [backS_M]; exact same
    split
    · unfold retire0
      split
      · rw [backS_M]; exact same
      split
      · rw [backS_M]; exact turnM_one _ _ _
      · rw [callP_M, setS_M]; exact turnM_one _ _ _
    · exact same
  split
  · unfold lookS
    split
    · unfold look0; rw [setS_M]; exact same
    split
    · unfold look1
      split
      · rw [backS_M]; exact same
      · unfold look1a; rw [callP_M, setS_M]; exact same
    · exact same
  exact same
theorem alS_one (s : Sy) (k : Int) : oneSet s.1.2.1 (alS s k).1.2.1 := by
  unfold alS
  split
  · exact .inl rfl
  · rename_i f _
    unfold allocF
    split
    · unfold allocS
      split
      · unfold thenS; rw [callP_M, setS_M]; exact .inl rfl
      split
      · split
        · rw [backS_M]; exact .inl rfl
        split
        · rw [backS_M]; exact .inl rfl
        · unfold thenS; rw [callP_M, setS_M]; exact .inl rfl
      split
      · rw [backS_M]; exact .inl rfl
      · exact .inl rfl
    split
    · unfold dropS
      split
      · unfold thenS; rw [callP_M, setS_M]; exact .inl rfl
      split
      · rw [backS_M]; exact .inl rfl
      · exact .inl rfl
    · exact scanF_one s k _ _ _ _
/-- At how many places among the first i two differ. -/
def diffN (a b : Li) : Nat → Nat
  | 0 => 0
  | i + 1 => if nI b i ≠ nI a i then diffN a b i + 1 else diffN a b i
theorem diffN_le {a b : Li} (h : oneSet a b) (i : Nat) : diffN a b i ≤ 1 := by
  rcases h with rfl | ⟨q, v, rfl⟩
  · suffices diffN b b i = 0 by omega
    induction i with
    | zero => rfl
    | succ i ih => show (if nI b i ≠ nI b i then _ else _) = 0; rw [if_neg (fun h => h rfl)]; exact ih
  · suffices diffN a (List.set (α := Int) a q v) i ≤ if q < i then 1 else 0 by split at this <;> omega
    induction i with
    | zero => exact Nat.zero_le _
    | succ i ih =>
      show (if nI (List.set (α := Int) a q v) i ≠ nI a i then _ else _) ≤ _
      by_cases c : q = i
      · subst c
        rw [if_neg (Nat.lt_irrefl q)] at ih
        rw [if_pos (Nat.lt_succ_self q)]
        split <;> omega
      · have e : nI (List.set (α := Int) a q v) i = nI a i := by
          unfold nI
          rw [Int.toNat_natCast, List.getD_eq_getElem?_getD, List.getD_eq_getElem?_getD, List.getElem?_set_ne c]
        rw [if_neg (fun h => h e)]
        have : (if q < i then 1 else 0) ≤ (if q < i + 1 then 1 else 0) := by split <;> split <;> omega
        omega
end Go.Proofs.YtpobngddiifdpaaGreat.V

set_option linter.unusedSimpArgs false
set_option linter.unusedVariables false
namespace Go.Proofs.YtpobngddiifdpaaGreat.V
open Go Go.RowKit Go.Proofs.YtpobngddiifdpaaGreat.Hz
set_option maxRecDepth 100000

theorem Fine.top {s : Sy} {k : Int} (hf : Fine s) : Spec Tryz.prog 30 [vS s, vI k] (vFB ((topI s k).getD (dflt tFrame)) (topI s k).isSome) := s_refTop s k (Nat.le_trans hf.cores (by decide)) (fun c hc => Nat.le_trans (hf.frames c hc) (by decide))
theorem s_refTopOf {s : Sy} {k : Int} {f : Frm} (ht : topI s k = some f) (hf : Fine s) : Spec Tryz.prog 30 [vS s, vI k] (vFB f true) := by
  have h := hf.top (k := k)
  rw [ht] at h
  exact h
theorem s_refTopNo {s : Sy} {k : Int} (ht : topI s k = none) (hf : Fine s) : Spec Tryz.prog 30 [vS s, vI k] (vFB (dflt tFrame) false) := by
  have h := hf.top (k := k)
  rw [ht] at h
  exact h
end Go.Proofs.YtpobngddiifdpaaGreat.V

set_option linter.unusedSimpArgs false
set_option linter.unusedVariables false
namespace Go.Proofs.YtpobngddiifdpaaGreat.V
open Go Go.RowKit Go.Proofs.YtpobngddiifdpaaGreat.Hz
set_option maxRecDepth 100000

theorem callS_P (s : Sy) (k op a : Int) : callS s k op a 0 0 = callP s k op a := by
  have e : isCoreB s k = true ↔ 0 ≤ k ∧ k < s.2.1.length := by unfold isCoreB; rw [Bool.and_eq_true, decide_eq_true_eq, decide_eq_true_eq]
  by_cases c : 0 ≤ k ∧ k < s.2.1.length ∧ (cAt s.2.1 k).1.length < 40
  · exact (if_pos c).trans (if_pos (⟨e.2 ⟨c.1, c.2.1⟩, c.2.2⟩ : isCoreB s k = true ∧ (cAt s.2.1 k).1.length < 40)).symm
  · exact (if_neg c).trans (if_neg (fun h : isCoreB s k = true ∧ (cAt s.2.1 k).1.length < 40 => c ⟨(e.1 h.1).1, (e.1 h.1).2, h.2⟩)).symm
end Go.Proofs.YtpobngddiifdpaaGreat.V

set_option linter.unusedSimpArgs false
set_option linter.unusedVariables false
namespace Go.Proofs.YtpobngddiifdpaaGreat.V
open Go Go.RowKit Go.Proofs.YtpobngddiifdpaaGreat.Hz
set_option maxRecDepth 100000

/-- A core's value and error. -/
abbrev coV (s : Sy) (k : Int) : Int := (cAt s.2.1 k).2.1
abbrev coE (s : Sy) (k : Int) : Int := (cAt s.2.1 k).2.2.1
/-- A step of OEnq: of queue q, value v, node n, tail t, next w. -/
def putS (s : Sy) (k pc q v n t w : Int) (r : Den (.cons tI (.cons tI (.cons tI .nil)))) (l : Li) : Sy :=
  if pc = 0 then callS (setS s k (9, 1, (q, v, n, t, w, r), l, ())) k 7 0 0 0
  else if pc = 1 then (if coE s k ≠ 0 then backS s k 0 (coE s k) else setS s k (9, 2, (q, v, coV s k, t, w, r), l, ()))
  else if pc = 2 then setS (storeM s.1 (atI n 3) v, s.2) k (9, 3, (q, v, n, t, w, r), l, ())
  else if pc = 3 then setS (loadM s.1 (atI n 1), s.2) k (9, 4, (q, v, n, t, loadI s.1 (atI n 1), r), l, ())
  else if pc = 4 then setS (storeM s.1 (atI n 1) (nextI w 0 0), s.2) k (9, 5, (q, v, n, t, w, r), l, ())
  else if pc = 5 then callS (setS s k (9, 6, (q, v, n, t, w, r), l, ())) k 3 (33 + 2 * q) 0 0
  else if pc = 6 then setS s k (9, 7, (q, v, n, coV s k, w, r), l, ())
  else if pc = 7 then setS (loadM s.1 (atI (idxI t) 1), s.2) k (9, (if idxI (loadI s.1 (atI (idxI t) 1)) = 0 then 9 else 8), (q, v, n, t, loadI s.1 (atI (idxI t) 1), r), l, ())
  else if pc = 8 then setS (casM s.1 (33 + 2 * q) t (nextI t (idxI w) 0), s.2) k (9, 5, (q, v, n, t, w, r), l, ())
  else if pc = 9 then (if casB s.1 (atI (idxI t) 1) w = true then logS (setS (casM s.1 (atI (idxI t) 1) w (nextI w n 0), s.2) k (9, 10, (q, v, n, t, w, r), l, ())) k 1 q 0 v else setS (casM s.1 (atI (idxI t) 1) w (nextI w n 0), s.2) k (9, 5, (q, v, n, t, w, r), l, ()))
  else if pc = 10 then setS (casM s.1 (33 + 2 * q) t (nextI t n 0), s.2) k (9, 11, (q, v, n, t, w, r), l, ())
  else if pc = 11 then backS (storeM s.1 (placeI k 0) 0, s.2) k 0 0
  else s
end Go.Proofs.YtpobngddiifdpaaGreat.V

set_option linter.unusedSimpArgs false
set_option linter.unusedVariables false
namespace Go.Proofs.YtpobngddiifdpaaGreat.V
open Go Go.RowKit Go.Proofs.YtpobngddiifdpaaGreat.Hz
set_option maxRecDepth 100000

/-- A step of ODeq: of queue q, head h, tail t, next w, value x, error e. -/
def takeS (s : Sy) (k pc q v h t w x e y : Int) (l : Li) : Sy :=
  if pc = 0 then callS (setS s k (10, 1, (q, v, h, t, w, x, e, y, ()), l, ())) k 3 (32 + 2 * q) 0 0
  else if pc = 1 then setS s k (10, 2, (q, v, (coV s k), t, w, x, e, y, ()), l, ())
  else if pc = 2 then setS (loadM s.1 (33 + 2 * q), s.2) k (10, 3, (q, v, h, (loadI s.1 (33 + 2 * q)), w, x, e, y, ()), l, ())
  else if pc = 3 then (if idxI (loadI s.1 (atI (idxI h) 1)) = 0 then logS (setS ((loadM s.1 (atI (idxI h) 1)), s.2) k (10, 9, (q, v, h, t, (loadI s.1 (atI (idxI h) 1)), 0, 3, y, ()), l, ())) k 3 q 0 0 else if idxI h = idxI t then setS ((loadM s.1 (atI (idxI h) 1)), s.2) k (10, 4, (q, v, h, t, (loadI s.1 (atI (idxI h) 1)), x, e, y, ()), l, ()) else setS ((loadM s.1 (atI (idxI h) 1)), s.2) k (10, 5, (q, v, h, t, (loadI s.1 (atI (idxI h) 1)), x, e, y, ()), l, ()))
  else if pc = 4 then setS ((casM s.1 (33 + 2 * q) t (nextI t (idxI w) 0)), s.2) k (10, 0, (q, v, h, t, w, x, e, y, ()), l, ())
  else if pc = 5 then setS ((storeM s.1 (placeI k 1) (idxI w)), s.2) k (10, 6, (q, v, h, t, w, x, e, y, ()), l, ())
  else if pc = 6 then (if loadI s.1 (32 + 2 * q) ≠ h then setS (loadM s.1 (32 + 2 * q), s.2) k (10, 0, (q, v, h, t, w, x, e, y, ()), l, ()) else setS (loadM s.1 (32 + 2 * q), s.2) k (10, 7, (q, v, h, t, w, x, e, y, ()), l, ()))
  else if pc = 7 then setS ((loadM s.1 (atI (idxI w) 3)), s.2) k (10, 8, (q, v, h, t, w, (loadI s.1 (atI (idxI w) 3)), e, y, ()), l, ())
  else if pc = 8 then (if casB s.1 (32 + 2 * q) h = true then callS (setS (logS ((casM s.1 (32 + 2 * q) h (nextI h (idxI w) 0)), s.2) k 2 q 0 x) k (10, 9, (q, v, h, t, w, x, 0, y, ()), l, ())) k 5 (idxI h) 0 0 else setS ((casM s.1 (32 + 2 * q) h (nextI h (idxI w) 0)), s.2) k (10, 0, (q, v, h, t, w, x, e, y, ()), l, ()))
  else if pc = 9 then setS ((storeM s.1 (placeI k 0) 0), s.2) k (10, 10, (q, v, h, t, w, x, e, y, ()), l, ())
  else if pc = 10 then backS ((storeM s.1 (placeI k 1) 0), s.2) k x e
  else s
end Go.Proofs.YtpobngddiifdpaaGreat.V

set_option linter.unusedSimpArgs false
set_option linter.unusedVariables false
namespace Go.Proofs.YtpobngddiifdpaaGreat.V
open Go Go.RowKit Go.Proofs.YtpobngddiifdpaaGreat.Hz
set_option maxRecDepth 100000

/-- A step of a core, of layers 1 to 8. -/
def msqF (s : Sy) (k op pc : Int) (r : R8) (l : Li) : Sy :=
  if op = 9 ∨ op = 10 then (if r.1 < 0 ∨ 7 < r.1 then s else if op = 9 then putS s k pc r.1 r.2.1 r.2.2.1 r.2.2.2.1 r.2.2.2.2.1 r.2.2.2.2.2 l else takeS s k pc r.1 r.2.1 r.2.2.1 r.2.2.2.1 r.2.2.2.2.1 r.2.2.2.2.2.1 r.2.2.2.2.2.2.1 r.2.2.2.2.2.2.2.1 l)
  else alS s k
def msqS (s : Sy) (k : Int) : Sy := match topI s k with
  | none => alS s k
  | some f => msqF s k f.1 f.2.1 f.2.2.1 f.2.2.2.1
theorem msqS_none {s : Sy} {k : Int} (h : topI s k = none) : msqS s k = alS s k := by unfold msqS; rw [h]
theorem msqS_some {s : Sy} {k : Int} {f : Frm} (h : topI s k = some f) : msqS s k = msqF s k f.1 f.2.1 f.2.2.1 f.2.2.2.1 := by unfold msqS; rw [h]
end Go.Proofs.YtpobngddiifdpaaGreat.V
