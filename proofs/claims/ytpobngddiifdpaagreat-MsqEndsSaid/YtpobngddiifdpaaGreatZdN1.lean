/- The document's free list, hazard slots. -/
import Derived.Test.YtpobngddiifdpaaGreatZdV23
import Derived.Test.YtpobngddiifdpaaGreatZdM16
set_option linter.unusedSimpArgs false
set_option linter.unusedVariables false
namespace Go.Proofs.YtpobngddiifdpaaGreat.V
open Go Go.RowKit Go.Proofs.YtpobngddiifdpaaGreat.Hz
set_option maxRecDepth 100000

theorem Fine.top {s : Sy} {k : Int} (hf : Fine s) : Spec Tryz.prog 30 [vS s, vI k] (vFB ((topI s k).getD (dflt tFrame)) (topI s k).isSome) := s_refTop s k (Nat.le_trans hf.cores (by decide)) (fun c hc => Nat.le_trans (hf.frames c hc) (by decide))
theorem s_refTopOf {s : Sy} {k : Int} {f : Frm} (ht : topI s k = some f) (hf : Fine s) : Spec Tryz.prog 30 [vS s, vI k] (vFB f true) := by
  have h := hf.top (k := k)
  rw [ht] at h
  exact h
theorem s_refTopNo {s : Sy} {k : Int} (ht : topI s k = none) (hf : Fine s) : Spec Tryz.prog 30 [vS s, vI k] (vFB (dflt tFrame) false) := by
  have h := hf.top (k := k)
  rw [ht] at h
  exact h
end Go.Proofs.YtpobngddiifdpaaGreat.V

set_option linter.unusedSimpArgs false
set_option linter.unusedVariables false
namespace Go.Proofs.YtpobngddiifdpaaGreat.V
open Go Go.RowKit Go.Proofs.YtpobngddiifdpaaGreat.Hz
set_option maxRecDepth 100000

theorem callS_P (s : Sy) (k op a : Int) : callS s k op a 0 0 = callP s k op a := by
  have e : isCoreB s k = true ↔ 0 ≤ k ∧ k < s.2.1.length := by unfold isCoreB; rw [Bool.and_eq_true, decide_eq_true_eq, decide_eq_true_eq]
  by_cases c : 0 ≤ k ∧ k < s.2.1.length ∧ (cAt s.2.1 k).1.length < 40
  · exact (if_pos c).trans (if_pos (⟨e.2 ⟨c.1, c.2.1⟩, c.2.2⟩ : isCoreB s k = true ∧ (cAt s.2.1 k).1.length < 40)).symm
  · exact (if_neg c).trans (if_neg (fun h : isCoreB s k = true ∧ (cAt s.2.1 k).1.length < 40 => c ⟨(e.1 h.1).1, (e.1 h.1).2, h.2⟩)).symm
end Go.Proofs.YtpobngddiifdpaaGreat.V

set_option linter.unusedSimpArgs false
set_option linter.unusedVariables false
namespace Go.Proofs.YtpobngddiifdpaaGreat.V
open Go Go.RowKit Go.Proofs.YtpobngddiifdpaaGreat.Hz
set_option maxRecDepth 100000

/-- A core's value and error. -/
abbrev coV (s : Sy) (k : Int) : Int := (cAt s.2.1 k).2.1
abbrev coE (s : Sy) (k : Int) : Int := (cAt s.2.1 k).2.2.1
/-- A step of OEnq: of queue q, value v, node n, tail t, next w. -/
def putS (s : Sy) (k pc q v n t w : Int) (r : Den (.cons tI (.cons tI (.cons tI .nil)))) (l : Li) : Sy :=
  if pc = 0 then callS (setS s k (9, 1, (q, v, n, t, w, r), l, ())) k 7 0 0 0
  else if pc = 1 then (if coE s k ≠ 0 then backS s k 0 (coE s k) else setS s k (9, 2, (q, v, coV s k, t, w, r), l, ()))
  else if pc = 2 then setS (storeM s.1 (atI n 3) v, s.2) k (9, 3, (q, v, n, t, w, r), l, ())
  else if pc = 3 then setS (loadM s.1 (atI n 1), s.2) k (9, 4, (q, v, n, t, loadI s.1 (atI n 1), r), l, ())
  else if pc = 4 then setS (storeM s.1 (atI n 1) (nextI w 0 0), s.2) k (9, 5, (q, v, n, t, w, r), l, ())
  else if pc = 5 then callS (setS s k (9, 6, (q, v, n, t, w, r), l, ())) k 3 (33 + 2 * q) 0 0
  else if pc = 6 then setS s k (9, 7, (q, v, n, coV s k, w, r), l, ())
  else if pc = 7 then setS (loadM s.1 (atI (idxI t) 1), s.2) k (9, (if idxI (loadI s.1 (atI (idxI t) 1)) = 0 then 9 else 8), (q, v, n, t, loadI s.1 (atI (idxI t) 1), r), l, ())
  else if pc = 8 then setS (casM s.1 (33 + 2 * q) t (nextI t (idxI w) 0), s.2) k (9, 5, (q, v, n, t, w, r), l, ())
  else if pc = 9 then (if casB s.1 (atI (idxI t) 1) w = true then logS (setS (casM s.1 (atI (idxI t) 1) w (nextI w n 0), s.2) k (9, 10, (q, v, n, t, w, r), l, ())) k 1 q 0 v else setS (casM s.1 (atI (idxI t) 1) w (nextI w n 0), s.2) k (9, 5, (q, v, n, t, w, r), l, ()))
  else if pc = 10 then setS (casM s.1 (33 + 2 * q) t (nextI t n 0), s.2) k (9, 11, (q, v, n, t, w, r), l, ())
  else if pc = 11 then backS (storeM s.1 (placeI k 0) 0, s.2) k 0 0
  else s
end Go.Proofs.YtpobngddiifdpaaGreat.V

set_option linter.unusedSimpArgs false
set_option linter.unusedVariables false
namespace Go.Proofs.YtpobngddiifdpaaGreat.V
open Go Go.RowKit Go.Proofs.YtpobngddiifdpaaGreat.Hz
set_option maxRecDepth 100000

/-- A step of ODeq: of queue q, head h, tail t, next w, value x, error e. -/
def takeS (s : Sy) (k pc q v h t w x e y : Int) (l : Li) : Sy :=
  if pc = 0 then callS (setS s k (10, 1, (q, v, h, t, w, x, e, y, ()), l, ())) k 3 (32 + 2 * q) 0 0
  else if pc = 1 then setS s k (10, 2, (q, v, (coV s k), t, w, x, e, y, ()), l, ())
  else if pc = 2 then setS (loadM s.1 (33 + 2 * q), s.2) k (10, 3, (q, v, h, (loadI s.1 (33 + 2 * q)), w, x, e, y, ()), l, ())
  else if pc = 3 then (if idxI (loadI s.1 (atI (idxI h) 1)) = 0 then logS (setS ((loadM s.1 (atI (idxI h) 1)), s.2) k (10, 9, (q, v, h, t, (loadI s.1 (atI (idxI h) 1)), 0, 3, y, ()), l, ())) k 3 q 0 0 else if idxI h = idxI t then setS ((loadM s.1 (atI (idxI h) 1)), s.2) k (10, 4, (q, v, h, t, (loadI s.1 (atI (idxI h) 1)), x, e, y, ()), l, ()) else setS ((loadM s.1 (atI (idxI h) 1)), s.2) k (10, 5, (q, v, h, t, (loadI s.1 (atI (idxI h) 1)), x, e, y, ()), l, ()))
  else if pc = 4 then setS ((casM s.1 (33 + 2 * q) t (nextI t (idxI w) 0)), s.2) k (10, 0, (q, v, h, t, w, x, e, y, ()), l, ())
  else if pc = 5 then setS ((storeM s.1 (placeI k 1) (idxI w)), s.2) k (10, 6, (q, v, h, t, w, x, e, y, ()), l, ())
  else if pc = 6 then (if loadI s.1 (32 + 2 * q) ≠ h then setS (loadM s.1 (32 + 2 * q), s.2) k (10, 0, (q, v, h, t, w, x, e, y, ()), l, ()) else setS (loadM s.1 (32 + 2 * q), s.2) k (10, 7, (q, v, h, t, w, x, e, y, ()), l, ()))
  else if pc = 7 then setS ((loadM s.1 (atI (idxI w) 3)), s.2) k (10, 8, (q, v, h, t, w, (loadI s.1 (atI (idxI w) 3)), e, y, ()), l, ())
  else if pc = 8 then (if casB s.1 (32 + 2 * q) h = true then callS (setS (logS ((casM s.1 (32 + 2 * q) h (nextI h (idxI w) 0)), s.2) k 2 q 0 x) k (10, 9, (q, v, h, t, w, x, 0, y, ()), l, ())) k 5 (idxI h) 0 0 else setS ((casM s.1 (32 + 2 * q) h (nextI h (idxI w) 0)), s.2) k (10, 0, (q, v, h, t, w, x, e, y, ()), l, ()))
  else if pc = 9 then setS ((storeM s.1 (placeI k 0) 0), s.2) k (10, 10, (q, v, h, t, w, x, e, y, ()), l, ())
  else if pc = 10 then backS ((storeM s.1 (placeI k 1) 0), s.2) k x e
  else s
end Go.Proofs.YtpobngddiifdpaaGreat.V

set_option linter.unusedSimpArgs false
set_option linter.unusedVariables false
namespace Go.Proofs.YtpobngddiifdpaaGreat.V
open Go Go.RowKit Go.Proofs.YtpobngddiifdpaaGreat.Hz
set_option maxRecDepth 100000

/-- A step of a core, of layers 1 to 8. -/
def msqF (s : Sy) (k op pc : Int) (r : R8) (l : Li) : Sy :=
  if op = 9 ∨ op = 10 then (if r.1 < 0 ∨ 7 < r.1 then s else if op = 9 then putS s k pc r.1 r.2.1 r.2.2.1 r.2.2.2.1 r.2.2.2.2.1 r.2.2.2.2.2 l else takeS s k pc r.1 r.2.1 r.2.2.1 r.2.2.2.1 r.2.2.2.2.1 r.2.2.2.2.2.1 r.2.2.2.2.2.2.1 r.2.2.2.2.2.2.2.1 l)
  else alS s k
def msqS (s : Sy) (k : Int) : Sy := match topI s k with
  | none => alS s k
  | some f => msqF s k f.1 f.2.1 f.2.2.1 f.2.2.2.1
theorem msqS_none {s : Sy} {k : Int} (h : topI s k = none) : msqS s k = alS s k := by unfold msqS; rw [h]
theorem msqS_some {s : Sy} {k : Int} {f : Frm} (h : topI s k = some f) : msqS s k = msqF s k f.1 f.2.1 f.2.2.1 f.2.2.2.1 := by unfold msqS; rw [h]
end Go.Proofs.YtpobngddiifdpaaGreat.V

set_option linter.unusedSimpArgs false
set_option linter.unusedVariables false
namespace Go.Proofs.YtpobngddiifdpaaGreat.V
open Go Go.RowKit Go.Proofs.YtpobngddiifdpaaGreat.Hz
set_option maxRecDepth 100000

abbrev R3' := Den (.cons tI (.cons tI (.cons tI .nil)))
def lPut (k : Int) (m : Me) (pc q v n t w : Int) (r3 : R3') (l : Li) (r : Rest) : Loc :=
  if pc = 0 then ⟨m, [((9 : Int), (1 : Int), (q, v, n, t, w, r3), l, ()), frm0 7 0 0 0], r, []⟩
  else if pc = 1 then (if r.2.1 ≠ 0 then ⟨m, [], (0, r.2.1, r.2.2), []⟩ else ⟨m, [((9 : Int), (2 : Int), (q, v, r.1, t, w, r3), l, ())], r, []⟩)
  else if pc = 2 then ⟨storeM m (atI n 3) v, [((9 : Int), (3 : Int), (q, v, n, t, w, r3), l, ())], r, []⟩
  else if pc = 3 then ⟨loadM m (atI n 1), [((9 : Int), (4 : Int), (q, v, n, t, loadI m (atI n 1), r3), l, ())], r, []⟩
  else if pc = 4 then ⟨storeM m (atI n 1) (nextI w 0 0), [((9 : Int), (5 : Int), (q, v, n, t, w, r3), l, ())], r, []⟩
  else if pc = 5 then ⟨m, [((9 : Int), (6 : Int), (q, v, n, t, w, r3), l, ()), frm0 3 (33 + 2 * q) 0 0], r, []⟩
  else if pc = 6 then ⟨m, [((9 : Int), (7 : Int), (q, v, n, r.1, w, r3), l, ())], r, []⟩
  else if pc = 7 then ⟨loadM m (atI (idxI t) 1), [((9 : Int), (if idxI (loadI m (atI (idxI t) 1)) = 0 then 9 else 8 : Int), (q, v, n, t, loadI m (atI (idxI t) 1), r3), l, ())], r, []⟩
  else if pc = 8 then ⟨casM m (33 + 2 * q) t (nextI t (idxI w) 0), [((9 : Int), (5 : Int), (q, v, n, t, w, r3), l, ())], r, []⟩
  else if pc = 9 then (if casB m (atI (idxI t) 1) w = true then ⟨casM m (atI (idxI t) 1) w (nextI w n 0), [((9 : Int), (10 : Int), (q, v, n, t, w, r3), l, ())], r, [(k, 1, q, 0, v, ())]⟩ else ⟨casM m (atI (idxI t) 1) w (nextI w n 0), [((9 : Int), (5 : Int), (q, v, n, t, w, r3), l, ())], r, []⟩)
  else if pc = 10 then ⟨casM m (33 + 2 * q) t (nextI t n 0), [((9 : Int), (11 : Int), (q, v, n, t, w, r3), l, ())], r, []⟩
  else if pc = 11 then ⟨storeM m (placeI k 0) 0, [], (0, 0, r.2.2), []⟩
  else ⟨m, [((9 : Int), pc, (q, v, n, t, w, r3), l, ())], r, []⟩
def lTake (k : Int) (m : Me) (pc q v h t w x e y : Int) (l : Li) (r : Rest) : Loc :=
  if pc = 0 then ⟨m, [((10 : Int), (1 : Int), (q, v, h, t, w, x, e, y, ()), l, ()), frm0 3 (32 + 2 * q) 0 0], r, []⟩
  else if pc = 1 then ⟨m, [((10 : Int), (2 : Int), (q, v, r.1, t, w, x, e, y, ()), l, ())], r, []⟩
  else if pc = 2 then ⟨loadM m (33 + 2 * q), [((10 : Int), (3 : Int), (q, v, h, loadI m (33 + 2 * q), w, x, e, y, ()), l, ())], r, []⟩
  else if pc = 3 then (if idxI (loadI m (atI (idxI h) 1)) = 0 then ⟨loadM m (atI (idxI h) 1), [((10 : Int), (9 : Int), (q, v, h, t, loadI m (atI (idxI h) 1), (0 : Int), (3 : Int), y, ()), l, ())], r, [(k, 3, q, 0, 0, ())]⟩
    else if idxI h = idxI t then ⟨loadM m (atI (idxI h) 1), [((10 : Int), (4 : Int), (q, v, h, t, loadI m (atI (idxI h) 1), x, e, y, ()), l, ())], r, []⟩
    else ⟨loadM m (atI (idxI h) 1), [((10 : Int), (5 : Int), (q, v, h, t, loadI m (atI (idxI h) 1), x, e, y, ()), l, ())], r, []⟩)
  else if pc = 4 then ⟨casM m (33 + 2 * q) t (nextI t (idxI w) 0), [((10 : Int), (0 : Int), (q, v, h, t, w, x, e, y, ()), l, ())], r, []⟩
  else if pc = 5 then ⟨storeM m (placeI k 1) (idxI w), [((10 : Int), (6 : Int), (q, v, h, t, w, x, e, y, ()), l, ())], r, []⟩
  else if pc = 6 then (if loadI m (32 + 2 * q) ≠ h then ⟨loadM m (32 + 2 * q), [((10 : Int), (0 : Int), (q, v, h, t, w, x, e, y, ()), l, ())], r, []⟩ else ⟨loadM m (32 + 2 * q), [((10 : Int), (7 : Int), (q, v, h, t, w, x, e, y, ()), l, ())], r, []⟩)
  else if pc = 7 then ⟨loadM m (atI (idxI w) 3), [((10 : Int), (8 : Int), (q, v, h, t, w, loadI m (atI (idxI w) 3), e, y, ()), l, ())], r, []⟩
  else if pc = 8 then (if casB m (32 + 2 * q) h = true then ⟨casM m (32 + 2 * q) h (nextI h (idxI w) 0), [((10 : Int), (9 : Int), (q, v, h, t, w, x, (0 : Int), y, ()), l, ()), frm0 5 (idxI h) 0 0], r, [(k, 2, q, 0, x, ())]⟩
    else ⟨casM m (32 + 2 * q) h (nextI h (idxI w) 0), [((10 : Int), (0 : Int), (q, v, h, t, w, x, e, y, ()), l, ())], r, []⟩)
  else if pc = 9 then ⟨storeM m (placeI k 0) 0, [((10 : Int), (10 : Int), (q, v, h, t, w, x, e, y, ()), l, ())], r, []⟩
  else if pc = 10 then ⟨storeM m (placeI k 1) 0, [], (x, e, r.2.2), []⟩
  else ⟨m, [((10 : Int), pc, (q, v, h, t, w, x, e, y, ()), l, ())], r, []⟩
def lQ (k : Int) (m : Me) (f : Frm) (r : Rest) : Loc :=
  if f.1 = 9 then lPut k m f.2.1 f.2.2.1.1 f.2.2.1.2.1 f.2.2.1.2.2.1 f.2.2.1.2.2.2.1 f.2.2.1.2.2.2.2.1 f.2.2.1.2.2.2.2.2 f.2.2.2.1 r
  else lTake k m f.2.1 f.2.2.1.1 f.2.2.1.2.1 f.2.2.1.2.2.1 f.2.2.1.2.2.2.1 f.2.2.1.2.2.2.2.1 f.2.2.1.2.2.2.2.2.1 f.2.2.1.2.2.2.2.2.2.1 f.2.2.1.2.2.2.2.2.2.2.1 f.2.2.2.1 r
section
variable {s : Sy} {k : Int} {m : Me} {F : List Frm} {r : Rest} {f f' : Frm} {m' : Me} {l : Li}
theorem into_callS {op a b d : Int} (h0 : 0 ≤ k) (h1 : k < s.2.1.length) (hl : F.length ≤ 38) : callS (setS (m', (stS s k m (F ++ [f], r)).2) k f') k op a b d = (Loc.mk m' [f', frm0 op a b d] r []).into s k F := by
  rw [into_nil]
  have e1 : setS (m', (stS s k m (F ++ [f], r)).2) k f' = stS s k m' (F ++ [f'], r) := setS_st (m := m') h0 h1
  rw [e1, callS_st h0 h1 (by rw [List.length_append]; show F.length + 1 < 40; omega), List.append_assoc]
  rfl
theorem logS_at {kind a b v : Int} {c : Cor} (h0 : 0 ≤ k) (h1 : k < s.2.1.length) : logS (stS s k m c) k kind a b v = stS (s.1, s.2.1, List.append (α := Evt) s.2.2.1 [(k, kind, a, b, v, ())], ()) k m c := by
  have hc : isCoreB (stS s k m c) k = true := by
    unfold isCoreB
    rw [stS_len, decide_eq_true h0, decide_eq_true h1]; rfl
  exact if_pos hc
theorem into_log {kind a b v : Int} (h0 : 0 ≤ k) (h1 : k < s.2.1.length) : logS (setS (m', (stS s k m (F ++ [f], r)).2) k f') k kind a b v = (Loc.mk m' [f'] r [(k, kind, a, b, v, ())]).into s k F := by
  have e1 : setS (m', (stS s k m (F ++ [f], r)).2) k f' = stS s k m' (F ++ [f'], r) := setS_st (m := m') h0 h1
  rw [e1, logS_at h0 h1]
  rfl
theorem into_logcall {kind a b v op x : Int} (h0 : 0 ≤ k) (h1 : k < s.2.1.length) (hl : F.length ≤ 38) : callS (setS (logS (m', (stS s k m (F ++ [f], r)).2) k kind a b v) k f') k op x 0 0 = (Loc.mk m' [f', frm0 op x 0 0] r [(k, kind, a, b, v, ())]).into s k F := by
  have e0 : (m', (stS s k m (F ++ [f], r)).2) = stS s k m' (F ++ [f], r) := rfl
  rw [e0, logS_at h0 h1]
  have := into_callS (s := (s.1, s.2.1, List.append (α := Evt) s.2.2.1 [(k, kind, a, b, v, ())], ())) (m := m') (m' := m') (f := f) (f' := f') (r := r) (op := op) (a := x) (b := 0) (d := 0) h0 h1 hl
  exact this.trans (by rw [into_nil]; rfl)
theorem coV_at {c : Cor} (h0 : 0 ≤ k) (h1 : k < s.2.1.length) : coV (stS s k m c) k = c.2.1 ∧ coE (stS s k m c) k = c.2.2.1 := by
  unfold coV coE
  rw [stS_core h0 h1]
  exact ⟨rfl, rfl⟩
theorem put_loc {pc q v n t w : Int} {r3 : R3'} (h0 : 0 ≤ k) (h1 : k < s.2.1.length) (hl : F.length ≤ 38) : putS (stS s k m (F ++ [((9 : Int), pc, (q, v, n, t, w, r3), l, ())], r)) k pc q v n t w r3 l = (lPut k m pc q v n t w r3 l r).into s k F := by
  unfold putS lPut
  obtain ⟨eV, eE⟩ := coV_at (s := s) (m := m) (c := (F ++ [((9 : Int), pc, (q, v, n, t, w, r3), l, ())], r)) h0 h1
  by_cases c0 : pc = 0
  · rw [if_pos c0, if_pos c0]; exact into_callS (m := m) h0 h1 hl
  rw [if_neg c0, if_neg c0]
  by_cases c1 : pc = 1
  · rw [if_pos c1, if_pos c1, eV, eE]
    by_cases c2 : r.2.1 ≠ 0
    · rw [if_pos c2, if_pos c2]; exact into_pop (m := m) h0 h1
    · rw [if_neg c2, if_neg c2]; exact into_set (m := m) h0 h1
  rw [if_neg c1, if_neg c1]
  by_cases c2 : pc = 2
  · rw [if_pos c2, if_pos c2]; exact into_set h0 h1
  rw [if_neg c2, if_neg c2]
  by_cases c3 : pc = 3
  · rw [if_pos c3, if_pos c3]; exact into_set h0 h1
  rw [if_neg c3, if_neg c3]
  by_cases c4 : pc = 4
  · rw [if_pos c4, if_pos c4]; exact into_set h0 h1
  rw [if_neg c4, if_neg c4]
  by_cases c5 : pc = 5
  · rw [if_pos c5, if_pos c5]; exact into_callS (m := m) h0 h1 hl
  rw [if_neg c5, if_neg c5]
  by_cases c6 : pc = 6
  · rw [if_pos c6, if_pos c6, eV]; exact into_set (m := m) h0 h1
  rw [if_neg c6, if_neg c6]
  by_cases c7 : pc = 7
  · rw [if_pos c7, if_pos c7]; exact into_set h0 h1
  rw [if_neg c7, if_neg c7]
  by_cases c8 : pc = 8
  · rw [if_pos c8, if_pos c8]; exact into_set h0 h1
  rw [if_neg c8, if_neg c8]
  by_cases c9 : pc = 9
  · rw [if_pos c9, if_pos c9]
    show (if casB m (atI (idxI t) 1) w = true then _ else _) = _
    by_cases c : casB m (atI (idxI t) 1) w = true
    · rw [if_pos c, if_pos c]; exact into_log h0 h1
    · rw [if_neg c, if_neg c]; exact into_set h0 h1
  rw [if_neg c9, if_neg c9]
  by_cases c10 : pc = 10
  · rw [if_pos c10, if_pos c10]; exact into_set h0 h1
  rw [if_neg c10, if_neg c10]
  by_cases c11 : pc = 11
  · rw [if_pos c11, if_pos c11]; exact into_pop h0 h1
  rw [if_neg c11, if_neg c11]
  exact into_same
theorem take_loc {pc q v h t w x e y : Int} (h0 : 0 ≤ k) (h1 : k < s.2.1.length) (hl : F.length ≤ 38) : takeS (stS s k m (F ++ [((10 : Int), pc, (q, v, h, t, w, x, e, y, ()), l, ())], r)) k pc q v h t w x e y l = (lTake k m pc q v h t w x e y l r).into s k F := by
  unfold takeS lTake
  obtain ⟨eV, eE⟩ := coV_at (s := s) (m := m) (c := (F ++ [((10 : Int), pc, (q, v, h, t, w, x, e, y, ()), l, ())], r)) h0 h1
  by_cases c0 : pc = 0
  · rw [if_pos c0, if_pos c0]; exact into_callS (m := m) h0 h1 hl
  rw [if_neg c0, if_neg c0]
  by_cases c1 : pc = 1
  · rw [if_pos c1, if_pos c1, eV]; exact into_set (m := m) h0 h1
  rw [if_neg c1, if_neg c1]
  by_cases c2 : pc = 2
  · rw [if_pos c2, if_pos c2]; exact into_set h0 h1
  rw [if_neg c2, if_neg c2]
  by_cases c3 : pc = 3
  · rw [if_pos c3, if_pos c3]
    show (if idxI (loadI m (atI (idxI h) 1)) = 0 then _ else _) = _
    by_cases c : idxI (loadI m (atI (idxI h) 1)) = 0
    · rw [if_pos c, if_pos c]; exact into_log h0 h1
    · rw [if_neg c, if_neg c]
      by_cases d : idxI h = idxI t
      · rw [if_pos d, if_pos d]; exact into_set h0 h1
      · rw [if_neg d, if_neg d]; exact into_set h0 h1
  rw [if_neg c3, if_neg c3]
  by_cases c4 : pc = 4
  · rw [if_pos c4, if_pos c4]; exact into_set h0 h1
  rw [if_neg c4, if_neg c4]
  by_cases c5 : pc = 5
  · rw [if_pos c5, if_pos c5]; exact into_set h0 h1
  rw [if_neg c5, if_neg c5]
  by_cases c6 : pc = 6
  · rw [if_pos c6, if_pos c6]
    show (if loadI m (32 + 2 * q) ≠ h then _ else _) = _
    by_cases c : loadI m (32 + 2 * q) ≠ h
    · rw [if_pos c, if_pos c]; exact into_set h0 h1
    · rw [if_neg c, if_neg c]; exact into_set h0 h1
  rw [if_neg c6, if_neg c6]
  by_cases c7 : pc = 7
  · rw [if_pos c7, if_pos c7]; exact into_set h0 h1
  rw [if_neg c7, if_neg c7]
  by_cases c8 : pc = 8
  · rw [if_pos c8, if_pos c8]
    show (if casB m (32 + 2 * q) h = true then _ else _) = _
    by_cases c : casB m (32 + 2 * q) h = true
    · rw [if_pos c, if_pos c]; exact into_logcall h0 h1 hl
    · rw [if_neg c, if_neg c]; exact into_set h0 h1
  rw [if_neg c8, if_neg c8]
  by_cases c9 : pc = 9
  · rw [if_pos c9, if_pos c9]; exact into_set h0 h1
  rw [if_neg c9, if_neg c9]
  by_cases c10 : pc = 10
  · rw [if_pos c10, if_pos c10]; exact into_pop h0 h1
  rw [if_neg c10, if_neg c10]
  exact into_same
/-- A step of a core whose last frame is of a queue. -/
theorem msq_loc (h0 : 0 ≤ k) (h1 : k < s.2.1.length) (hl : F.length ≤ 38) (hc : cAt s.2.1 k = (F ++ [f], r)) (hop : f.1 = 9 ∨ f.1 = 10) (hq : 0 ≤ f.2.2.1.1 ∧ f.2.2.1.1 ≤ 7) : msqS s k = (lQ k s.1 f r).into s k F := by
  have hs := stS_self (s := s) h0 h1
  rw [hc] at hs
  have ht : topI s k = some f := by rw [← hs]; exact topI_st h0 h1
  rw [msqS_some ht]
  obtain ⟨m, s2⟩ := s
  have hs2 : stS (m, s2) k m (F ++ [f], r) = (m, s2) := hs
  obtain ⟨op, pc, ⟨q, v, n, t, w, x, e, y, u1⟩, l, u⟩ := f
  obtain rfl : u = () := rfl
  obtain rfl : u1 = () := rfl
  have hq : 0 ≤ q ∧ q ≤ 7 := hq
  have hnq : ¬ (q < 0 ∨ 7 < q) := fun h => h.elim (Int.not_lt.2 hq.1) (Int.not_lt.2 hq.2)
  rcases hop with h9 | h10
  · have h9 : op = 9 := h9
    subst h9
    have e1 : msqF (m, s2) k 9 pc (q, v, n, t, w, x, e, y, ()) l = putS (m, s2) k pc q v n t w (x, e, y, ()) l := (if_pos (.inl rfl)).trans ((if_neg hnq).trans (if_pos rfl))
    have e2 := put_loc (s := (m, s2)) (m := m) (F := F) (r := r) (l := l) (pc := pc) (q := q) (v := v) (n := n) (t := t) (w := w) (r3 := (x, e, y, ())) h0 h1 hl
    rw [hs2] at e2
    exact e1.trans (e2.trans rfl)
  · have h10 : op = 10 := h10
    subst h10
    have e1 : msqF (m, s2) k 10 pc (q, v, n, t, w, x, e, y, ()) l = takeS (m, s2) k pc q v n t w x e y l := (if_pos (.inr rfl)).trans ((if_neg hnq).trans (if_neg (by decide)))
    have e2 := take_loc (s := (m, s2)) (m := m) (F := F) (r := r) (l := l) (pc := pc) (q := q) (v := v) (h := n) (t := t) (w := w) (x := x) (e := e) (y := y) h0 h1 hl
    rw [hs2] at e2
    exact e1.trans (e2.trans rfl)
end
section
variable {T : Int} {o o' : OM} {s : Sy} {k : Nat} {F : List Frm} {f : Frm} {r : Rest} {L : Loc}
/-- A step of an op above the memory's management: all is as it should be behind it. -/
theorem MM.client (h : MM T o s) (hk : k < s.2.1.length) (hc : cAt s.2.1 k = (F ++ [f], r)) (h8 : ¬ f.1 ≤ 8) (hchg : Chg k s.1 o L.m o') (hl : ∃ l, FL L.m l) (ht : tagI (nI L.m.1 0) ≤ T) (hst : ∀ p, InN s.1 p → statO (o' p) (nI L.m.2.1 p)) (hR : rtL L.r = rtL r)
    (hret : ∀ p, InN s.1 p → (o' p = .ret k ↔ o p = .ret k)) (hpush : ∀ p x, InN s.1 p → o' p ≠ .push k x)
    (hfs : L.fs = [] ∨ (∃ f', L.fs = [f'] ∧ f'.1 = f.1) ∨ ∃ f' g, L.fs = [f', g] ∧ f'.1 = f.1 ∧ F.length + 2 + room g.1 ≤ 39 ∧ TopI L.m o' s.2.1.length k L.r g) : MM T o' (L.into s k F) := by
  have hcore := h.core k hk
  rw [hc] at hcore
  have hst0 := hcore.st
  rw [rev_one] at hst0
  have n8 : ∀ n : Int, n ≤ 8 → f.1 = n → False := fun n hn e => h8 (by rw [e]; exact hn)
  have hns := Wt.noSc (fun e => n8 2 (by decide) e) hst0.2.2
  have top9 : ∀ g : Frm, g.1 = f.1 → TopI L.m o' s.2.1.length k L.r g := fun g e => by
    constructor <;> intro e2 <;> exact (n8 _ (by decide) (e.symm.trans e2)).elim
  have wait9 : ∀ (g : Frm) (op : Int), g.1 = f.1 → WaitI s.2.1.length (rtL r) g op := fun g op e => by
    constructor <;> intro e2
    · rcases e2 with e2 | e2 | e2 | e2 <;> exact (n8 _ (by decide) (e.symm.trans e2)).elim
    all_goals exact (n8 _ (by decide) (e.symm.trans e2)).elim
  refine h.into hk hchg hl ht hst ⟨?_, by show (rtL L.r).Nodup; rw [hR]; exact hcore.nodup, fun p => ?_, ?_, fun p x hp hx => absurd hx (hpush p x (hchg.inN.1 hp))⟩
  · show Stk L.m o' s.2.1.length k L.r (F ++ L.fs).reverse
    rcases hfs with e | ⟨f', e, e1⟩ | ⟨f', g, e, e1, e2, e3⟩
    · rw [e, List.append_nil]
      exact Stk.back (by rw [hR]; exact hst0.2.2) fun e => (n8 1 (by decide) e).elim
    · rw [e, rev_one]
      exact hst0.set (top9 f' e1) e1 hR
    · rw [e, rev_two]
      refine ⟨e3, by rw [List.length_cons, List.length_reverse]; omega, ?_⟩
      rw [hR]
      exact ⟨wait9 f' g.1 e1, by rw [e1]; exact hst0.2.1, by rw [e1]; exact hst0.2.2⟩
  · show p ∈ rtL L.r ↔ _
    rw [hR, hcore.ret p, hchg.inN]
    exact ⟨fun ⟨a, b⟩ => ⟨a, (hret p a).2 b⟩, fun ⟨a, b⟩ => ⟨a, (hret p a).1 b⟩⟩
  · show (rtL L.r).length ≤ _ ∨ _
    rw [hR]
    rcases hcore.few with e | ⟨_, g, hg, e6⟩
    · exact .inl e
    · exfalso
      rcases List.mem_append.1 hg with hg | hg
      · exact hns g (List.mem_reverse.2 hg) e6
      · rw [List.mem_singleton.1 hg] at e6
        exact n8 6 (by decide) e6
end
end Go.Proofs.YtpobngddiifdpaaGreat.V
