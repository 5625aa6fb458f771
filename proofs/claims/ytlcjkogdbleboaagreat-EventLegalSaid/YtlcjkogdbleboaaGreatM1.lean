/- A step of a core changes the memory and what is its own: the ops of the memory's management, as such changes. -/
import Derived.Test.YtlcjkogdbleboaaGreatV30
set_option linter.unusedSimpArgs false
set_option linter.unusedVariables false
namespace Go.Proofs.YtlcjkogdbleboaaGreat.V
open Go Go.RowKit Go.Proofs.YtlcjkogdbleboaaGreat.Hz
set_option maxRecDepth 100000

theorem nope {P : Prop} {a b : Int} (e : a = b) (h : decide (a = b) = false) : P := absurd e (of_decide_eq_false h)
/-- What a step of a core does: the memory, frames in the place of its last one, the rest of the core, lines of the log. -/
structure Loc where
  m : Me
  fs : List Frm
  r : Rest
  ev : List Evt
/-- The system behind it. -/
def Loc.into (L : Loc) (s : Sy) (k : Int) (F : List Frm) : Sy := (L.m, List.set (α := Cor) s.2.1 k.toNat (F ++ L.fs, L.r), List.append (α := Evt) s.2.2.1 L.ev, ())
theorem into_nil {m : Me} {fs : List Frm} {r : Rest} {s : Sy} {k : Int} {F : List Frm} : (Loc.mk m fs r []).into s k F = stS s k m (F ++ fs, r) := by
  unfold Loc.into stS
  show (m, _, s.2.2.1 ++ [], ()) = _
  rw [List.append_nil]
def lPop (k : Int) (m : Me) (pc : Int) (g : R8) (l : Li) (r : Rest) : Loc :=
  if pc = 0 then (if idxI (loadI m 0) = 0 then ⟨loadM m 0, [], (0, 2, r.2.2), [(k, 9, 0, 0, 0, ())]⟩ else ⟨loadM m 0, [((1 : Int), (1 : Int), (loadI m 0, g.2), l, ())], r, []⟩)
  else if pc = 1 then ⟨loadM m (atI (idxI g.1) 0), [((1 : Int), (2 : Int), (g.1, loadI m (atI (idxI g.1) 0), g.2.2), l, ())], r, []⟩
  else if pc = 2 then (if casB m 0 g.1 = true then ⟨turnM (casM m 0 g.1 (popN g)) (idxI g.1) 1, [], (idxI g.1, 0, r.2.2), []⟩ else ⟨casM m 0 g.1 (popN g), [((1 : Int), (0 : Int), g, l, ())], r, []⟩)
  else ⟨m, [((1 : Int), pc, g, l, ())], r, []⟩
def lPush (m : Me) (pc : Int) (g : R8) (l : Li) (r : Rest) : Loc :=
  if pc = 0 then ⟨loadM m 0, [((2 : Int), (1 : Int), (g.1, loadI m 0, g.2.2), l, ())], r, []⟩
  else if pc = 1 then ⟨storeM m (atI g.1 0) (idxI g.2.1), [((2 : Int), (2 : Int), g, l, ())], r, []⟩
  else if pc = 2 then (if casB m 0 g.2.1 = true then ⟨turnM (casM m 0 g.2.1 (pushN g)) g.1 0, [], (g.1, 0, r.2.2), []⟩ else ⟨casM m 0 g.2.1 (pushN g), [((2 : Int), (0 : Int), g, l, ())], r, []⟩)
  else ⟨m, [((2 : Int), pc, g, l, ())], r, []⟩
def lProt (k : Int) (m : Me) (pc : Int) (g : R8) (l : Li) (r : Rest) : Loc :=
  if pc = 0 then (if idxI (loadI m g.1) = 0 then ⟨loadM m g.1, [], (loadI m g.1, 0, r.2.2), []⟩ else ⟨loadM m g.1, [((3 : Int), (1 : Int), r2S g (loadI m g.1), l, ())], r, []⟩)
  else if pc = 1 then ⟨storeM m (placeI k g.2.1) (idxI g.2.2.1), [((3 : Int), (2 : Int), g, l, ())], r, []⟩
  else if pc = 2 then (if loadI m g.1 = c8 g ∨ idxI (loadI m g.1) = 0 then ⟨loadM m g.1, [], (loadI m g.1, 0, r.2.2), []⟩ else ⟨loadM m g.1, [((3 : Int), (1 : Int), r23S g (loadI m g.1), l, ())], r, []⟩)
  else ⟨m, [((3 : Int), pc, g, l, ())], r, []⟩
def lClear (k : Int) (m : Me) (pc : Int) (g : R8) (l : Li) (r : Rest) : Loc :=
  if 0 ≤ pc ∧ pc < 3 then (if pc = 2 then ⟨storeM m (placeI k pc) 0, [], (0, 0, r.2.2), []⟩ else ⟨storeM m (placeI k pc) 0, [((4 : Int), pc + 1, g, l, ())], r, []⟩) else ⟨m, [((4 : Int), pc, g, l, ())], r, []⟩
/-- Retired nodes. -/
abbrev rtL (r : Rest) : Li := r.2.2.2.1
def snocR (r : Rest) (l : Li) : Rest := (r.1, r.2.1, r.2.2.1, l, ())
def lRetire (C : Nat) (m : Me) (pc : Int) (g : R8) (l : Li) (r : Rest) : Loc :=
  if pc = 1 then ⟨m, [], (g.1, 0, r.2.2), []⟩
  else if pc = 0 then (if 200 ≤ (rtL r).length then ⟨m, [], (0, 2, r.2.2), []⟩
    else if ((rtL r).length : Int) + 1 < 3 * C + 1 then ⟨turnM m g.1 2, [], (g.1, 0, r.2.2.1, snoc (rtL r) g.1, ()), []⟩
    else ⟨turnM m g.1 2, [((5 : Int), (1 : Int), g, l, ()), frm0 6 0 0 0], snocR r (snoc (rtL r) g.1), []⟩)
  else ⟨m, [((5 : Int), pc, g, l, ())], r, []⟩
def lScan (C : Nat) (m : Me) (pc : Int) (g : R8) (l : Li) (r : Rest) : Loc :=
  if pc = 0 then ⟨loadM m (wrap64 (8 + g.1)), [((6 : Int), (if wrap64 (3 * C) ≤ wrap64 (g.1 + 1) then 1 else 0 : Int), (wrap64 (g.1 + 1), g.2), (if loadI m (wrap64 (8 + g.1)) ≠ 0 ∧ l.length < 24 then snoc l (loadI m (wrap64 (8 + g.1))) else l), ())], r, []⟩
  else if pc = 1 then (if g.2.1 < 0 ∨ ((rtL r).length : Int) ≤ nextOut l (rtL r) g.2.1.toNat then ⟨m, [], (((rtL r).length : Int), 0, r.2.2), []⟩
    else ⟨m, [((6 : Int), (1 : Int), (g.1, ((nextOut l (rtL r) g.2.1.toNat : Nat) : Int), g.2.2), l, ()), frm0 2 (nI (rtL r) (nextOut l (rtL r) g.2.1.toNat)) 0 0], snocR r ((rtL r).take (nextOut l (rtL r) g.2.1.toNat) ++ (rtL r).drop (nextOut l (rtL r) g.2.1.toNat + 1)), []⟩)
  else ⟨m, [((6 : Int), pc, g, l, ())], r, []⟩
def lAlloc (m : Me) (pc : Int) (g : R8) (l : Li) (r : Rest) : Loc :=
  if pc = 0 ∨ pc = 2 then ⟨m, [((7 : Int), pc + 1, g, l, ()), frm0 1 0 0 0], r, []⟩
  else if pc = 1 then (if r.2.1 = 0 then ⟨m, [], (r.1, 0, r.2.2), []⟩ else if (rtL r).length = 0 then ⟨m, [], (0, 2, r.2.2), []⟩ else ⟨m, [((7 : Int), (2 : Int), g, l, ()), frm0 6 0 0 0], r, []⟩)
  else if pc = 3 then ⟨m, [], (r.1, r.2.1, r.2.2), []⟩
  else ⟨m, [((7 : Int), pc, g, l, ())], r, []⟩
def lDrop (m : Me) (pc : Int) (g : R8) (l : Li) (r : Rest) : Loc :=
  if pc = 0 then ⟨m, [((8 : Int), (1 : Int), g, l, ()), frm0 2 g.1 0 0], r, []⟩
  else if pc = 1 then ⟨m, [], (g.1, 0, r.2.2), []⟩
  else ⟨m, [((8 : Int), pc, g, l, ())], r, []⟩
/-- A step of a frame of these ops. -/
def lMM (C : Nat) (k : Int) (m : Me) (f : Frm) (r : Rest) : Loc :=
  if f.1 = 1 then lPop k m f.2.1 f.2.2.1 f.2.2.2.1 r else if f.1 = 2 then lPush m f.2.1 f.2.2.1 f.2.2.2.1 r
  else if f.1 = 3 then lProt k m f.2.1 f.2.2.1 f.2.2.2.1 r else if f.1 = 4 then lClear k m f.2.1 f.2.2.1 f.2.2.2.1 r
  else if f.1 = 5 then lRetire C m f.2.1 f.2.2.1 f.2.2.2.1 r else if f.1 = 6 then lScan C m f.2.1 f.2.2.1 f.2.2.2.1 r
  else if f.1 = 7 then lAlloc m f.2.1 f.2.2.1 f.2.2.2.1 r else lDrop m f.2.1 f.2.2.1 f.2.2.2.1 r

section
variable {s : Sy} {k : Int} {m : Me} {F : List Frm} {r : Rest} {g : R8} {l : Li} {pc : Int}
theorem into_pop {v e : Int} {f : Frm} (h0 : 0 ≤ k) (h1 : k < s.2.1.length) {m' : Me} : backS (m', (stS s k m (F ++ [f], r)).2) k v e = (Loc.mk m' [] (v, e, r.2.2) []).into s k F := by
  rw [into_nil, List.append_nil]
  exact backS_st (m := m') h0 h1
theorem into_set {f f' : Frm} (h0 : 0 ≤ k) (h1 : k < s.2.1.length) {m' : Me} : setS (m', (stS s k m (F ++ [f], r)).2) k f' = (Loc.mk m' [f'] r []).into s k F := by
  rw [into_nil]
  exact setS_st (m := m') h0 h1
theorem into_same {f : Frm} : stS s k m (F ++ [f], r) = (Loc.mk m [f] r []).into s k F := into_nil.symm
theorem into_call {f f' : Frm} {op a : Int} (h0 : 0 ≤ k) (h1 : k < s.2.1.length) (hl : F.length ≤ 38) {m' : Me} : callP (setS (m', (stS s k m (F ++ [f], r)).2) k f') k op a = (Loc.mk m' [f', frm0 op a 0 0] r []).into s k F := by
  rw [into_nil]
  have e1 : setS (m', (stS s k m (F ++ [f], r)).2) k f' = stS s k m' (F ++ [f'], r) := setS_st (m := m') h0 h1
  rw [e1, callP_st h0 h1 (by rw [List.length_append]; show F.length + 1 < 40; omega), List.append_assoc]
  rfl
theorem al_pop (h0 : 0 ≤ k) (h1 : k < s.2.1.length) : popS (stS s k m (F ++ [((1 : Int), pc, g, l, ())], r)) k 1 pc g l = (lPop k m pc g l r).into s k F := by
  unfold popS lPop
  by_cases c0 : pc = 0
  · rw [if_pos c0, if_pos c0]
    unfold pop0
    show (if idxI (loadI m 0) = 0 then _ else _) = _
    by_cases ci : idxI (loadI m 0) = 0
    · rw [if_pos ci, if_pos ci]
      have hc : isCoreB (loadM m 0, (stS s k m (F ++ [((1 : Int), pc, g, l, ())], r)).2) k = true := by
        unfold isCoreB
        show (decide (0 ≤ k) && decide (k < ((stS s k m (F ++ [((1 : Int), pc, g, l, ())], r)).2.1.length : Int))) = true
        rw [stS_len, decide_eq_true h0, decide_eq_true h1]; rfl
      have e1 : logS (loadM m 0, (stS s k m (F ++ [((1 : Int), pc, g, l, ())], r)).2) k 9 0 0 0 = stS (s.1, s.2.1, List.append (α := Evt) s.2.2.1 [(k, 9, 0, 0, 0, ())], ()) k (loadM m 0) (F ++ [((1 : Int), pc, g, l, ())], r) := if_pos hc
      show backS (logS (loadM m 0, (stS s k m (F ++ [((1 : Int), pc, g, l, ())], r)).2) k 9 0 0 0) k 0 2 = _
      rw [e1, backS_st (s := (s.1, s.2.1, List.append (α := Evt) s.2.2.1 [(k, 9, 0, 0, 0, ())], ())) h0 h1]
      unfold Loc.into stS
      rw [List.append_nil]
    · rw [if_neg ci, if_neg ci]
      exact into_set h0 h1
  rw [if_neg c0, if_neg c0]
  by_cases c1 : pc = 1
  · rw [if_pos c1, if_pos c1]
    exact into_set h0 h1
  rw [if_neg c1, if_neg c1]
  by_cases c2 : pc = 2
  · rw [if_pos c2, if_pos c2]
    unfold pop2
    show (bif casB m 0 g.1 then _ else _) = _
    cases hc : casB m 0 g.1 with
    | true => rw [if_pos rfl]; exact into_pop (m := m) h0 h1
    | false => rw [if_neg (by decide)]; exact into_set h0 h1
  · rw [if_neg c2, if_neg c2]
    exact into_same
theorem al_push (h0 : 0 ≤ k) (h1 : k < s.2.1.length) : pushSt (stS s k m (F ++ [((2 : Int), pc, g, l, ())], r)) k 2 pc g l = (lPush m pc g l r).into s k F := by
  unfold pushSt lPush
  by_cases c0 : pc = 0
  · rw [if_pos c0, if_pos c0]
    exact into_set h0 h1
  rw [if_neg c0, if_neg c0]
  by_cases c1 : pc = 1
  · rw [if_pos c1, if_pos c1]
    exact into_set h0 h1
  rw [if_neg c1, if_neg c1]
  by_cases c2 : pc = 2
  · rw [if_pos c2, if_pos c2]
    unfold push2
    show (bif casB m 0 g.2.1 then _ else _) = _
    cases hc : casB m 0 g.2.1 with
    | true => rw [if_pos rfl]; exact into_pop (m := m) h0 h1
    | false => rw [if_neg (by decide)]; exact into_set h0 h1
  · rw [if_neg c2, if_neg c2]
    exact into_same
theorem al_prot (h0 : 0 ≤ k) (h1 : k < s.2.1.length) : protS (stS s k m (F ++ [((3 : Int), pc, g, l, ())], r)) k 3 pc g l = (lProt k m pc g l r).into s k F := by
  unfold protS lProt
  by_cases c0 : pc = 0
  · rw [if_pos c0, if_pos c0]
    unfold prot0
    show (if idxI (loadI m g.1) = 0 then _ else _) = _
    by_cases ci : idxI (loadI m g.1) = 0
    · rw [if_pos ci, if_pos ci]; exact into_pop (m := m) h0 h1
    · rw [if_neg ci, if_neg ci]; exact into_set h0 h1
  rw [if_neg c0, if_neg c0]
  by_cases c1 : pc = 1
  · rw [if_pos c1, if_pos c1]
    exact into_set h0 h1
  rw [if_neg c1, if_neg c1]
  by_cases c2 : pc = 2
  · rw [if_pos c2, if_pos c2]
    unfold prot2
    show (if loadI m g.1 = c8 g ∨ idxI (loadI m g.1) = 0 then _ else _) = _
    by_cases ci : loadI m g.1 = c8 g ∨ idxI (loadI m g.1) = 0
    · rw [if_pos ci, if_pos ci]; exact into_pop (m := m) h0 h1
    · rw [if_neg ci, if_neg ci]; exact into_set h0 h1
  · rw [if_neg c2, if_neg c2]
    exact into_same
theorem al_clear (h0 : 0 ≤ k) (h1 : k < s.2.1.length) : clearS (stS s k m (F ++ [((4 : Int), pc, g, l, ())], r)) k pc g l = (lClear k m pc g l r).into s k F := by
  unfold clearS lClear
  by_cases c0 : 0 ≤ pc ∧ pc < 3
  · rw [if_pos c0, if_pos c0]
    by_cases c2 : pc = 2
    · rw [if_pos c2, if_pos c2]; exact into_pop (m := m) h0 h1
    · rw [if_neg c2, if_neg c2]; exact into_set h0 h1
  · rw [if_neg c0, if_neg c0]
    exact into_same
theorem retL_st' (h0 : 0 ≤ k) (h1 : k < s.2.1.length) {f : Frm} : retL (stS s k m (F ++ [f], r)) k = rtL r := by
  unfold retL
  rw [stS_core h0 h1]
theorem al_retire (h0 : 0 ≤ k) (h1 : k < s.2.1.length) (hl : F.length ≤ 38) : retireS (stS s k m (F ++ [((5 : Int), pc, g, l, ())], r)) k 5 pc g l = (lRetire s.2.1.length m pc g l r).into s k F := by
  unfold retireS lRetire
  by_cases c1 : pc = 1
  · rw [if_pos c1, if_pos c1]
    exact into_pop (m := m) h0 h1
  rw [if_neg c1, if_neg c1]
  by_cases c0 : pc = 0
  · rw [if_pos c0, if_pos c0]
    unfold retire0
    have hk : retM (stS s k m (F ++ [((5 : Int), pc, g, l, ())], r)) k g.1 = stS s k (turnM m g.1 2) (F ++ [((5 : Int), pc, g, l, ())], snocR r (snoc (rtL r) g.1)) := by
      unfold retM
      rw [keptS_st h0 h1, retL_st' h0 h1]
      rfl
    rw [hk, retL_st' h0 h1, stS_len]
    by_cases c2 : 200 ≤ (rtL r).length
    · rw [if_pos c2, if_pos c2]
      exact into_pop (m := m) h0 h1
    rw [if_neg c2, if_neg c2]
    by_cases c3 : ((rtL r).length : Int) + 1 < 3 * s.2.1.length + 1
    · rw [if_pos c3, if_pos c3]
      exact into_pop (m := turnM m g.1 2) h0 h1
    · rw [if_neg c3, if_neg c3]
      exact into_call (m := turnM m g.1 2) h0 h1 hl
  · rw [if_neg c0, if_neg c0]
    exact into_same
theorem al_scan (h0 : 0 ≤ k) (h1 : k < s.2.1.length) (hl : F.length ≤ 38) : lookS (stS s k m (F ++ [((6 : Int), pc, g, l, ())], r)) k 6 pc g l = (lScan s.2.1.length m pc g l r).into s k F := by
  unfold lookS lScan
  by_cases c0 : pc = 0
  · rw [if_pos c0, if_pos c0]
    unfold look0 lookF lookC lookL lookP
    rw [stS_len]
    exact into_set h0 h1
  rw [if_neg c0, if_neg c0]
  by_cases c1 : pc = 1
  · rw [if_pos c1, if_pos c1]
    unfold look1 look1a
    rw [retL_st' h0 h1, keptS_st h0 h1]
    by_cases c2 : g.2.1 < 0 ∨ ((rtL r).length : Int) ≤ nextOut l (rtL r) g.2.1.toNat
    · rw [if_pos c2, if_pos c2]
      exact into_pop (m := m) h0 h1
    · rw [if_neg c2, if_neg c2]
      exact into_call (m := m) h0 h1 hl
  · rw [if_neg c1, if_neg c1]
    exact into_same
theorem al_alloc (h0 : 0 ≤ k) (h1 : k < s.2.1.length) (hl : F.length ≤ 38) : allocS (stS s k m (F ++ [((7 : Int), pc, g, l, ())], r)) k 7 pc g l = (lAlloc m pc g l r).into s k F := by
  unfold allocS lAlloc thenS
  by_cases c0 : pc = 0 ∨ pc = 2
  · rw [if_pos c0, if_pos c0, show wrap64 (pc + 1) = pc + 1 from IntWalk.wrap64_in _ (by omega)]
    exact into_call (m := m) h0 h1 hl
  rw [if_neg c0, if_neg c0]
  by_cases c1 : pc = 1
  · rw [if_pos c1, if_pos c1]
    unfold cE cV
    rw [retL_st' h0 h1, stS_core h0 h1]
    by_cases c2 : r.2.1 = 0
    · rw [if_pos c2, if_pos c2]
      exact into_pop (m := m) h0 h1
    rw [if_neg c2, if_neg c2]
    by_cases c3 : (rtL r).length = 0
    · rw [if_pos c3, if_pos c3]
      exact into_pop (m := m) h0 h1
    · rw [if_neg c3, if_neg c3, show wrap64 (pc + 1) = 2 by rw [c1]; exact IntWalk.wrap64_in _ (by omega)]
      exact into_call (m := m) h0 h1 hl
  rw [if_neg c1, if_neg c1]
  by_cases c3 : pc = 3
  · rw [if_pos c3, if_pos c3]
    unfold cE cV
    rw [stS_core h0 h1]
    exact into_pop (m := m) h0 h1
  · rw [if_neg c3, if_neg c3]
    exact into_same
theorem al_drop (h0 : 0 ≤ k) (h1 : k < s.2.1.length) (hl : F.length ≤ 38) : dropS (stS s k m (F ++ [((8 : Int), pc, g, l, ())], r)) k pc g l = (lDrop m pc g l r).into s k F := by
  unfold dropS lDrop thenS
  by_cases c0 : pc = 0
  · rw [if_pos c0, if_pos c0, show wrap64 (pc + 1) = 1 by rw [c0]; exact IntWalk.wrap64_in _ (by omega)]
    exact into_call (m := m) h0 h1 hl
  rw [if_neg c0, if_neg c0]
  by_cases c1 : pc = 1
  · rw [if_pos c1, if_pos c1]
    exact into_pop (m := m) h0 h1
  · rw [if_neg c1, if_neg c1]
    exact into_same
end
/-- A step of a core whose last frame is of these ops. -/
theorem al_loc {s : Sy} {k : Int} {F : List Frm} {f : Frm} {r : Rest} (h0 : 0 ≤ k) (h1 : k < s.2.1.length) (hl : F.length ≤ 38) (hc : cAt s.2.1 k = (F ++ [f], r)) (hop : 1 ≤ f.1 ∧ f.1 ≤ 8) : alS s k = (lMM s.2.1.length k s.1 f r).into s k F := by
  have hs := stS_self (s := s) h0 h1
  rw [hc] at hs
  obtain ⟨m, s2⟩ := s
  have hs2 : stS (m, s2) k m (F ++ [f], r) = (m, s2) := hs
  have key : alS (stS (m, s2) k m (F ++ [f], r)) k = (lMM s2.1.length k m f r).into (m, s2) k F := by
    rw [al_at h0 h1]
    obtain ⟨op, pc, g, l, u⟩ := f
    obtain rfl : u = () := rfl
    show allocF _ k op pc g l = _
    have hcase : ∀ x : Int, 1 ≤ x ∧ x ≤ 8 → x = 1 ∨ x = 2 ∨ x = 3 ∨ x = 4 ∨ x = 5 ∨ x = 6 ∨ x = 7 ∨ x = 8 := fun x hx => by omega
    rcases hcase op hop with e | e | e | e | e | e | e | e <;> subst e
    · exact al_pop (s := (m, s2)) h0 h1
    · exact al_push (s := (m, s2)) h0 h1
    · exact al_prot (s := (m, s2)) h0 h1
    · exact al_clear (s := (m, s2)) h0 h1
    · exact al_retire (s := (m, s2)) h0 h1 hl
    · exact al_scan (s := (m, s2)) h0 h1 hl
    · exact al_alloc (s := (m, s2)) h0 h1 hl
    · exact al_drop (s := (m, s2)) h0 h1 hl
  rw [hs2] at key
  exact key
/-! ### A word is set -/
def setW (m : Me) (q v : Int) : Me := (List.set (α := Int) m.1 q.toNat v, m.2)
def setG (m : Me) (p v : Int) : Me := (m.1, List.set (α := Int) m.2.1 p.toNat v, m.2.2)
theorem setW_at {m : Me} {q v j : Int} (hq : 0 ≤ q) (hj : 0 ≤ j) : nI (setW m q v).1 j = if q = j ∧ q < m.1.length then v else nI m.1 j := nI_set hq hj
theorem setW_ne {m : Me} {q v j : Int} (hq : 0 ≤ q) (hj : 0 ≤ j) (h : q ≠ j) : nI (setW m q v).1 j = nI m.1 j := by rw [setW_at hq hj, if_neg (fun e => h e.1)]
theorem setW_self {m : Me} {q v : Int} (hq : 0 ≤ q) (h : q < m.1.length) : nI (setW m q v).1 q = v := by rw [setW_at hq hq, if_pos ⟨rfl, h⟩]
theorem setW_fits {m : Me} {q v : Int} (h : Fits m) : Fits (setW m q v) := ⟨by show (List.set (α := Int) m.1 _ _).length = _; rw [List.length_set]; exact h.1, h.2⟩
theorem setG_at {m : Me} {p v j : Int} (hp : 0 ≤ p) (hj : 0 ≤ j) : nI (setG m p v).2.1 j = if p = j ∧ p < m.2.1.length then v else nI m.2.1 j := nI_set hp hj
theorem setG_ne {m : Me} {p v j : Int} (hp : 0 ≤ p) (hj : 0 ≤ j) (h : p ≠ j) : nI (setG m p v).2.1 j = nI m.2.1 j := by rw [setG_at hp hj, if_neg (fun e => h e.1)]
theorem setG_self {m : Me} {p v : Int} (hp : 0 ≤ p) (h : p < m.2.1.length) : nI (setG m p v).2.1 p = v := by rw [setG_at hp hp, if_pos ⟨rfl, h⟩]
theorem setG_glen {m : Me} {p v : Int} : (setG m p v).2.1.length = m.2.1.length := List.length_set
theorem setG_fits {m : Me} {p v : Int} (h : Fits m) : Fits (setG m p v) := by
  unfold Fits
  rw [setG_glen]
  exact h
theorem FL.setW {m : Me} {l : List Int} {q v : Int} (h : FL m l) (h0 : 0 < q) (hq : ∀ p ∈ l, q ≠ lk p) : FL (setW m q v) l := by
  refine ⟨setW_fits h.fits, ?_, h.nodup, h.mem, h.good⟩
  rw [setW_ne (by omega) (by omega) (by omega)]
  refine h.head.same fun p hp => ?_
  have := (h.mem p).1 hp
  have hlk := lk_is p
  exact setW_ne (by omega) (by omega) (hq p hp)
theorem setW_same {m : Me} {q v : Int} (h0 : 0 ≤ q) (h1 : q < m.1.length) (h : nI m.1 q = v) : setW m q v = m := by
  unfold setW
  have e : List.set (α := Int) m.1 q.toNat v = m.1 := by
    apply List.ext_getElem?
    intro j
    by_cases hj : q.toNat = j
    · subst hj
      have : q.toNat < m.1.length := by omega
      rw [List.getElem?_set_self this, List.getElem?_eq_getElem this]
      rw [← h]
      show some (List.getD m.1 q.toNat 0) = _
      rw [List.getD_eq_getElem?_getD, List.getElem?_eq_getElem this]; rfl
    · rw [List.getElem?_set_ne hj]
  rw [e]
end Go.Proofs.YtlcjkogdbleboaaGreat.V
