/- A step of a core changes the memory and what is its own: the ops of the memory's management, as such changes. The memory's management: who has which node; what is known of each core; what other cores' steps leave. The memory's management: frames, step by step. -/
import Derived.Test.YtpobngddiifdpaaGreatZdV30
set_option linter.unusedSimpArgs false
set_option linter.unusedVariables false
namespace Go.Proofs.YtpobngddiifdpaaGreat.V
open Go Go.RowKit Go.Proofs.YtpobngddiifdpaaGreat.Hz
set_option maxRecDepth 100000

theorem nope {P : Prop} {a b : Int} (e : a = b) (h : decide (a = b) = false) : P := absurd e (of_decide_eq_false h)
/-- What a step of a core does: the memory, frames in the place of its last one, the rest of the core, lines of the log. -/
structure Loc where
  m : Me
  fs : List Frm
  r : Rest
  ev : List Evt
/-- The system behind it. -/
def Loc.into (L : Loc) (s : Sy) (k : Int) (F : List Frm) : Sy := (L.m, List.set (α := Cor) s.2.1 k.toNat (F ++ L.fs, L.r), List.append (α := Evt) s.2.2.1 L.ev, ())
theorem into_nil {m : Me} {fs : List Frm} {r : Rest} {s : Sy} {k : Int} {F : List Frm} : (Loc.mk m fs r []).into s k F = stS s k m (F ++ fs, r) := by
  unfold Loc.into stS
  show (m, _, s.2.2.1 ++ [], ()) = _
  rw [List.append_nil]
def lPop (k : Int) (m : Me) (pc : Int) (g : R8) (l : Li) (r : Rest) : Loc :=
  if pc = 0 then (if idxI (loadI m 0) = 0 then ⟨loadM m 0, [], (0, 2, r.2.2), [(k, 9, 0, 0, 0, ())]⟩ else ⟨loadM m 0, [((1 : Int), (1 : Int), (loadI m 0, g.2), l, ())], r, []⟩)
  else if pc = 1 then ⟨loadM m (atI (idxI g.1) 0), [((1 : Int), (2 : Int), (g.1, loadI m (atI (idxI g.1) 0), g.2.2), l, ())], r, []⟩
  else if pc = 2 then (if casB m 0 g.1 = true then ⟨turnM (casM m 0 g.1 (popN g)) (idxI g.1) 1, [], (idxI g.1, 0, r.2.2), []⟩ else ⟨casM m 0 g.1 (popN g), [((1 : Int), (0 : Int), g, l, ())], r, []⟩)
  else ⟨m, [((1 : Int), pc, g, l, ())], r, []⟩
def lPush (m : Me) (pc : Int) (g : R8) (l : Li) (r : Rest) : Loc :=
  if pc = 0 then ⟨loadM m 0, [((2 : Int), (1 : Int), (g.1, loadI m 0, g.2.2), l, ())], r, []⟩
  else if pc = 1 then ⟨storeM m (atI g.1 0) (idxI g.2.1), [((2 : Int), (2 : Int), g, l, ())], r, []⟩
  else if pc = 2 then (if casB m 0 g.2.1 = true then ⟨turnM (casM m 0 g.2.1 (pushN g)) g.1 0, [], (g.1, 0, r.2.2), []⟩ else ⟨casM m 0 g.2.1 (pushN g), [((2 : Int), (0 : Int), g, l, ())], r, []⟩)
  else ⟨m, [((2 : Int), pc, g, l, ())], r, []⟩
def lProt (k : Int) (m : Me) (pc : Int) (g : R8) (l : Li) (r : Rest) : Loc :=
  if pc = 0 then (if idxI (loadI m g.1) = 0 then ⟨loadM m g.1, [], (loadI m g.1, 0, r.2.2), []⟩ else ⟨loadM m g.1, [((3 : Int), (1 : Int), r2S g (loadI m g.1), l, ())], r, []⟩)
  else if pc = 1 then ⟨storeM m (placeI k g.2.1) (idxI g.2.2.1), [((3 : Int), (2 : Int), g, l, ())], r, []⟩
  else if pc = 2 then (if loadI m g.1 = c8 g ∨ idxI (loadI m g.1) = 0 then ⟨loadM m g.1, [], (loadI m g.1, 0, r.2.2), []⟩ else ⟨loadM m g.1, [((3 : Int), (1 : Int), r23S g (loadI m g.1), l, ())], r, []⟩)
  else ⟨m, [((3 : Int), pc, g, l, ())], r, []⟩
def lClear (k : Int) (m : Me) (pc : Int) (g : R8) (l : Li) (r : Rest) : Loc :=
  if 0 ≤ pc ∧ pc < 3 then (if pc = 2 then ⟨storeM m (placeI k pc) 0, [], (0, 0, r.2.2), []⟩ else ⟨storeM m (placeI k pc) 0, [((4 : Int), pc + 1, g, l, ())], r, []⟩) else ⟨m, [((4 : Int), pc, g, l, ())], r, []⟩
/-- Retired nodes. -/
abbrev rtL (r : Rest) : Li := r.2.2.2.1
def snocR (r : Rest) (l : Li) : Rest := (r.1, r.2.1, r.2.2.1, l, ())
def lRetire (C : Nat) (m : Me) (pc : Int) (g : R8) (l : Li) (r : Rest) : Loc :=
  if pc = 1 then ⟨m, [], (g.1, 0, r.2.2), []⟩
  else if pc = 0 then (if 200 ≤ (rtL r).length then ⟨m, [], (0, 2, r.2.2), []⟩
    else if ((rtL r).length : Int) + 1 < 3 * C + 1 then ⟨turnM m g.1 2, [], (g.1, 0, r.2.2.1, snoc (rtL r) g.1, ()), []⟩
    else ⟨turnM m g.1 2, [((5 : Int), (1 : Int), g, l, ()), frm0 6 0 0 0], snocR r (snoc (rtL r) g.1), []⟩)
  else ⟨m, [((5 : Int), pc, g, l, ())], r, []⟩
def lScan (C : Nat) (m : Me) (pc : Int) (g : R8) (l : Li) (r : Rest) : Loc :=
  if pc = 0 then ⟨loadM m (wrap64 (8 + g.1)), [((6 : Int), (if wrap64 (3 * C) ≤ wrap64 (g.1 + 1) then 1 else 0 : Int), (wrap64 (g.1 + 1), g.2), (if loadI m (wrap64 (8 + g.1)) ≠ 0 ∧ l.length < 24 then snoc l (loadI m (wrap64 (8 + g.1))) else l), ())], r, []⟩
  else if pc = 1 then (if g.2.1 < 0 ∨ ((rtL r).length : Int) ≤ nextOut l (rtL r) g.2.1.toNat then ⟨m, [], (((rtL r).length : Int), 0, r.2.2), []⟩
    else ⟨m, [((6 : Int), (1 : Int), (g.1, ((nextOut l (rtL r) g.2.1.toNat : Nat) : Int), g.2.2), l, ()), frm0 2 (nI (rtL r) (nextOut l (rtL r) g.2.1.toNat)) 0 0], snocR r ((rtL r).take (nextOut l (rtL r) g.2.1.toNat) ++ (rtL r).drop (nextOut l (rtL r) g.2.1.toNat + 1)), []⟩)
  else ⟨m, [((6 : Int), pc, g, l, ())], r, []⟩
def lAlloc (m : Me) (pc : Int) (g : R8) (l : Li) (r : Rest) : Loc :=
  if pc = 0 ∨ pc = 2 then ⟨m, [((7 : Int), pc + 1, g, l, ()), frm0 1 0 0 0], r, []⟩
  else if pc = 1 then (if r.2.1 = 0 then ⟨m, [], (r.1, 0, r.2.2), []⟩ else if (rtL r).length = 0 then ⟨m, [], (0, 2, r.2.2), []⟩ else ⟨m, [((7 : Int), (2 : Int), g, l, ()), frm0 6 0 0 0], r, []⟩)
  else if pc = 3 then ⟨m, [], (r.1, r.2.1, r.2.2), []⟩
  else ⟨m, [((7 : Int), pc, g, l, ())], r, []⟩
def lDrop (m : Me) (pc : Int) (g : R8) (l : Li) (r : Rest) : Loc :=
  if pc = 0 then ⟨m, [((8 : Int), (1 : Int), g, l, ()), frm0 2 g.1 0 0], r, []⟩
  else if pc = 1 then ⟨m, [], (g.1, 0, r.2.2), []⟩
  else ⟨m, [((8 : Int), pc, g, l, ())], r, []⟩
/-- A step of a frame of these ops. -/
def lMM (C : Nat) (k : Int) (m : Me) (f : Frm) (r : Rest) : Loc :=
  if f.1 = 1 then lPop k m f.2.1 f.2.2.1 f.2.2.2.1 r else if f.1 = 2 then lPush m f.2.1 f.2.2.1 f.2.2.2.1 r
  else if f.1 = 3 then lProt k m f.2.1 f.2.2.1 f.2.2.2.1 r else if f.1 = 4 then lClear k m f.2.1 f.2.2.1 f.2.2.2.1 r
  else if f.1 = 5 then lRetire C m f.2.1 f.2.2.1 f.2.2.2.1 r else if f.1 = 6 then lScan C m f.2.1 f.2.2.1 f.2.2.2.1 r
  else if f.1 = 7 then lAlloc m f.2.1 f.2.2.1 f.2.2.2.1 r else lDrop m f.2.1 f.2.2.1 f.2.2.2.1 r

section
variable {s : Sy} {k : Int} {m : Me} {F : List Frm} {r : Rest} {g : R8} {l : Li} {pc : Int}
theorem into_pop {v e : Int} {f : Frm} (h0 : 0 ≤ k) (h1 : k < s.2.1.length) {m' : Me} : backS (m', (stS s k m (F ++ [f], r)).2) k v e = (Loc.mk m' [] (v, e, r.2.2) []).into s k F := by
  rw [into_nil, List.append_nil]
  exact backS_st (m := m') h0 h1
theorem into_set {f f' : Frm} (h0 : 0 ≤ k) (h1 : k < s.2.1.length) {m' : Me} : setS (m', (stS s k m (F ++ [f], r)).2) k f' = (Loc.mk m' [f'] r []).into s k F := by
  rw [into_nil]
  exact setS_st (m := m') h0 h1
theorem into_same {f : Frm} : stS s k m (F ++ [f], r) = (Loc.mk m [f] r []).into s k F := into_nil.symm
theorem into_call {f f' : Frm} {op a : Int} (h0 : 0 ≤ k) (h1 : k < s.2.1.length) (hl : F.length ≤ 38) {m' : Me} : callP (setS (m', (stS s k m (F ++ [f], r)).2) k f') k op a = (Loc.mk m' [f', frm0 op a 0 0] r []).into s k F := by
  rw [into_nil]
  have e1 : setS (m', (stS s k m (F ++ [f], r)).2) k f' = stS s k m' (F ++ [f'], r) := setS_st (m := m') h0 h1
  rw [e1, callP_st h0 h1 (by rw [List.length_append]; show F.length + 1 < 40; omega), List.append_assoc]
  rfl
theorem al_pop (h0 : 0 ≤ k) (h1 : k < s.2.1.length) : popS (stS s k m (F ++ [((1 : Int), pc, g, l, ())], r)) k 1 pc g l = (lPop k m pc g l r).into s k F := by
  unfold popS lPop
  by_cases c0 : pc = 0
  · rw [if_pos c0, if_pos c0]
    unfold pop0
    show (if idxI (loadI m 0) = 0 then _ else _) = _
    by_cases ci : idxI (loadI m 0) = 0
    · rw [if_pos ci, if_pos ci]
      have hc : isCoreB (loadM m 0, (stS s k m (F ++ [((1 : Int), pc, g, l, ())], r)).2) k = true := by
        unfold isCoreB
        show (decide (0 ≤ k) && decide (k < ((stS s k m (F ++ [((1 : Int), pc, g, l, ())], r)).2.1.length : Int))) = true
        rw [stS_len, decide_eq_true h0, decide_eq_true h1]; rfl
      have e1 : logS (loadM m 0, (stS s k m (F ++ [((1 : Int), pc, g, l, ())], r)).2) k 9 0 0 0 = stS (s.1, s.2.1, List.append (α := Evt) s.2.2.1 [(k, 9, 0, 0, 0, ())], ()) k (loadM m 0) (F ++ [((1 : Int), pc, g, l, ())], r) := if_pos hc
      show backS (logS (loadM m 0, (stS s k m (F ++ [((1 : Int), pc, g, l, ())], r)).2) k 9 0 0 0) k 0 2 = _
      rw [e1, backS_st (s := (s.1, s.2.1, List.append (α := Evt) s.2.2.1 [(k, 9, 0, 0, 0, ())], ())) h0 h1]
      unfold Loc.into stS
      rw [List.append_nil]
    · rw [if_neg ci, if_neg ci]
      exact into_set h0 h1
  rw [if_neg c0, if_neg c0]
  by_cases c1 : pc = 1
  · rw [if_pos c1, if_pos c1]
    exact into_set h0 h1
  rw [if_neg c1, if_neg c1]
  by_cases c2 : pc = 2
  · rw [if_pos c2, if_pos c2]
    unfold pop2
    show (bif casB m 0 g.1 then _ else _) = _
    cases hc : casB m 0 g.1 with
    | true => rw [if_pos rfl]; exact into_pop (m := m) h0 h1
    | false => rw [if_neg (by decide)]; exact into_set h0 h1
  · rw [if_neg c2, if_neg c2]
    exact into_same
theorem al_push (h0 : 0 ≤ k) (h1 : k < s.2.1.length) : pushSt (stS s k m (F ++ [((2 : Int), pc, g, l, ())], r)) k 2 pc g l = (lPush m pc g l r).into s k F := by
  unfold pushSt lPush
  by_cases c0 : pc = 0
  · rw [if_pos c0, if_pos c0]
    exact into_set h0 h1
  rw [if_neg c0, if_neg c0]
  by_cases c1 : pc = 1
  · rw [if_pos c1, if_pos c1]
    exact into_set h0 h1
  rw [if_neg c1, if_neg c1]
  by_cases c2 : pc = 2
  · rw [if_pos c2, if_pos c2]
    unfold push2
    show (bif casB m 0 g.2.1 then _ else _) = _
    cases hc : casB m 0 g.2.1 with
    | true => rw [if_pos rfl]; exact into_pop (m := m) h0 h1
    | false => rw [if_neg (by decide)]; exact into_set h0 h1
  · rw [if_neg c2, if_neg c2]
    exact into_same
theorem al_prot (h0 : 0 ≤ k) (h1 : k < s.2.1.length) : protS (stS s k m (F ++ [((3 : Int), pc, g, l, ())], r)) k 3 pc g l = (lProt k m pc g l r).into s k F := by
  unfold protS lProt
  by_cases c0 : pc = 0
  · rw [if_pos c0, if_pos c0]
    unfold prot0
    show (if idxI (loadI m g.1) = 0 then _ else _) = _
    by_cases ci : idxI (loadI m g.1) = 0
    · rw [if_pos ci, if_pos ci]; exact into_pop (m := m) h0 h1
    · rw [if_neg ci, if_neg ci]; exact into_set h0 h1
  rw [if_neg c0, if_neg c0]
  by_cases c1 : pc = 1
  · rw [if_pos c1, if_pos c1]
    exact into_set h0 h1
  rw [if_neg c1, if_neg c1]
  by_cases c2 : pc = 2
  · rw [if_pos c2, if_pos c2]
    unfold prot2
    show (if loadI m g.1 = c8 g ∨ idxI (loadI m g.1) = 0 then _ else _) = _
    by_cases ci : loadI m g.1 = c8 g ∨ idxI (loadI m g.1) = 0
    · rw [if_pos ci, if_pos ci]; exact into_pop (m := m) h0 h1
    · rw [if_neg ci, if_neg ci]; exact into_set h0 h1
  · rw [if_neg c2, if_neg c2]
    exact into_same
theorem al_clear (h0 : 0 ≤ k) (h1 : k < s.2.1.length) : clearS (stS s k m (F ++ [((4 : Int), pc, g, l, ())], r)) k pc g l = (lClear k m pc g l r).into s k F := by
  unfold clearS lClear
  by_cases c0 : 0 ≤ pc ∧ pc < 3
  · rw [if_pos c0, if_pos c0]
    by_cases c2 : pc = 2
    · rw [if_pos c2, if_pos c2]; exact into_pop (m := m) h0 h1
    · rw [if_neg c2, if_neg c2]; exact into_set h0 h1
  · rw [if_neg c0, if_neg c0]
    exact into_same
theorem retL_st' (h0 : 0 ≤ k) (h1 : k < s.2.1.length) {f : Frm} : retL (stS s k m (F ++ [f], r)) k = rtL r := by
  unfold retL
  rw [stS_core h0 h1]
theorem al_retire (h0 : 0 ≤ k) (h1 : k < s.2.1.length) (hl : F.length ≤ 38) : retireS (stS s k m (F ++ [((5 : Int), pc, g, l, ())], r)) k 5 pc g l = (lRetire s.2.1.length m pc g l r).into s k F := by
  unfold retireS lRetire
  by_cases c1 : pc = 1
  · rw [if_pos c1, if_pos c1]
    exact into_pop (m := m) h0 h1
  rw [if_neg c1, if_neg c1]
  by_cases c0 : pc = 0
  · rw [if_pos c0, if_pos c0]
    unfold retire0
    have hk : retM (stS s k m (F ++ [((5 : Int), pc, g, l, ())], r)) k g.1 = stS s k (turnM m g.1 2) (F ++ [((5 : Int), pc, g, l, ())], snocR r (snoc (rtL r) g.1)) := by
      unfold retM
      rw [keptS_st h0 h1, retL_st' h0 h1]
      rfl
    rw [hk, retL_st' h0 h1, stS_len]
    by_cases c2 : 200 ≤ (rtL r).length
    · rw [if_pos c2, if_pos c2]
      exact into_pop (m := m) h0 h1
    rw [if_neg c2, if_neg c2]
    by_cases c3 : ((rtL r).length : Int) + 1 < 3 * s.2.1.length + 1
    · rw [if_pos c3, if_pos c3]
      exact into_pop (m := turnM m g.1 2) h0 h1
    · rw [if_neg c3, if_neg c3]
      exact into_call (m := turnM m g.1 2) h0 h1 hl
  · rw [if_neg c0, if_neg c0]
    exact into_same
theorem al_scan (h0 : 0 ≤ k) (h1 : k < s.2.1.length) (hl : F.length ≤ 38) : lookS (stS s k m (F ++ [((6 : Int), pc, g, l, ())], r)) k 6 pc g l = (lScan s.2.1.length m pc g l r).into s k F := by
  unfold lookS lScan
  by_cases c0 : pc = 0
  · rw [if_pos c0, if_pos c0]
    unfold look0 lookF lookC lookL lookP
    rw [stS_len]
    exact into_set h0 h1
  rw [if_neg c0, if_neg c0]
  by_cases c1 : pc = 1
  · rw [if_pos c1, if_pos c1]
    unfold look1 look1a
    rw [retL_st' h0 h1, keptS_st h0 h1]
    by_cases c2 : g.2.1 < 0 ∨ ((rtL r).length : Int) ≤ nextOut l (rtL r) g.2.1.toNat
    · rw [if_pos c2, if_pos c2]
      exact into_pop (m := m) h0 h1
    · rw [if_neg c2, if_neg c2]
      exact into_call (m := m) h0 h1 hl
  · rw [if_neg c1, if_neg c1]
    exact into_same
theorem al_alloc (h0 : 0 ≤ k) (h1 : k < s.2.1.length) (hl : F.length ≤ 38) : allocS (stS s k m (F ++ [((7 : Int), pc, g, l, ())], r)) k 7 pc g l = (lAlloc m pc g l r).into s k F := by
  unfold allocS lAlloc thenS
  by_cases c0 : pc = 0 ∨ pc = 2
  · rw [if_pos c0, if_pos c0, show wrap64 (pc + 1) = pc + 1 from IntWalk.wrap64_in _ (by omega)]
    exact into_call (m := m) h0 h1 hl
  rw [if_neg c0, if_neg c0]
  by_cases c1 : pc = 1
  · rw [if_pos c1, if_pos c1]
    unfold cE cV
    rw [retL_st' h0 h1, stS_core h0 h1]
    by_cases c2 : r.2.1 = 0
    · rw [if_pos c2, if_pos c2]
      exact into_pop (m := m) h0 h1
    rw [if_neg c2, if_neg c2]
    by_cases c3 : (rtL r).length = 0
    · rw [if_pos c3, if_pos c3]
      exact into_pop (m := m) h0 h1
    · rw [if_neg c3, if_neg c3, show wrap64 (pc + 1) = 2 by rw [c1]; exact IntWalk.wrap64_in _ (by omega)]
      exact into_call (m := m) h0 h1 hl
  rw [if_neg c1, if_neg c1]
  by_cases c3 : pc = 3
  · rw [if_pos c3, if_pos c3]
    unfold cE cV
    rw [stS_core h0 h1]
    exact into_pop (m := m) h0 h1
  · rw [if_neg c3, if_neg c3]
    exact into_same
theorem al_drop (h0 : 0 ≤ k) (h1 : k < s.2.1.length) (hl : F.length ≤ 38) : dropS (stS s k m (F ++ [((8 : Int), pc, g, l, ())], r)) k pc g l = (lDrop m pc g l r).into s k F := by
  unfold dropS lDrop thenS
  by_cases c0 : pc = 0
  · rw [if_pos c0, if_pos c0, show wrap64 (pc + 1) = 1 by rw [c0]; exact IntWalk.wrap64_in _ (by omega)]
    exact into_call (m := m) h0 h1 hl
  rw [if_neg c0, if_neg c0]
  by_cases c1 : pc = 1
  · rw [if_pos c1, if_pos c1]
    exact into_pop (m := m) h0 h1
  · rw [if_neg c1, if_neg c1]
    exact into_same
end
/-- A step of a core whose last frame is of these ops. -/
theorem al_loc {s : Sy} {k : Int} {F : List Frm} {f : Frm} {r : Rest} (h0 : 0 ≤ k) (h1 : k < s.2.1.length) (hl : F.length ≤ 38) (hc : cAt s.2.1 k = (F ++ [f], r)) (hop : 1 ≤ f.1 ∧ f.1 ≤ 8) : alS s k = (lMM s.2.1.length k s.1 f r).into s k F := by
  have hs := stS_self (s := s) h0 h1
  rw [hc] at hs
  obtain ⟨m, s2⟩ := s
  have hs2 : stS (m, s2) k m (F ++ [f], r) = (m, s2) := hs
  have key : alS (stS (m, s2) k m (F ++ [f], r)) k = (lMM s2.1.length k m f r).into (m, s2) k F := by
    rw [al_at h0 h1]
    obtain ⟨op, pc, g, l, u⟩ := f
    obtain rfl : u = () := rfl
    show allocF _ k op pc g l = _
    have hcase : ∀ x : Int, 1 ≤ x ∧ x ≤ 8 → x = 1 ∨ x = 2 ∨ x = 3 ∨ x = 4 ∨ x = 5 ∨ x = 6 ∨ x = 7 ∨ x = 8 := fun x hx => by omega
    rcases hcase op hop with e | e | e | e | e | e | e | e <;> subst e
    · exact al_pop (s := (m, s2)) h0 h1
    · exact al_push (s := (m, s2)) h0 h1
    · exact al_prot (s := (m, s2)) h0 h1
    · exact al_clear (s := (m, s2)) h0 h1
    · exact al_retire (s := (m, s2)) h0 h1 hl
    · exact al_scan (s := (m, s2)) h0 h1 hl
    · exact al_alloc (s := (m, s2)) h0 h1 hl
    · exact al_drop (s := (m, s2)) h0 h1 hl
  rw [hs2] at key
  exact key
/-! ### A word is set -/
def setW (m : Me) (q v : Int) : Me := (List.set (α := Int) m.1 q.toNat v, m.2)
def setG (m : Me) (p v : Int) : Me := (m.1, List.set (α := Int) m.2.1 p.toNat v, m.2.2)
theorem setW_at {m : Me} {q v j : Int} (hq : 0 ≤ q) (hj : 0 ≤ j) : nI (setW m q v).1 j = if q = j ∧ q < m.1.length then v else nI m.1 j := nI_set hq hj
theorem setW_ne {m : Me} {q v j : Int} (hq : 0 ≤ q) (hj : 0 ≤ j) (h : q ≠ j) : nI (setW m q v).1 j = nI m.1 j := by rw [setW_at hq hj, if_neg (fun e => h e.1)]
theorem setW_self {m : Me} {q v : Int} (hq : 0 ≤ q) (h : q < m.1.length) : nI (setW m q v).1 q = v := by rw [setW_at hq hq, if_pos ⟨rfl, h⟩]
theorem setW_fits {m : Me} {q v : Int} (h : Fits m) : Fits (setW m q v) := ⟨by show (List.set (α := Int) m.1 _ _).length = _; rw [List.length_set]; exact h.1, h.2⟩
theorem setG_at {m : Me} {p v j : Int} (hp : 0 ≤ p) (hj : 0 ≤ j) : nI (setG m p v).2.1 j = if p = j ∧ p < m.2.1.length then v else nI m.2.1 j := nI_set hp hj
theorem setG_ne {m : Me} {p v j : Int} (hp : 0 ≤ p) (hj : 0 ≤ j) (h : p ≠ j) : nI (setG m p v).2.1 j = nI m.2.1 j := by rw [setG_at hp hj, if_neg (fun e => h e.1)]
theorem setG_self {m : Me} {p v : Int} (hp : 0 ≤ p) (h : p < m.2.1.length) : nI (setG m p v).2.1 p = v := by rw [setG_at hp hp, if_pos ⟨rfl, h⟩]
theorem setG_glen {m : Me} {p v : Int} : (setG m p v).2.1.length = m.2.1.length := List.length_set
theorem setG_fits {m : Me} {p v : Int} (h : Fits m) : Fits (setG m p v) := by
  unfold Fits
  rw [setG_glen]
  exact h
theorem FL.setW {m : Me} {l : List Int} {q v : Int} (h : FL m l) (h0 : 0 < q) (hq : ∀ p ∈ l, q ≠ lk p) : FL (setW m q v) l := by
  refine ⟨setW_fits h.fits, ?_, h.nodup, h.mem, h.good⟩
  rw [setW_ne (by omega) (by omega) (by omega)]
  refine h.head.same fun p hp => ?_
  have := (h.mem p).1 hp
  have hlk := lk_is p
  exact setW_ne (by omega) (by omega) (hq p hp)
theorem setW_same {m : Me} {q v : Int} (h0 : 0 ≤ q) (h1 : q < m.1.length) (h : nI m.1 q = v) : setW m q v = m := by
  unfold setW
  have e : List.set (α := Int) m.1 q.toNat v = m.1 := by
    apply List.ext_getElem?
    intro j
    by_cases hj : q.toNat = j
    · subst hj
      have : q.toNat < m.1.length := by omega
      rw [List.getElem?_set_self this, List.getElem?_eq_getElem this]
      rw [← h]
      show some (List.getD m.1 q.toNat 0) = _
      rw [List.getD_eq_getElem?_getD, List.getElem?_eq_getElem this]; rfl
    · rw [List.getElem?_set_ne hj]
  rw [e]

/-- Who has a node. -/
inductive Own where
  | free
  | fresh (c : Nat)
  | shared
  | gone (c : Nat)
  | ret (c : Nat)
  | push (c : Nat) (g : Int)
  deriving DecidableEq
abbrev OM := Int → Own
def statO : Own → Int → Prop
  | .free, g => g = 0
  | .fresh _, g => g = 1
  | .shared, g => g = 1
  | .gone _, g => g = 1
  | .ret _, g => g = 2
  | .push _ x, g => g = x ∧ (x = 1 ∨ x = 2)
/-- A node of the arena. -/
def InN (m : Me) (p : Int) : Prop := 1 ≤ p ∧ p < m.2.1.length
/-- A core's slot. -/
def slotP (c : Nat) (i : Int) : Int := 8 + 3 * c + i
theorem slotP_is (c : Nat) (i : Int) : slotP c i = 8 + 3 * (c : Int) + i := rfl
/-- A word of the list's head, of now or of before. -/
def Stale (m : Me) (w : Int) : Prop := InN m (idxI w) ∧ (w = nI m.1 0 ∨ tagI w < tagI (nI m.1 0))
/-- What an allocation was told. -/
def Told (m : Me) (o : OM) (c : Nat) (r : Rest) : Prop := (r.2.1 = 0 ∧ InN m r.1 ∧ o r.1 = .fresh c) ∨ r.2.1 = 2
def ScanI (C : Nat) (R : Li) (f : Frm) : Prop :=
  (f.2.1 = 0 ∧ 0 ≤ f.2.2.1.1 ∧ f.2.2.1.1 < 3 * C ∧ (f.2.2.2.1.length : Int) ≤ f.2.2.1.1 ∧ f.2.2.1.2.1 = 0) ∨
  (f.2.1 = 1 ∧ f.2.2.1.1 = 3 * C ∧ (f.2.2.2.1.length : Int) ≤ 3 * C ∧ 0 ≤ f.2.2.1.2.1 ∧ f.2.2.1.2.1 ≤ R.length ∧ ∀ p ∈ R.take f.2.2.1.2.1.toNat, p ∈ f.2.2.2.1)
structure TopI (m : Me) (o : OM) (C c : Nat) (r : Rest) (f : Frm) : Prop where
  pop : f.1 = 1 → f.2.1 = 0 ∨ ((f.2.1 = 1 ∨ f.2.1 = 2) ∧ Stale m f.2.2.1.1 ∧ (f.2.1 = 2 → f.2.2.1.1 = nI m.1 0 → f.2.2.1.2.1 = nI m.1 (lk (idxI f.2.2.1.1))))
  push : f.1 = 2 → InN m f.2.2.1.1 ∧ (∃ x, o f.2.2.1.1 = .push c x) ∧ (f.2.1 = 0 ∨ f.2.1 = 1 ∨ f.2.1 = 2 ∧ nI m.1 (lk f.2.2.1.1) = idxI f.2.2.1.2.1)
  prot : f.1 = 3 → (0 ≤ f.2.2.1.1 ∧ f.2.2.1.1 < 124 ∧ 0 ≤ f.2.2.1.2.1 ∧ f.2.2.1.2.1 ≤ 2) ∧ (f.2.1 = 0 ∨ f.2.1 = 1 ∨ f.2.1 = 2 ∧ nI m.1 (slotP c f.2.2.1.2.1) = idxI f.2.2.1.2.2.1)
  clear : f.1 = 4 → 0 ≤ f.2.1 ∧ f.2.1 ≤ 2
  retire : f.1 = 5 → f.2.1 = 1 ∨ f.2.1 = 0 ∧ InN m f.2.2.1.1 ∧ o f.2.2.1.1 = .gone c
  scan : f.1 = 6 → ScanI C (rtL r) f
  alloc : f.1 = 7 → f.2.1 = 0 ∨ f.2.1 = 2 ∨ ((f.2.1 = 1 ∨ f.2.1 = 3) ∧ Told m o c r)
  drop : f.1 = 8 → f.2.1 = 1 ∨ f.2.1 = 0 ∧ InN m f.2.2.1.1 ∧ o f.2.2.1.1 = .fresh c
/-- A frame that waits for one of this op. -/
structure WaitI (C : Nat) (R : Li) (g : Frm) (op : Int) : Prop where
  low : g.1 = 1 ∨ g.1 = 2 ∨ g.1 = 3 ∨ g.1 = 4 → False
  retire : g.1 = 5 → g.2.1 = 1 ∧ op = 6
  scan : g.1 = 6 → op = 2 ∧ g.2.1 = 1 ∧ ScanI C R g
  alloc : g.1 = 7 → (g.2.1 = 1 ∨ g.2.1 = 3) ∧ op = 1 ∨ g.2.1 = 2 ∧ op = 6
  drop : g.1 = 8 → g.2.1 = 1 ∧ op = 2
/-- How many frames may come above. -/
def room (op : Int) : Nat := if op = 7 ∨ op = 5 then 2 else if op = 6 ∨ op = 8 then 1 else 0
def Wt (C : Nat) (R : Li) : Int → List Frm → Prop
  | _, [] => True
  | op, g :: rest => WaitI C R g op ∧ rest.length + 1 + room g.1 ≤ 39 ∧ Wt C R g.1 rest
/-- A core's frames, the last one first. -/
def Stk (m : Me) (o : OM) (C c : Nat) (r : Rest) : List Frm → Prop
  | [] => True
  | f :: rest => TopI m o C c r f ∧ rest.length + 1 + room f.1 ≤ 39 ∧ Wt C (rtL r) f.1 rest
structure CoreI (m : Me) (o : OM) (C c : Nat) (cr : Cor) : Prop where
  st : Stk m o C c cr.2 cr.1.reverse
  nodup : (rtL cr.2).Nodup
  ret : ∀ p, p ∈ rtL cr.2 ↔ InN m p ∧ o p = .ret c
  few : (rtL cr.2).length ≤ 3 * C ∨ (rtL cr.2).length ≤ 3 * C + 1 ∧ ∃ f ∈ cr.1, f.1 = 6
  push : ∀ p x, InN m p → o p = .push c x → ∃ F f, cr.1 = F ++ [f] ∧ f.1 = 2 ∧ f.2.2.1.1 = p
/-- The memory's management is as it should be; T: as many steps at most were done. -/
structure MM (T : Int) (o : OM) (s : Sy) : Prop where
  list : ∃ l, FL s.1 l
  more : 2 ≤ s.1.2.1.length
  cores : 1 ≤ s.2.1.length ∧ s.2.1.length ≤ 8
  tag : tagI (nI s.1.1 0) ≤ T
  stat : ∀ p, InN s.1 p → statO (o p) (nI s.1.2.1 p)
  core : ∀ c : Nat, c < s.2.1.length → CoreI s.1 o s.2.1.length c (cAt s.2.1 c)

/-! ### What others' steps leave -/
structure Chg (k : Nat) (m : Me) (o : OM) (m' : Me) (o' : OM) : Prop where
  glen : m'.2.1.length = m.2.1.length
  head : (nI m'.1 0 = nI m.1 0 ∧ ∀ p, InN m p → nI m.2.1 p = 0 → nI m'.1 (lk p) = nI m.1 (lk p)) ∨ tagI (nI m'.1 0) = tagI (nI m.1 0) + 1
  slots : ∀ (c : Nat) (i : Int), c ≠ k → c < 8 → 0 ≤ i → i ≤ 2 → nI m'.1 (slotP c i) = nI m.1 (slotP c i)
  links : ∀ (c : Nat) (p x : Int), c ≠ k → InN m p → o p = .push c x → nI m'.1 (lk p) = nI m.1 (lk p)
  owns : ∀ (c : Nat) (p : Int), c ≠ k → InN m p → (o' p = .fresh c ↔ o p = .fresh c) ∧ (o' p = .gone c ↔ o p = .gone c) ∧ (o' p = .ret c ↔ o p = .ret c) ∧ ∀ x, (o' p = .push c x ↔ o p = .push c x)
theorem Chg.inN {k : Nat} {m m' : Me} {o o' : OM} (h : Chg k m o m' o') {p : Int} : InN m' p ↔ InN m p := by unfold InN; rw [h.glen]
theorem FL.headIn {m : Me} {l : List Int} (h : FL m l) (h0 : idxI (nI m.1 0) ≠ 0) : InN m (idxI (nI m.1 0)) ∧ nI m.2.1 (idxI (nI m.1 0)) = 0 ∧ ∃ l', l = idxI (nI m.1 0) :: l' := by
  cases l with
  | nil => exact absurd h.head h0
  | cons q l =>
    have e : idxI (nI m.1 0) = q := h.head.1
    have hq := (h.mem q).1 (List.mem_cons_self ..)
    rw [e]
    exact ⟨⟨hq.1, hq.2.1⟩, hq.2.2, l, rfl⟩
section
variable {k c C : Nat} {m m' : Me} {o o' : OM} {r : Rest} {f : Frm} {l : List Int}
theorem Stale.stays {w : Int} (h : Stale m w) (hc : Chg k m o m' o') : Stale m' w := by
  refine ⟨hc.inN.2 h.1, ?_⟩
  rcases hc.head with ⟨e, _⟩ | e
  · rw [e]; exact h.2
  · rw [e]
    rcases h.2 with h | h
    · rw [h]; exact .inr (by omega)
    · exact .inr (by omega)
theorem TopI.stays (h : TopI m o C c r f) (hc : Chg k m o m' o') (hl : FL m l) (hck : c ≠ k) (hc8 : c < 8) : TopI m' o' C c r f where
  pop e := by
    rcases h.pop e with h | ⟨h1, h2, h3⟩
    · exact .inl h
    · refine .inr ⟨h1, h2.stays hc, fun e2 e3 => ?_⟩
      rcases hc.head with ⟨e4, e5⟩ | e4
      · rw [e4] at e3
        rw [h3 e2 e3]
        have hp := h2.1
        have hne : idxI (nI m.1 0) ≠ 0 := by rw [← e3]; have := hp.1; omega
        obtain ⟨q1, q2, _⟩ := hl.headIn hne
        rw [← e3] at q1 q2
        exact (e5 _ q1 q2).symm
      · rw [← e3] at e4
        rcases h2.2 with h | h
        · rw [h] at e4; omega
        · omega
  push e := by
    obtain ⟨h1, ⟨x, h2⟩, h3⟩ := h.push e
    refine ⟨hc.inN.2 h1, ⟨x, ((hc.owns c _ hck h1).2.2.2 x).2 h2⟩, ?_⟩
    rcases h3 with h3 | h3 | ⟨h3, h4⟩
    · exact .inl h3
    · exact .inr (.inl h3)
    · exact .inr (.inr ⟨h3, by rw [hc.links c _ x hck h1 h2]; exact h4⟩)
  prot e := by
    obtain ⟨h1, h2⟩ := h.prot e
    refine ⟨h1, ?_⟩
    rcases h2 with h2 | h2 | ⟨h2, h3⟩
    · exact .inl h2
    · exact .inr (.inl h2)
    · exact .inr (.inr ⟨h2, by rw [hc.slots c _ hck hc8 h1.2.2.1 h1.2.2.2]; exact h3⟩)
  clear := h.clear
  retire e := (h.retire e).imp id fun ⟨h1, h2, h3⟩ => ⟨h1, hc.inN.2 h2, (hc.owns c _ hck h2).2.1.2 h3⟩
  scan := h.scan
  alloc e := (h.alloc e).imp id fun h => h.imp id fun ⟨h1, h2⟩ => ⟨h1, h2.imp (fun ⟨a, b, d⟩ => ⟨a, hc.inN.2 b, (hc.owns c _ hck b).1.2 d⟩) id⟩
  drop e := (h.drop e).imp id fun ⟨h1, h2, h3⟩ => ⟨h1, hc.inN.2 h2, (hc.owns c _ hck h2).1.2 h3⟩
theorem CoreI.stays {cr : Cor} (h : CoreI m o C c cr) (hc : Chg k m o m' o') (hl : FL m l) (hck : c ≠ k) (hc8 : c < 8) : CoreI m' o' C c cr where
  st := by
    have := h.st
    cases hr : cr.1.reverse with
    | nil => trivial
    | cons f rest =>
      rw [hr] at this
      exact ⟨this.1.stays hc hl hck hc8, this.2⟩
  nodup := h.nodup
  ret p := by
    rw [h.ret p, hc.inN]
    constructor
    · rintro ⟨a, b⟩; exact ⟨a, ((hc.owns c p hck a).2.2.1).2 b⟩
    · rintro ⟨a, b⟩; exact ⟨a, ((hc.owns c p hck a).2.2.1).1 b⟩
  few := h.few
  push p x hp hx := h.push p x (hc.inN.1 hp) (((hc.owns c p hck (hc.inN.1 hp)).2.2.2 x).1 hx)
end
/-- A step of core k: all is as it should be behind it. -/
theorem MM.into {T : Int} {o o' : OM} {s : Sy} {k : Nat} {L : Loc} {F : List Frm} {T' : Int} (h : MM T o s) (hk : k < s.2.1.length) (hc : Chg k s.1 o L.m o') (hl : ∃ l, FL L.m l) (ht : tagI (nI L.m.1 0) ≤ T')
    (hst : ∀ p, InN s.1 p → statO (o' p) (nI L.m.2.1 p)) (hcore : CoreI L.m o' s.2.1.length k (F ++ L.fs, L.r)) : MM T' o' (L.into s k F) := by
  have hlen : (L.into s k F).2.1.length = s.2.1.length := List.length_set
  obtain ⟨l, hfl⟩ := h.list
  refine ⟨hl, by show 2 ≤ L.m.2.1.length; rw [hc.glen]; exact h.more, by rw [hlen]; exact h.cores, ht, fun p hp => hst p (hc.inN.1 hp), fun c hcl => ?_⟩
  rw [hlen] at hcl ⊢
  by_cases hck : c = k
  · subst hck
    have e : cAt (L.into s c F).2.1 c = (F ++ L.fs, L.r) := getD_set (by omega)
    rw [e]; exact hcore
  · have e : cAt (L.into s k F).2.1 c = cAt s.2.1 c := by
      show List.getD (List.set (α := Cor) s.2.1 (k : Int).toNat _) (c : Int).toNat _ = List.getD s.2.1 (c : Int).toNat _
      rw [List.getD_eq_getElem?_getD, List.getD_eq_getElem?_getD, List.getElem?_set_ne (by omega)]
    rw [e]
    exact (h.core c hcl).stays hc hfl hck (by have := h.cores; omega)

/-! ### Who has what, but one -/
def upd (o : OM) (p : Int) (x : Own) : OM := fun q => if q = p then x else o q
theorem upd_self {o : OM} {p : Int} {x : Own} : upd o p x p = x := if_pos rfl
theorem upd_ne {o : OM} {p q : Int} {x : Own} (h : q ≠ p) : upd o p x q = o q := if_neg h
/-- It isn't another core's. -/
def Mine (k : Nat) : Own → Prop
  | .free => True
  | .shared => True
  | .fresh c => c = k
  | .gone c => c = k
  | .ret c => c = k
  | .push c _ => c = k
theorem Mine.not {k c : Nat} {x : Own} (h : Mine k x) (hc : c ≠ k) : x ≠ .fresh c ∧ x ≠ .gone c ∧ x ≠ .ret c ∧ ∀ g, x ≠ .push c g := by
  refine ⟨fun e => ?_, fun e => ?_, fun e => ?_, fun g e => ?_⟩ <;> (subst e; exact hc h)
theorem upd_owns {k c : Nat} {o : OM} {p : Int} {x : Own} (h1 : Mine k (o p)) (h2 : Mine k x) (hc : c ≠ k) (q : Int) :
    (upd o p x q = .fresh c ↔ o q = .fresh c) ∧ (upd o p x q = .gone c ↔ o q = .gone c) ∧ (upd o p x q = .ret c ↔ o q = .ret c) ∧ ∀ g, (upd o p x q = .push c g ↔ o q = .push c g) := by
  by_cases hq : q = p
  · subst hq
    rw [upd_self]
    have a := h1.not hc
    have b := h2.not hc
    exact ⟨⟨fun e => absurd e b.1, fun e => absurd e a.1⟩, ⟨fun e => absurd e b.2.1, fun e => absurd e a.2.1⟩, ⟨fun e => absurd e b.2.2.1, fun e => absurd e a.2.2.1⟩, fun g => ⟨fun e => absurd e (b.2.2.2 g), fun e => absurd e (a.2.2.2 g)⟩⟩
  · rw [upd_ne hq]
    exact ⟨Iff.rfl, Iff.rfl, Iff.rfl, fun _ => Iff.rfl⟩
theorem same_owns {c : Nat} {o : OM} (q : Int) : (o q = .fresh c ↔ o q = .fresh c) ∧ (o q = .gone c ↔ o q = .gone c) ∧ (o q = .ret c ↔ o q = .ret c) ∧ ∀ g, (o q = .push c g ↔ o q = .push c g) := ⟨Iff.rfl, Iff.rfl, Iff.rfl, fun _ => Iff.rfl⟩

section
variable {c C : Nat} {m : Me} {o : OM} {r : Rest} {f : Frm}
theorem topPop (e : f.1 = 1) (h : f.2.1 = 0 ∨ ((f.2.1 = 1 ∨ f.2.1 = 2) ∧ Stale m f.2.2.1.1 ∧ (f.2.1 = 2 → f.2.2.1.1 = nI m.1 0 → f.2.2.1.2.1 = nI m.1 (lk (idxI f.2.2.1.1))))) : TopI m o C c r f := by
  constructor <;> intro e2 <;> first | exact h | exact absurd (e.symm.trans e2) (by decide)
theorem topPush (e : f.1 = 2) (h : InN m f.2.2.1.1 ∧ (∃ x, o f.2.2.1.1 = .push c x) ∧ (f.2.1 = 0 ∨ f.2.1 = 1 ∨ f.2.1 = 2 ∧ nI m.1 (lk f.2.2.1.1) = idxI f.2.2.1.2.1)) : TopI m o C c r f := by
  constructor <;> intro e2 <;> first | exact h | exact absurd (e.symm.trans e2) (by decide)
theorem topProt (e : f.1 = 3) (h : (0 ≤ f.2.2.1.1 ∧ f.2.2.1.1 < 124 ∧ 0 ≤ f.2.2.1.2.1 ∧ f.2.2.1.2.1 ≤ 2) ∧ (f.2.1 = 0 ∨ f.2.1 = 1 ∨ f.2.1 = 2 ∧ nI m.1 (slotP c f.2.2.1.2.1) = idxI f.2.2.1.2.2.1)) : TopI m o C c r f := by
  constructor <;> intro e2 <;> first | exact h | exact absurd (e.symm.trans e2) (by decide)
theorem topClear (e : f.1 = 4) (h : 0 ≤ f.2.1 ∧ f.2.1 ≤ 2) : TopI m o C c r f := by
  constructor <;> intro e2 <;> first | exact h | exact absurd (e.symm.trans e2) (by decide)
theorem topRetire (e : f.1 = 5) (h : f.2.1 = 1 ∨ f.2.1 = 0 ∧ InN m f.2.2.1.1 ∧ o f.2.2.1.1 = .gone c) : TopI m o C c r f := by
  constructor <;> intro e2 <;> first | exact h | exact absurd (e.symm.trans e2) (by decide)
theorem topScan (e : f.1 = 6) (h : ScanI C (rtL r) f) : TopI m o C c r f := by
  constructor <;> intro e2 <;> first | exact h | exact absurd (e.symm.trans e2) (by decide)
theorem topAlloc (e : f.1 = 7) (h : f.2.1 = 0 ∨ f.2.1 = 2 ∨ ((f.2.1 = 1 ∨ f.2.1 = 3) ∧ Told m o c r)) : TopI m o C c r f := by
  constructor <;> intro e2 <;> first | exact h | exact absurd (e.symm.trans e2) (by decide)
end

/-! ### Frames -/
theorem Wt.indep {C : Nat} {R R' : Li} : ∀ {op : Int} {l : List Frm}, op ≠ 1 → op ≠ 2 → op ≠ 6 → Wt C R op l → Wt C R' op l
  | _, [], _, _, _, _ => trivial
  | op, g :: rest, h1, h2, h6, h => by
    have n5 : g.1 ≠ 5 := fun e => h6 (h.1.retire e).2
    have n6 : g.1 ≠ 6 := fun e => h2 (h.1.scan e).1
    have n7 : g.1 ≠ 7 := fun e => (h.1.alloc e).elim (fun a => h1 a.2) fun a => h6 a.2
    have n8 : g.1 ≠ 8 := fun e => h2 (h.1.drop e).2
    have n1 : g.1 ≠ 1 := fun e => h.1.low (.inl e)
    have n2 : g.1 ≠ 2 := fun e => h.1.low (.inr (.inl e))
    exact ⟨⟨h.1.low, fun e => absurd e n5, fun e => absurd e n6, fun e => absurd e n7, fun e => absurd e n8⟩, h.2.1, Wt.indep n1 n2 n6 h.2.2⟩
theorem Wt.scan {C : Nat} {R R' : Li} : ∀ {l : List Frm}, Wt C R 6 l → Wt C R' 6 l
  | [], _ => trivial
  | g :: rest, h => by
    have n6 : g.1 ≠ 6 := fun e => absurd (h.1.scan e).1 (by decide)
    have n1 : g.1 ≠ 1 := fun e => h.1.low (.inl e)
    have n2 : g.1 ≠ 2 := fun e => h.1.low (.inr (.inl e))
    exact ⟨⟨h.1.low, h.1.retire, fun e => absurd e n6, h.1.alloc, h.1.drop⟩, h.2.1, Wt.indep n1 n2 n6 h.2.2⟩
section
variable {k c C : Nat} {m m' : Me} {o o' : OM} {r r' : Rest} {f f' g : Frm} {rest : List Frm}
theorem WaitI.top {op : Int} (h : WaitI C (rtL r') g op) (ht : op = 1 → Told m' o' c r') : TopI m' o' C c r' g where
  pop e := (h.low (.inl e)).elim
  push e := (h.low (.inr (.inl e))).elim
  prot e := (h.low (.inr (.inr (.inl e)))).elim
  clear e := (h.low (.inr (.inr (.inr e)))).elim
  retire e := .inl (h.retire e).1
  scan e := (h.scan e).2.2
  alloc e := by
    rcases h.alloc e with ⟨a, b⟩ | ⟨a, _⟩
    · exact .inr (.inr ⟨a, ht b⟩)
    · exact .inr (.inl a)
  drop e := .inl (h.drop e).1
theorem Stk.set (h : Stk m o C c r (f :: rest)) (ht : TopI m' o' C c r' f') (he : f'.1 = f.1) (hR : rtL r' = rtL r) : Stk m' o' C c r' (f' :: rest) :=
  ⟨ht, by rw [he]; exact h.2.1, by rw [he, hR]; exact h.2.2⟩
theorem Stk.call (h : Stk m o C c r (f :: rest)) (ht : TopI m' o' C c r' g) (he : f'.1 = f.1) (hrm : 1 + room g.1 ≤ room f.1) (hw : WaitI C (rtL r') f' g.1) (hWt : Wt C (rtL r') f.1 rest) : Stk m' o' C c r' (g :: f' :: rest) :=
  ⟨ht, by have := h.2.1; show rest.length + 1 + 1 + room g.1 ≤ 39; omega, hw, by rw [he]; exact h.2.1, by rw [he]; exact hWt⟩
theorem Stk.back (h : Wt C (rtL r') f.1 rest) (ht : f.1 = 1 → Told m' o' c r') : Stk m' o' C c r' rest := by
  cases rest with
  | nil => trivial
  | cons g rest => exact ⟨h.1.top ht, h.2.1, h.2.2⟩
end
theorem rev_one {F : List Frm} {f : Frm} : (F ++ [f]).reverse = f :: F.reverse := by simp
theorem rev_two {F : List Frm} {f g : Frm} : (F ++ [f, g]).reverse = g :: f :: F.reverse := by simp
section
variable {k C : Nat} {m m' : Me} {o o' : OM} {r r' : Rest} {f f' g : Frm} {F : List Frm}
/-- What a core's own steps keep of what it is. -/
structure Keeps (k : Nat) (m : Me) (o : OM) (r : Rest) (m' : Me) (o' : OM) (r' : Rest) : Prop where
  glen : m'.2.1.length = m.2.1.length
  ret : rtL r' = rtL r
  own : ∀ p, InN m p → (o' p = .ret k ↔ o p = .ret k)
theorem CoreI.ret' (h : CoreI m o C k (F ++ [f], r)) (hk : Keeps k m o r m' o' r') : ∀ p, p ∈ rtL r' ↔ InN m' p ∧ o' p = .ret k := fun p => by
  rw [hk.ret, h.ret p]
  unfold InN
  rw [hk.glen]
  exact ⟨fun ⟨a, b⟩ => ⟨a, (hk.own p a).2 b⟩, fun ⟨a, b⟩ => ⟨a, (hk.own p a).1 b⟩⟩
theorem CoreI.noPush (h : CoreI m o C k (F ++ [f], r)) (h2 : f.1 ≠ 2) : ∀ p x, InN m p → o p ≠ .push k x := fun p x hp hx => by
  obtain ⟨F', f', e, e1, _⟩ := h.push p x hp hx
  have e : F ++ [f] = F' ++ [f'] := e
  have := (List.append_inj' e rfl).2
  rw [List.cons.injEq] at this
  rw [this.1] at h2
  exact h2 e1
/-- The last frame goes on. -/
theorem CoreI.set (h : CoreI m o C k (F ++ [f], r)) (hk : Keeps k m o r m' o' r') (he : f'.1 = f.1) (ht : TopI m' o' C k r' f') (hp : ∀ p x, InN m p → o' p = .push k x → f'.1 = 2 ∧ f'.2.2.1.1 = p) : CoreI m' o' C k (F ++ [f'], r') where
  st := by
    have := h.st
    rw [rev_one] at this ⊢
    exact this.set ht he hk.ret
  nodup := by show (rtL r').Nodup; rw [hk.ret]; exact h.nodup
  ret := h.ret' hk
  few := by
    show (rtL r').length ≤ _ ∨ _
    rw [hk.ret]
    refine h.few.imp id fun ⟨a, b, hb, e⟩ => ⟨a, ?_⟩
    rcases List.mem_append.1 hb with hb | hb
    · exact ⟨b, List.mem_append_left _ hb, e⟩
    · rw [List.mem_singleton] at hb
      exact ⟨f', List.mem_append_right _ (List.mem_singleton.2 rfl), by rw [he, ← hb]; exact e⟩
  push p x h1 h2 := by
    have hg : InN m p := by unfold InN at h1 ⊢; rw [hk.glen] at h1; exact h1
    have := hp p x hg h2
    exact ⟨F, f', rfl, this.1, this.2⟩
/-- The last frame calls. -/
theorem CoreI.call (h : CoreI m o C k (F ++ [f], r)) (hk : Keeps k m o r m' o' r') (he : f'.1 = f.1) (ht : TopI m' o' C k r' g) (hrm : 1 + room g.1 ≤ room f.1) (hw : WaitI C (rtL r') f' g.1) (hp : ∀ p x, InN m p → o' p = .push k x → g.1 = 2 ∧ g.2.2.1.1 = p) : CoreI m' o' C k (F ++ [f', g], r') where
  st := by
    have := h.st
    rw [rev_one] at this
    rw [rev_two]
    exact this.call ht he hrm hw (by rw [hk.ret]; exact this.2.2)
  nodup := by show (rtL r').Nodup; rw [hk.ret]; exact h.nodup
  ret := h.ret' hk
  few := by
    show (rtL r').length ≤ _ ∨ _
    rw [hk.ret]
    refine h.few.imp id fun ⟨a, b, hb, e⟩ => ⟨a, ?_⟩
    rcases List.mem_append.1 hb with hb | hb
    · exact ⟨b, List.mem_append_left _ hb, e⟩
    · rw [List.mem_singleton] at hb
      exact ⟨f', List.mem_append_right _ (by simp), by rw [he, ← hb]; exact e⟩
  push p x h1 h2 := by
    have hg : InN m p := by unfold InN at h1 ⊢; rw [hk.glen] at h1; exact h1
    have := hp p x hg h2
    exact ⟨F ++ [f'], g, by simp, this.1, this.2⟩
/-- The last frame ends. -/
theorem CoreI.back (h : CoreI m o C k (F ++ [f], r)) (hk : Keeps k m o r m' o' r') (ht : f.1 = 1 → Told m' o' k r') (hf : f.1 = 6 → (rtL r).length ≤ 3 * C) (hp : ∀ p x, InN m p → o' p ≠ .push k x) : CoreI m' o' C k (F, r') where
  st := by
    have := h.st
    rw [rev_one] at this
    exact Stk.back (by rw [hk.ret]; exact this.2.2) ht
  nodup := by show (rtL r').Nodup; rw [hk.ret]; exact h.nodup
  ret := h.ret' hk
  few := by
    show (rtL r').length ≤ _ ∨ _
    rw [hk.ret]
    by_cases h6 : f.1 = 6
    · exact .inl (hf h6)
    refine h.few.imp id fun ⟨a, b, hb, e⟩ => ⟨a, ?_⟩
    rcases List.mem_append.1 hb with hb | hb
    · exact ⟨b, hb, e⟩
    · rw [List.mem_singleton] at hb
      rw [hb] at e
      exact absurd e h6
  push p x h1 h2 := by
    have hg : InN m p := by unfold InN at h1 ⊢; rw [hk.glen] at h1; exact h1
    exact absurd h2 (hp p x hg)
end
end Go.Proofs.YtpobngddiifdpaaGreat.V
