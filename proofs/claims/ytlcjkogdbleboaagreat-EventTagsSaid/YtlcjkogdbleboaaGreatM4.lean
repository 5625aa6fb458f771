/- The memory's management: what a step of one of its ops does. -/
import Derived.Test.YtlcjkogdbleboaaGreatM3
set_option linter.unusedSimpArgs false
set_option linter.unusedVariables false
namespace Go.Proofs.YtlcjkogdbleboaaGreat.V
open Go Go.RowKit Go.Proofs.YtlcjkogdbleboaaGreat.Hz
set_option maxRecDepth 100000

/-! ### A word is set -/
def setW (m : Me) (q v : Int) : Me := (List.set (α := Int) m.1 q.toNat v, m.2)
def setG (m : Me) (p v : Int) : Me := (m.1, List.set (α := Int) m.2.1 p.toNat v, m.2.2)
theorem setW_at {m : Me} {q v j : Int} (hq : 0 ≤ q) (hj : 0 ≤ j) : nI (setW m q v).1 j = if q = j ∧ q < m.1.length then v else nI m.1 j := nI_set hq hj
theorem setW_ne {m : Me} {q v j : Int} (hq : 0 ≤ q) (hj : 0 ≤ j) (h : q ≠ j) : nI (setW m q v).1 j = nI m.1 j := by rw [setW_at hq hj, if_neg (fun e => h e.1)]
theorem setW_self {m : Me} {q v : Int} (hq : 0 ≤ q) (h : q < m.1.length) : nI (setW m q v).1 q = v := by rw [setW_at hq hq, if_pos ⟨rfl, h⟩]
theorem setW_fits {m : Me} {q v : Int} (h : Fits m) : Fits (setW m q v) := ⟨by show (List.set (α := Int) m.1 _ _).length = _; rw [List.length_set]; exact h.1, h.2⟩
theorem setG_at {m : Me} {p v j : Int} (hp : 0 ≤ p) (hj : 0 ≤ j) : nI (setG m p v).2.1 j = if p = j ∧ p < m.2.1.length then v else nI m.2.1 j := nI_set hp hj
theorem setG_ne {m : Me} {p v j : Int} (hp : 0 ≤ p) (hj : 0 ≤ j) (h : p ≠ j) : nI (setG m p v).2.1 j = nI m.2.1 j := by rw [setG_at hp hj, if_neg (fun e => h e.1)]
theorem setG_self {m : Me} {p v : Int} (hp : 0 ≤ p) (h : p < m.2.1.length) : nI (setG m p v).2.1 p = v := by rw [setG_at hp hp, if_pos ⟨rfl, h⟩]
theorem setG_glen {m : Me} {p v : Int} : (setG m p v).2.1.length = m.2.1.length := List.length_set
theorem setG_fits {m : Me} {p v : Int} (h : Fits m) : Fits (setG m p v) := by
  unfold Fits
  rw [setG_glen]
  exact h
theorem FL.setW {m : Me} {l : List Int} {q v : Int} (h : FL m l) (h0 : 0 < q) (hq : ∀ p ∈ l, q ≠ lk p) : FL (setW m q v) l := by
  refine ⟨setW_fits h.fits, ?_, h.nodup, h.mem, h.good⟩
  rw [setW_ne (by omega) (by omega) (by omega)]
  refine h.head.same fun p hp => ?_
  have := (h.mem p).1 hp
  have hlk := lk_is p
  exact setW_ne (by omega) (by omega) (hq p hp)
theorem FL.setG {m : Me} {l : List Int} {p v : Int} (h : FL m l) (hp : InN m p) (h1 : nI m.2.1 p ≠ 0) (h2 : v ≠ 0) : FL (setG m p v) l := by
  refine ⟨setG_fits h.fits, h.head, h.nodup, fun q => ?_, h.good⟩
  rw [setG_glen, h.mem q]
  have := hp.1
  by_cases hq : q = p
  · subst hq
    rw [setG_self (by omega) hp.2]
    exact ⟨fun e => absurd e.2.2 h1, fun e => absurd e.2.2 h2⟩
  · constructor
    · rintro ⟨a, b, d⟩; exact ⟨a, b, by rw [setG_ne (by omega) (by omega) (fun e => hq e.symm)]; exact d⟩
    · rintro ⟨a, b, d⟩; rw [setG_ne (by omega) (by omega) (fun e => hq e.symm)] at d; exact ⟨a, b, d⟩
theorem turnM_ok {m : Me} {p to : Int} (hp : InN m p) (h : turnB (nI m.2.1 p) to = true) : turnM m p to = setG m p to := if_pos ⟨hp.1, hp.2, h⟩

theorem setW_same {m : Me} {q v : Int} (h0 : 0 ≤ q) (h1 : q < m.1.length) (h : nI m.1 q = v) : setW m q v = m := by
  unfold setW
  have e : List.set (α := Int) m.1 q.toNat v = m.1 := by
    apply List.ext_getElem?
    intro j
    by_cases hj : q.toNat = j
    · subst hj
      have : q.toNat < m.1.length := by omega
      rw [List.getElem?_set_self this, List.getElem?_eq_getElem this]
      rw [← h]
      show some (List.getD m.1 q.toNat 0) = _
      rw [List.getD_eq_getElem?_getD, List.getElem?_eq_getElem this]; rfl
    · rw [List.getElem?_set_ne hj]
  rw [e]
/-! ### What a step leads to -/
/-- How a node goes from hand to hand by core k's own step. -/
def Way (k : Nat) (x y : Own) : Prop :=
  y = x ∨ x = .free ∧ y = .fresh k ∨ x = .gone k ∧ y = .ret k ∨ x = .ret k ∧ y = .push k 2 ∨ x = .fresh k ∧ y = .push k 1 ∨ (∃ g, x = .push k g) ∧ y = .free
/-- What is told by an op that ends. -/
structure Post (k : Nat) (m : Me) (f : Frm) (m' : Me) (o' : OM) (r' : Rest) : Prop where
  told : f.1 = 1 ∨ f.1 = 7 → Told m' o' k r'
  none : f.1 = 1 → r'.2.1 ≠ 0 → idxI (nI m.1 0) = 0
  prot : f.1 = 3 → r'.1 = nI m.1 f.2.2.1.1 ∧ (idxI r'.1 = 0 ∨ nI m'.1 (slotP k f.2.2.1.2.1) = idxI r'.1)
/-- A frame goes on: as the same op, of the same node or place. -/
def Like (f f' : Frm) : Prop := f'.1 = f.1 ∧ (f.1 ≠ 1 → f'.2.2.1.1 = f.2.2.1.1 ∨ f.1 = 6) ∧ (f.1 = 3 → f'.2.2.1.2.1 = f.2.2.1.2.1)
structure Good (T : Int) (k : Nat) (C : Nat) (m : Me) (o : OM) (F : List Frm) (f : Frm) (r : Rest) (L : Loc) (o' : OM) : Prop where
  chg : Chg k m o L.m o'
  list : ∃ l, FL L.m l
  tag : tagI (nI L.m.1 0) ≤ T + 1
  stat : ∀ p, InN m p → statO (o' p) (nI L.m.2.1 p)
  core : CoreI L.m o' C k (F ++ L.fs, L.r)
  words : ∀ q, 0 < q → q < 128 → (∀ i, 0 ≤ i → i ≤ 2 → q ≠ slotP k i) → nI L.m.1 q = nI m.1 q
  cells : ∀ p j, InN m p → 1 ≤ j → j ≤ 3 → nI L.m.1 (lk p + j) = nI m.1 (lk p + j)
  own : ∀ p, InN m p → Way k (o p) (o' p)
  log : L.ev = [] ∨ L.ev = [((k : Int), 9, 0, 0, 0, ())]
  out : (∃ f', L.fs = [f'] ∧ Like f f' ∧ L.r = r) ∨ (∃ f' g, L.fs = [f', g] ∧ Like f f' ∧ (1 ≤ g.1 ∧ g.1 ≤ 8) ∧ L.r.1 = r.1 ∧ L.r.2.1 = r.2.1) ∨ (L.fs = [] ∧ Post k m f L.m o' L.r)

section
variable {T : Int} {k C : Nat} {m : Me} {o : OM} {F : List Frm} {f f' g : Frm} {r : Rest} {l : List Int}
theorem Chg.refl : Chg k m o m o := ⟨rfl, .inl ⟨rfl, fun _ _ _ => rfl⟩, fun _ _ _ _ _ _ => rfl, fun _ _ _ _ _ _ => rfl, fun _ p _ _ => same_owns p⟩
theorem Keeps.refl (r' : Rest) (h : rtL r' = rtL r) : Keeps k m o r m o r' := ⟨rfl, h, fun _ _ => Iff.rfl⟩
/-- Nothing but frames is changed. -/
theorem good_stay (hl : FL m l) (hT : tagI (nI m.1 0) ≤ T) (hs : ∀ p, InN m p → statO (o p) (nI m.2.1 p)) (hc : CoreI m o C k (F ++ [f], r)) (hk : Like f f') (ht : TopI m o C k r f') (hp : f.1 = 2 → f'.2.2.1.1 = f.2.2.1.1) : Good T k C m o F f r ⟨m, [f'], r, []⟩ o where
  chg := Chg.refl
  list := ⟨l, hl⟩
  tag := by show tagI (nI m.1 0) ≤ T + 1; omega
  stat := hs
  core := hc.set (Keeps.refl r rfl) hk.1 ht fun p x h1 h2 => by
    obtain ⟨F', f2, e, e1, e2⟩ := hc.push p x h1 h2
    have := (List.append_inj' (show F ++ [f] = F' ++ [f2] from e) rfl).2
    rw [List.cons.injEq] at this
    rw [← this.1] at e1 e2
    exact ⟨hk.1.trans e1, (hp e1).trans e2⟩
  words _ _ _ _ := rfl
  cells _ _ _ _ _ := rfl
  own _ _ := .inl rfl
  log := .inl rfl
  out := .inl ⟨f', rfl, hk, rfl⟩
theorem good_call (hl : FL m l) (hT : tagI (nI m.1 0) ≤ T) (hs : ∀ p, InN m p → statO (o p) (nI m.2.1 p)) (hc : CoreI m o C k (F ++ [f], r)) (hk : Like f f') (ht : TopI m o C k r g) (hrm : 1 + room g.1 ≤ room f.1) (hw : WaitI C (rtL r) f' g.1) (h2 : f.1 ≠ 2) (hg : 1 ≤ g.1 ∧ g.1 ≤ 8) : Good T k C m o F f r ⟨m, [f', g], r, []⟩ o where
  chg := Chg.refl
  list := ⟨l, hl⟩
  tag := by show tagI (nI m.1 0) ≤ T + 1; omega
  stat := hs
  core := hc.call (Keeps.refl r rfl) hk.1 ht hrm hw fun p x h1 h3 => absurd h3 (hc.noPush h2 p x h1)
  words _ _ _ _ := rfl
  cells _ _ _ _ _ := rfl
  own _ _ := .inl rfl
  log := .inl rfl
  out := .inr (.inl ⟨f', g, rfl, hk, hg, rfl, rfl⟩)
theorem good_back {r' : Rest} {ev : List Evt} (hl : FL m l) (hT : tagI (nI m.1 0) ≤ T) (hs : ∀ p, InN m p → statO (o p) (nI m.2.1 p)) (hc : CoreI m o C k (F ++ [f], r)) (hr : rtL r' = rtL r) (hpost : Post k m f m o r') (h2 : f.1 ≠ 2) (h6 : f.1 = 6 → (rtL r).length ≤ 3 * C) (hev : ev = [] ∨ ev = [((k : Int), 9, 0, 0, 0, ())]) : Good T k C m o F f r ⟨m, [], r', ev⟩ o where
  chg := Chg.refl
  list := ⟨l, hl⟩
  tag := by show tagI (nI m.1 0) ≤ T + 1; omega
  stat := hs
  core := by
    show CoreI m o C k (F ++ [], r')
    rw [List.append_nil]
    exact hc.back (Keeps.refl r' hr) (fun e => hpost.told (.inl e)) h6 fun p x h1 => hc.noPush h2 p x h1
  words _ _ _ _ := rfl
  cells _ _ _ _ _ := rfl
  own _ _ := .inl rfl
  log := hev
  out := .inr (.inr ⟨rfl, hpost⟩)
end
end Go.Proofs.YtlcjkogdbleboaaGreat.V
