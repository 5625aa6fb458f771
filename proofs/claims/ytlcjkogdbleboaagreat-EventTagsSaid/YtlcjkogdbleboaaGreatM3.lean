/- The memory's management: frames, step by step. -/
import Derived.Test.YtlcjkogdbleboaaGreatM2
set_option linter.unusedSimpArgs false
set_option linter.unusedVariables false
namespace Go.Proofs.YtlcjkogdbleboaaGreat.V
open Go Go.RowKit Go.Proofs.YtlcjkogdbleboaaGreat.Hz
set_option maxRecDepth 100000

theorem nope {P : Prop} {a b : Int} (e : a = b) (h : decide (a = b) = false) : P := absurd e (of_decide_eq_false h)
/-! ### Who has what, but one -/
def upd (o : OM) (p : Int) (x : Own) : OM := fun q => if q = p then x else o q
theorem upd_self {o : OM} {p : Int} {x : Own} : upd o p x p = x := if_pos rfl
theorem upd_ne {o : OM} {p q : Int} {x : Own} (h : q ≠ p) : upd o p x q = o q := if_neg h
/-- It isn't another core's. -/
def Mine (k : Nat) : Own → Prop
  | .free => True
  | .shared => True
  | .fresh c => c = k
  | .gone c => c = k
  | .ret c => c = k
  | .push c _ => c = k
theorem Mine.not {k c : Nat} {x : Own} (h : Mine k x) (hc : c ≠ k) : x ≠ .fresh c ∧ x ≠ .gone c ∧ x ≠ .ret c ∧ ∀ g, x ≠ .push c g := by
  refine ⟨fun e => ?_, fun e => ?_, fun e => ?_, fun g e => ?_⟩ <;> (subst e; exact hc h)
theorem upd_owns {k c : Nat} {o : OM} {p : Int} {x : Own} (h1 : Mine k (o p)) (h2 : Mine k x) (hc : c ≠ k) (q : Int) :
    (upd o p x q = .fresh c ↔ o q = .fresh c) ∧ (upd o p x q = .gone c ↔ o q = .gone c) ∧ (upd o p x q = .ret c ↔ o q = .ret c) ∧ ∀ g, (upd o p x q = .push c g ↔ o q = .push c g) := by
  by_cases hq : q = p
  · subst hq
    rw [upd_self]
    have a := h1.not hc
    have b := h2.not hc
    exact ⟨⟨fun e => absurd e b.1, fun e => absurd e a.1⟩, ⟨fun e => absurd e b.2.1, fun e => absurd e a.2.1⟩, ⟨fun e => absurd e b.2.2.1, fun e => absurd e a.2.2.1⟩, fun g => ⟨fun e => absurd e (b.2.2.2 g), fun e => absurd e (a.2.2.2 g)⟩⟩
  · rw [upd_ne hq]
    exact ⟨Iff.rfl, Iff.rfl, Iff.rfl, fun _ => Iff.rfl⟩
theorem same_owns {c : Nat} {o : OM} (q : Int) : (o q = .fresh c ↔ o q = .fresh c) ∧ (o q = .gone c ↔ o q = .gone c) ∧ (o q = .ret c ↔ o q = .ret c) ∧ ∀ g, (o q = .push c g ↔ o q = .push c g) := ⟨Iff.rfl, Iff.rfl, Iff.rfl, fun _ => Iff.rfl⟩

section
variable {c C : Nat} {m : Me} {o : OM} {r : Rest} {f : Frm}
theorem topPop (e : f.1 = 1) (h : f.2.1 = 0 ∨ ((f.2.1 = 1 ∨ f.2.1 = 2) ∧ Stale m f.2.2.1.1 ∧ (f.2.1 = 2 → f.2.2.1.1 = nI m.1 0 → f.2.2.1.2.1 = nI m.1 (lk (idxI f.2.2.1.1))))) : TopI m o C c r f := by
  constructor <;> intro e2 <;> first | exact h | exact absurd (e.symm.trans e2) (by decide)
theorem topPush (e : f.1 = 2) (h : InN m f.2.2.1.1 ∧ (∃ x, o f.2.2.1.1 = .push c x) ∧ (f.2.1 = 0 ∨ f.2.1 = 1 ∨ f.2.1 = 2 ∧ nI m.1 (lk f.2.2.1.1) = idxI f.2.2.1.2.1)) : TopI m o C c r f := by
  constructor <;> intro e2 <;> first | exact h | exact absurd (e.symm.trans e2) (by decide)
theorem topProt (e : f.1 = 3) (h : (0 ≤ f.2.2.1.1 ∧ f.2.2.1.1 < 124 ∧ 0 ≤ f.2.2.1.2.1 ∧ f.2.2.1.2.1 ≤ 2) ∧ (f.2.1 = 0 ∨ f.2.1 = 1 ∨ f.2.1 = 2 ∧ nI m.1 (slotP c f.2.2.1.2.1) = idxI f.2.2.1.2.2.1)) : TopI m o C c r f := by
  constructor <;> intro e2 <;> first | exact h | exact absurd (e.symm.trans e2) (by decide)
theorem topClear (e : f.1 = 4) (h : 0 ≤ f.2.1 ∧ f.2.1 ≤ 2) : TopI m o C c r f := by
  constructor <;> intro e2 <;> first | exact h | exact absurd (e.symm.trans e2) (by decide)
theorem topRetire (e : f.1 = 5) (h : f.2.1 = 1 ∨ f.2.1 = 0 ∧ InN m f.2.2.1.1 ∧ o f.2.2.1.1 = .gone c) : TopI m o C c r f := by
  constructor <;> intro e2 <;> first | exact h | exact absurd (e.symm.trans e2) (by decide)
theorem topScan (e : f.1 = 6) (h : ScanI C (rtL r) f) : TopI m o C c r f := by
  constructor <;> intro e2 <;> first | exact h | exact absurd (e.symm.trans e2) (by decide)
theorem topAlloc (e : f.1 = 7) (h : f.2.1 = 0 ∨ f.2.1 = 2 ∨ ((f.2.1 = 1 ∨ f.2.1 = 3) ∧ Told m o c r)) : TopI m o C c r f := by
  constructor <;> intro e2 <;> first | exact h | exact absurd (e.symm.trans e2) (by decide)
theorem topDrop (e : f.1 = 8) (h : f.2.1 = 1 ∨ f.2.1 = 0 ∧ InN m f.2.2.1.1 ∧ o f.2.2.1.1 = .fresh c) : TopI m o C c r f := by
  constructor <;> intro e2 <;> first | exact h | exact absurd (e.symm.trans e2) (by decide)
end

/-! ### Frames -/
theorem Wt.indep {C : Nat} {R R' : Li} : ∀ {op : Int} {l : List Frm}, op ≠ 1 → op ≠ 2 → op ≠ 6 → Wt C R op l → Wt C R' op l
  | _, [], _, _, _, _ => trivial
  | op, g :: rest, h1, h2, h6, h => by
    have n5 : g.1 ≠ 5 := fun e => h6 (h.1.retire e).2
    have n6 : g.1 ≠ 6 := fun e => h2 (h.1.scan e).1
    have n7 : g.1 ≠ 7 := fun e => (h.1.alloc e).elim (fun a => h1 a.2) fun a => h6 a.2
    have n8 : g.1 ≠ 8 := fun e => h2 (h.1.drop e).2
    have n1 : g.1 ≠ 1 := fun e => h.1.low (.inl e)
    have n2 : g.1 ≠ 2 := fun e => h.1.low (.inr (.inl e))
    exact ⟨⟨h.1.low, fun e => absurd e n5, fun e => absurd e n6, fun e => absurd e n7, fun e => absurd e n8⟩, h.2.1, Wt.indep n1 n2 n6 h.2.2⟩
theorem Wt.scan {C : Nat} {R R' : Li} : ∀ {l : List Frm}, Wt C R 6 l → Wt C R' 6 l
  | [], _ => trivial
  | g :: rest, h => by
    have n6 : g.1 ≠ 6 := fun e => absurd (h.1.scan e).1 (by decide)
    have n1 : g.1 ≠ 1 := fun e => h.1.low (.inl e)
    have n2 : g.1 ≠ 2 := fun e => h.1.low (.inr (.inl e))
    exact ⟨⟨h.1.low, h.1.retire, fun e => absurd e n6, h.1.alloc, h.1.drop⟩, h.2.1, Wt.indep n1 n2 n6 h.2.2⟩
section
variable {k c C : Nat} {m m' : Me} {o o' : OM} {r r' : Rest} {f f' g : Frm} {rest : List Frm}
theorem WaitI.top {op : Int} (h : WaitI C (rtL r') g op) (ht : op = 1 → Told m' o' c r') : TopI m' o' C c r' g where
  pop e := (h.low (.inl e)).elim
  push e := (h.low (.inr (.inl e))).elim
  prot e := (h.low (.inr (.inr (.inl e)))).elim
  clear e := (h.low (.inr (.inr (.inr e)))).elim
  retire e := .inl (h.retire e).1
  scan e := (h.scan e).2.2
  alloc e := by
    rcases h.alloc e with ⟨a, b⟩ | ⟨a, _⟩
    · exact .inr (.inr ⟨a, ht b⟩)
    · exact .inr (.inl a)
  drop e := .inl (h.drop e).1
theorem Stk.set (h : Stk m o C c r (f :: rest)) (ht : TopI m' o' C c r' f') (he : f'.1 = f.1) (hR : rtL r' = rtL r) : Stk m' o' C c r' (f' :: rest) :=
  ⟨ht, by rw [he]; exact h.2.1, by rw [he, hR]; exact h.2.2⟩
theorem Stk.call (h : Stk m o C c r (f :: rest)) (ht : TopI m' o' C c r' g) (he : f'.1 = f.1) (hrm : 1 + room g.1 ≤ room f.1) (hw : WaitI C (rtL r') f' g.1) (hWt : Wt C (rtL r') f.1 rest) : Stk m' o' C c r' (g :: f' :: rest) :=
  ⟨ht, by have := h.2.1; show rest.length + 1 + 1 + room g.1 ≤ 39; omega, hw, by rw [he]; exact h.2.1, by rw [he]; exact hWt⟩
theorem Stk.back (h : Wt C (rtL r') f.1 rest) (ht : f.1 = 1 → Told m' o' c r') : Stk m' o' C c r' rest := by
  cases rest with
  | nil => trivial
  | cons g rest => exact ⟨h.1.top ht, h.2.1, h.2.2⟩
end
theorem rev_one {F : List Frm} {f : Frm} : (F ++ [f]).reverse = f :: F.reverse := by simp
theorem rev_two {F : List Frm} {f g : Frm} : (F ++ [f, g]).reverse = g :: f :: F.reverse := by simp
section
variable {k C : Nat} {m m' : Me} {o o' : OM} {r r' : Rest} {f f' g : Frm} {F : List Frm}
/-- What a core's own steps keep of what it is. -/
structure Keeps (k : Nat) (m : Me) (o : OM) (r : Rest) (m' : Me) (o' : OM) (r' : Rest) : Prop where
  glen : m'.2.1.length = m.2.1.length
  ret : rtL r' = rtL r
  own : ∀ p, InN m p → (o' p = .ret k ↔ o p = .ret k)
theorem CoreI.ret' (h : CoreI m o C k (F ++ [f], r)) (hk : Keeps k m o r m' o' r') : ∀ p, p ∈ rtL r' ↔ InN m' p ∧ o' p = .ret k := fun p => by
  rw [hk.ret, h.ret p]
  unfold InN
  rw [hk.glen]
  exact ⟨fun ⟨a, b⟩ => ⟨a, (hk.own p a).2 b⟩, fun ⟨a, b⟩ => ⟨a, (hk.own p a).1 b⟩⟩
theorem CoreI.noPush (h : CoreI m o C k (F ++ [f], r)) (h2 : f.1 ≠ 2) : ∀ p x, InN m p → o p ≠ .push k x := fun p x hp hx => by
  obtain ⟨F', f', e, e1, _⟩ := h.push p x hp hx
  have e : F ++ [f] = F' ++ [f'] := e
  have := (List.append_inj' e rfl).2
  rw [List.cons.injEq] at this
  rw [this.1] at h2
  exact h2 e1
/-- The last frame goes on. -/
theorem CoreI.set (h : CoreI m o C k (F ++ [f], r)) (hk : Keeps k m o r m' o' r') (he : f'.1 = f.1) (ht : TopI m' o' C k r' f') (hp : ∀ p x, InN m p → o' p = .push k x → f'.1 = 2 ∧ f'.2.2.1.1 = p) : CoreI m' o' C k (F ++ [f'], r') where
  st := by
    have := h.st
    rw [rev_one] at this ⊢
    exact this.set ht he hk.ret
  nodup := by show (rtL r').Nodup; rw [hk.ret]; exact h.nodup
  ret := h.ret' hk
  few := by
    show (rtL r').length ≤ _ ∨ _
    rw [hk.ret]
    refine h.few.imp id fun ⟨a, b, hb, e⟩ => ⟨a, ?_⟩
    rcases List.mem_append.1 hb with hb | hb
    · exact ⟨b, List.mem_append_left _ hb, e⟩
    · rw [List.mem_singleton] at hb
      exact ⟨f', List.mem_append_right _ (List.mem_singleton.2 rfl), by rw [he, ← hb]; exact e⟩
  push p x h1 h2 := by
    have hg : InN m p := by unfold InN at h1 ⊢; rw [hk.glen] at h1; exact h1
    have := hp p x hg h2
    exact ⟨F, f', rfl, this.1, this.2⟩
/-- The last frame calls. -/
theorem CoreI.call (h : CoreI m o C k (F ++ [f], r)) (hk : Keeps k m o r m' o' r') (he : f'.1 = f.1) (ht : TopI m' o' C k r' g) (hrm : 1 + room g.1 ≤ room f.1) (hw : WaitI C (rtL r') f' g.1) (hp : ∀ p x, InN m p → o' p = .push k x → g.1 = 2 ∧ g.2.2.1.1 = p) : CoreI m' o' C k (F ++ [f', g], r') where
  st := by
    have := h.st
    rw [rev_one] at this
    rw [rev_two]
    exact this.call ht he hrm hw (by rw [hk.ret]; exact this.2.2)
  nodup := by show (rtL r').Nodup; rw [hk.ret]; exact h.nodup
  ret := h.ret' hk
  few := by
    show (rtL r').length ≤ _ ∨ _
    rw [hk.ret]
    refine h.few.imp id fun ⟨a, b, hb, e⟩ => ⟨a, ?_⟩
    rcases List.mem_append.1 hb with hb | hb
    · exact ⟨b, List.mem_append_left _ hb, e⟩
    · rw [List.mem_singleton] at hb
      exact ⟨f', List.mem_append_right _ (by simp), by rw [he, ← hb]; exact e⟩
  push p x h1 h2 := by
    have hg : InN m p := by unfold InN at h1 ⊢; rw [hk.glen] at h1; exact h1
    have := hp p x hg h2
    exact ⟨F ++ [f'], g, by simp, this.1, this.2⟩
/-- The last frame ends. -/
theorem CoreI.back (h : CoreI m o C k (F ++ [f], r)) (hk : Keeps k m o r m' o' r') (ht : f.1 = 1 → Told m' o' k r') (hf : f.1 = 6 → (rtL r).length ≤ 3 * C) (hp : ∀ p x, InN m p → o' p ≠ .push k x) : CoreI m' o' C k (F, r') where
  st := by
    have := h.st
    rw [rev_one] at this
    exact Stk.back (by rw [hk.ret]; exact this.2.2) ht
  nodup := by show (rtL r').Nodup; rw [hk.ret]; exact h.nodup
  ret := h.ret' hk
  few := by
    show (rtL r').length ≤ _ ∨ _
    rw [hk.ret]
    by_cases h6 : f.1 = 6
    · exact .inl (hf h6)
    refine h.few.imp id fun ⟨a, b, hb, e⟩ => ⟨a, ?_⟩
    rcases List.mem_append.1 hb with hb | hb
    · exact ⟨b, hb, e⟩
    · rw [List.mem_singleton] at hb
      rw [hb] at e
      exact absurd e h6
  push p x h1 h2 := by
    have hg : InN m p := by unfold InN at h1 ⊢; rw [hk.glen] at h1; exact h1
    exact absurd h2 (hp p x hg)
end
end Go.Proofs.YtlcjkogdbleboaaGreat.V
