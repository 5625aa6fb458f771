/- The memory's management: who has which node; what is known of each core; what other cores' steps leave. -/
import Derived.Test.YtlcjkogdbleboaaGreatM1
set_option linter.unusedSimpArgs false
set_option linter.unusedVariables false
namespace Go.Proofs.YtlcjkogdbleboaaGreat.V
open Go Go.RowKit Go.Proofs.YtlcjkogdbleboaaGreat.Hz
set_option maxRecDepth 100000

/-- Who has a node. -/
inductive Own where
  | free
  | fresh (c : Nat)
  | shared
  | gone (c : Nat)
  | ret (c : Nat)
  | push (c : Nat) (g : Int)
  deriving DecidableEq
abbrev OM := Int → Own
def statO : Own → Int → Prop
  | .free, g => g = 0
  | .fresh _, g => g = 1
  | .shared, g => g = 1
  | .gone _, g => g = 1
  | .ret _, g => g = 2
  | .push _ x, g => g = x ∧ (x = 1 ∨ x = 2)
/-- A node of the arena. -/
def InN (m : Me) (p : Int) : Prop := 1 ≤ p ∧ p < m.2.1.length
/-- A core's slot. -/
def slotP (c : Nat) (i : Int) : Int := 8 + 3 * c + i
theorem slotP_is (c : Nat) (i : Int) : slotP c i = 8 + 3 * (c : Int) + i := rfl
/-- A word of the list's head, of now or of before. -/
def Stale (m : Me) (w : Int) : Prop := InN m (idxI w) ∧ (w = nI m.1 0 ∨ tagI w < tagI (nI m.1 0))
/-- What an allocation was told. -/
def Told (m : Me) (o : OM) (c : Nat) (r : Rest) : Prop := (r.2.1 = 0 ∧ InN m r.1 ∧ o r.1 = .fresh c) ∨ r.2.1 = 2
def ScanI (C : Nat) (R : Li) (f : Frm) : Prop :=
  (f.2.1 = 0 ∧ 0 ≤ f.2.2.1.1 ∧ f.2.2.1.1 < 3 * C ∧ (f.2.2.2.1.length : Int) ≤ f.2.2.1.1 ∧ f.2.2.1.2.1 = 0) ∨
  (f.2.1 = 1 ∧ f.2.2.1.1 = 3 * C ∧ (f.2.2.2.1.length : Int) ≤ 3 * C ∧ 0 ≤ f.2.2.1.2.1 ∧ f.2.2.1.2.1 ≤ R.length ∧ ∀ p ∈ R.take f.2.2.1.2.1.toNat, p ∈ f.2.2.2.1)
structure TopI (m : Me) (o : OM) (C c : Nat) (r : Rest) (f : Frm) : Prop where
  pop : f.1 = 1 → f.2.1 = 0 ∨ ((f.2.1 = 1 ∨ f.2.1 = 2) ∧ Stale m f.2.2.1.1 ∧ (f.2.1 = 2 → f.2.2.1.1 = nI m.1 0 → f.2.2.1.2.1 = nI m.1 (lk (idxI f.2.2.1.1))))
  push : f.1 = 2 → InN m f.2.2.1.1 ∧ (∃ x, o f.2.2.1.1 = .push c x) ∧ (f.2.1 = 0 ∨ f.2.1 = 1 ∨ f.2.1 = 2 ∧ nI m.1 (lk f.2.2.1.1) = idxI f.2.2.1.2.1)
  prot : f.1 = 3 → (0 ≤ f.2.2.1.1 ∧ f.2.2.1.1 < 124 ∧ 0 ≤ f.2.2.1.2.1 ∧ f.2.2.1.2.1 ≤ 2) ∧ (f.2.1 = 0 ∨ f.2.1 = 1 ∨ f.2.1 = 2 ∧ nI m.1 (slotP c f.2.2.1.2.1) = idxI f.2.2.1.2.2.1)
  clear : f.1 = 4 → 0 ≤ f.2.1 ∧ f.2.1 ≤ 2
  retire : f.1 = 5 → f.2.1 = 1 ∨ f.2.1 = 0 ∧ InN m f.2.2.1.1 ∧ o f.2.2.1.1 = .gone c
  scan : f.1 = 6 → ScanI C (rtL r) f
  alloc : f.1 = 7 → f.2.1 = 0 ∨ f.2.1 = 2 ∨ ((f.2.1 = 1 ∨ f.2.1 = 3) ∧ Told m o c r)
  drop : f.1 = 8 → f.2.1 = 1 ∨ f.2.1 = 0 ∧ InN m f.2.2.1.1 ∧ o f.2.2.1.1 = .fresh c
/-- A frame that waits for one of this op. -/
structure WaitI (C : Nat) (R : Li) (g : Frm) (op : Int) : Prop where
  low : g.1 = 1 ∨ g.1 = 2 ∨ g.1 = 3 ∨ g.1 = 4 → False
  retire : g.1 = 5 → g.2.1 = 1 ∧ op = 6
  scan : g.1 = 6 → op = 2 ∧ g.2.1 = 1 ∧ ScanI C R g
  alloc : g.1 = 7 → (g.2.1 = 1 ∨ g.2.1 = 3) ∧ op = 1 ∨ g.2.1 = 2 ∧ op = 6
  drop : g.1 = 8 → g.2.1 = 1 ∧ op = 2
/-- How many frames may come above. -/
def room (op : Int) : Nat := if op = 7 ∨ op = 5 then 2 else if op = 6 ∨ op = 8 then 1 else 0
def Wt (C : Nat) (R : Li) : Int → List Frm → Prop
  | _, [] => True
  | op, g :: rest => WaitI C R g op ∧ rest.length + 1 + room g.1 ≤ 39 ∧ Wt C R g.1 rest
/-- A core's frames, the last one first. -/
def Stk (m : Me) (o : OM) (C c : Nat) (r : Rest) : List Frm → Prop
  | [] => True
  | f :: rest => TopI m o C c r f ∧ rest.length + 1 + room f.1 ≤ 39 ∧ Wt C (rtL r) f.1 rest
def isScan (f : Frm) : Prop := f.1 = 6
structure CoreI (m : Me) (o : OM) (C c : Nat) (cr : Cor) : Prop where
  st : Stk m o C c cr.2 cr.1.reverse
  nodup : (rtL cr.2).Nodup
  ret : ∀ p, p ∈ rtL cr.2 ↔ InN m p ∧ o p = .ret c
  few : (rtL cr.2).length ≤ 3 * C ∨ (rtL cr.2).length ≤ 3 * C + 1 ∧ ∃ f ∈ cr.1, f.1 = 6
  push : ∀ p x, InN m p → o p = .push c x → ∃ F f, cr.1 = F ++ [f] ∧ f.1 = 2 ∧ f.2.2.1.1 = p
/-- The memory's management is as it should be; T: as many steps at most were done. -/
structure MM (T : Int) (o : OM) (s : Sy) : Prop where
  list : ∃ l, FL s.1 l
  more : 2 ≤ s.1.2.1.length
  cores : 1 ≤ s.2.1.length ∧ s.2.1.length ≤ 8
  tag : tagI (nI s.1.1 0) ≤ T
  stat : ∀ p, InN s.1 p → statO (o p) (nI s.1.2.1 p)
  core : ∀ c : Nat, c < s.2.1.length → CoreI s.1 o s.2.1.length c (cAt s.2.1 c)

/-! ### What others' steps leave -/
structure Chg (k : Nat) (m : Me) (o : OM) (m' : Me) (o' : OM) : Prop where
  glen : m'.2.1.length = m.2.1.length
  head : (nI m'.1 0 = nI m.1 0 ∧ ∀ p, InN m p → nI m.2.1 p = 0 → nI m'.1 (lk p) = nI m.1 (lk p)) ∨ tagI (nI m'.1 0) = tagI (nI m.1 0) + 1
  slots : ∀ (c : Nat) (i : Int), c ≠ k → c < 8 → 0 ≤ i → i ≤ 2 → nI m'.1 (slotP c i) = nI m.1 (slotP c i)
  links : ∀ (c : Nat) (p x : Int), c ≠ k → InN m p → o p = .push c x → nI m'.1 (lk p) = nI m.1 (lk p)
  owns : ∀ (c : Nat) (p : Int), c ≠ k → InN m p → (o' p = .fresh c ↔ o p = .fresh c) ∧ (o' p = .gone c ↔ o p = .gone c) ∧ (o' p = .ret c ↔ o p = .ret c) ∧ ∀ x, (o' p = .push c x ↔ o p = .push c x)
theorem Chg.inN {k : Nat} {m m' : Me} {o o' : OM} (h : Chg k m o m' o') {p : Int} : InN m' p ↔ InN m p := by unfold InN; rw [h.glen]
theorem FL.headIn {m : Me} {l : List Int} (h : FL m l) (h0 : idxI (nI m.1 0) ≠ 0) : InN m (idxI (nI m.1 0)) ∧ nI m.2.1 (idxI (nI m.1 0)) = 0 ∧ ∃ l', l = idxI (nI m.1 0) :: l' := by
  cases l with
  | nil => exact absurd h.head h0
  | cons q l =>
    have e : idxI (nI m.1 0) = q := h.head.1
    have hq := (h.mem q).1 (List.mem_cons_self ..)
    rw [e]
    exact ⟨⟨hq.1, hq.2.1⟩, hq.2.2, l, rfl⟩
section
variable {k c C : Nat} {m m' : Me} {o o' : OM} {r : Rest} {f : Frm} {l : List Int}
theorem Stale.stays {w : Int} (h : Stale m w) (hc : Chg k m o m' o') : Stale m' w := by
  refine ⟨hc.inN.2 h.1, ?_⟩
  rcases hc.head with ⟨e, _⟩ | e
  · rw [e]; exact h.2
  · rw [e]
    rcases h.2 with h | h
    · rw [h]; exact .inr (by omega)
    · exact .inr (by omega)
theorem TopI.stays (h : TopI m o C c r f) (hc : Chg k m o m' o') (hl : FL m l) (hck : c ≠ k) (hc8 : c < 8) : TopI m' o' C c r f where
  pop e := by
    rcases h.pop e with h | ⟨h1, h2, h3⟩
    · exact .inl h
    · refine .inr ⟨h1, h2.stays hc, fun e2 e3 => ?_⟩
      rcases hc.head with ⟨e4, e5⟩ | e4
      · rw [e4] at e3
        rw [h3 e2 e3]
        have hp := h2.1
        have hne : idxI (nI m.1 0) ≠ 0 := by rw [← e3]; have := hp.1; omega
        obtain ⟨q1, q2, _⟩ := hl.headIn hne
        rw [← e3] at q1 q2
        exact (e5 _ q1 q2).symm
      · rw [← e3] at e4
        rcases h2.2 with h | h
        · rw [h] at e4; omega
        · omega
  push e := by
    obtain ⟨h1, ⟨x, h2⟩, h3⟩ := h.push e
    refine ⟨hc.inN.2 h1, ⟨x, ((hc.owns c _ hck h1).2.2.2 x).2 h2⟩, ?_⟩
    rcases h3 with h3 | h3 | ⟨h3, h4⟩
    · exact .inl h3
    · exact .inr (.inl h3)
    · exact .inr (.inr ⟨h3, by rw [hc.links c _ x hck h1 h2]; exact h4⟩)
  prot e := by
    obtain ⟨h1, h2⟩ := h.prot e
    refine ⟨h1, ?_⟩
    rcases h2 with h2 | h2 | ⟨h2, h3⟩
    · exact .inl h2
    · exact .inr (.inl h2)
    · exact .inr (.inr ⟨h2, by rw [hc.slots c _ hck hc8 h1.2.2.1 h1.2.2.2]; exact h3⟩)
  clear := h.clear
  retire e := (h.retire e).imp id fun ⟨h1, h2, h3⟩ => ⟨h1, hc.inN.2 h2, (hc.owns c _ hck h2).2.1.2 h3⟩
  scan := h.scan
  alloc e := (h.alloc e).imp id fun h => h.imp id fun ⟨h1, h2⟩ => ⟨h1, h2.imp (fun ⟨a, b, d⟩ => ⟨a, hc.inN.2 b, (hc.owns c _ hck b).1.2 d⟩) id⟩
  drop e := (h.drop e).imp id fun ⟨h1, h2, h3⟩ => ⟨h1, hc.inN.2 h2, (hc.owns c _ hck h2).1.2 h3⟩
theorem CoreI.stays {cr : Cor} (h : CoreI m o C c cr) (hc : Chg k m o m' o') (hl : FL m l) (hck : c ≠ k) (hc8 : c < 8) : CoreI m' o' C c cr where
  st := by
    have := h.st
    cases hr : cr.1.reverse with
    | nil => trivial
    | cons f rest =>
      rw [hr] at this
      exact ⟨this.1.stays hc hl hck hc8, this.2⟩
  nodup := h.nodup
  ret p := by
    rw [h.ret p, hc.inN]
    constructor
    · rintro ⟨a, b⟩; exact ⟨a, ((hc.owns c p hck a).2.2.1).2 b⟩
    · rintro ⟨a, b⟩; exact ⟨a, ((hc.owns c p hck a).2.2.1).1 b⟩
  few := h.few
  push p x hp hx := h.push p x (hc.inN.1 hp) (((hc.owns c p hck (hc.inN.1 hp)).2.2.2 x).1 hx)
end
/-- A step of core k: all is as it should be behind it. -/
theorem MM.into {T : Int} {o o' : OM} {s : Sy} {k : Nat} {L : Loc} {F : List Frm} {T' : Int} (h : MM T o s) (hk : k < s.2.1.length) (hc : Chg k s.1 o L.m o') (hl : ∃ l, FL L.m l) (ht : tagI (nI L.m.1 0) ≤ T')
    (hst : ∀ p, InN s.1 p → statO (o' p) (nI L.m.2.1 p)) (hcore : CoreI L.m o' s.2.1.length k (F ++ L.fs, L.r)) : MM T' o' (L.into s k F) := by
  have hlen : (L.into s k F).2.1.length = s.2.1.length := List.length_set
  obtain ⟨l, hfl⟩ := h.list
  refine ⟨hl, by show 2 ≤ L.m.2.1.length; rw [hc.glen]; exact h.more, by rw [hlen]; exact h.cores, ht, fun p hp => hst p (hc.inN.1 hp), fun c hcl => ?_⟩
  rw [hlen] at hcl ⊢
  by_cases hck : c = k
  · subst hck
    have e : cAt (L.into s c F).2.1 c = (F ++ L.fs, L.r) := getD_set (by omega)
    rw [e]; exact hcore
  · have e : cAt (L.into s k F).2.1 c = cAt s.2.1 c := by
      show List.getD (List.set (α := Cor) s.2.1 (k : Int).toNat _) (c : Int).toNat _ = List.getD s.2.1 (c : Int).toNat _
      rw [List.getD_eq_getElem?_getD, List.getD_eq_getElem?_getD, List.getElem?_set_ne (by omega)]
    rw [e]
    exact (h.core c hcl).stays hc hfl hck (by have := h.cores; omega)
end Go.Proofs.YtlcjkogdbleboaaGreat.V
