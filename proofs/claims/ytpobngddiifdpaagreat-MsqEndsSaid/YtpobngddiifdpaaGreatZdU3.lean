/- A core alone ends what it is at. -/
import Derived.Test.YtpobngddiifdpaaGreatZdU2
import Derived.Test.YtpobngddiifdpaaGreatZdT4
set_option linter.unusedSimpArgs false
set_option linter.unusedVariables false
namespace Go.Proofs.YtpobngddiifdpaaGreat.V
open Go Go.RowKit Go.Proofs.YtpobngddiifdpaaGreat.Hz
set_option maxRecDepth 100000

section
variable {C k n n' : Nat} {m m' : Me} {o : OM} {r : Rest} {R : Li}
/-- As Wt, of a part of the frames. -/
def Wq (C : Nat) (R : Li) : Int → List Frm → Prop
  | _, [] => True
  | op, g :: rest => WaitI C R g op ∧ Wq C R g.1 rest
theorem Wt.pre : ∀ {op : Int} {l l2 : List Frm}, Wt C R op (l ++ l2) → Wq C R op l
  | _, [], _, _ => trivial
  | _, _ :: _, _, h => ⟨h.1, Wt.pre h.2.2⟩
/-- Nothing waits for these ops but what is above the memory's management. -/
theorem Wq.none {op : Int} {l : List Frm} (h : Wq C R op l) (hl : ∀ g ∈ l, 1 ≤ g.1 ∧ g.1 ≤ 8) (hop : op = 3 ∨ op = 4 ∨ op = 5 ∨ op = 7 ∨ op = 8) : l = [] := by
  cases l with
  | nil => rfl
  | cons g l =>
    exfalso
    have hw := h.1
    have hg := hl g (List.mem_cons_self ..)
    have key : ∀ x : Int, 1 ≤ x ∧ x ≤ 8 → x = 1 ∨ x = 2 ∨ x = 3 ∨ x = 4 ∨ x = 5 ∨ x = 6 ∨ x = 7 ∨ x = 8 := fun x hx => by omega
    rcases key g.1 hg with e | e | e | e | e | e | e | e
    · exact hw.low (.inl e)
    · exact hw.low (.inr (.inl e))
    · exact hw.low (.inr (.inr (.inl e)))
    · exact hw.low (.inr (.inr (.inr e)))
    · have := (hw.retire e).2; omega
    · have := (hw.scan e).1; omega
    · rcases hw.alloc e with ⟨_, h2⟩ | ⟨_, h2⟩ <;> omega
    · have := (hw.drop e).2; omega
/-- The frames that wait cost the same behind a step, and little. -/
theorem Wq.same : ∀ {op : Int} {l : List Frm}, Wq C R op l → (∀ g ∈ l, 1 ≤ g.1 ∧ g.1 ≤ 8) → (op = 1 ∨ op = 2 → n' = n) → costs C m' n' l = costs C m n l ∧ costs C m n l ≤ 3 * C + 4 * n + 8
  | _, [], _, _, _ => ⟨rfl, Nat.zero_le _⟩
  | op, g :: l, h, hl, hn => by
    have hw := h.1
    have hg := hl g (List.mem_cons_self ..)
    have hl2 : ∀ x ∈ l, 1 ≤ x.1 ∧ x.1 ≤ 8 := fun x hx => hl x (List.mem_cons_of_mem _ hx)
    have hcons : ∀ (m : Me) (n : Nat), costs C m n (g :: l) = costM C m n g + costs C m n l := fun _ _ => rfl
    have key : ∀ x : Int, 1 ≤ x ∧ x ≤ 8 → x = 1 ∨ x = 2 ∨ x = 3 ∨ x = 4 ∨ x = 5 ∨ x = 6 ∨ x = 7 ∨ x = 8 := fun x hx => by omega
    rw [hcons, hcons]
    obtain ⟨o1, pc, g1, gl, u⟩ := g
    obtain rfl : u = () := rfl
    rcases key o1 hg with e | e | e | e | e | e | e | e <;> subst e
    · exact (hw.low (.inl rfl)).elim
    · exact (hw.low (.inr (.inl rfl))).elim
    · exact (hw.low (.inr (.inr (.inl rfl)))).elim
    · exact (hw.low (.inr (.inr (.inr rfl)))).elim
    · have e := (hw.retire rfl).1
      have e : pc = 1 := e
      obtain rfl := Wq.none h.2 hl2 (.inr (.inr (.inl rfl)))
      rw [cost5, cost5, if_pos e, if_pos e, costs_nil, costs_nil]
      exact ⟨rfl, by omega⟩
    · obtain ⟨e1, e, _⟩ := hw.scan rfl
      have e : pc = 1 := e
      obtain ⟨a, b⟩ := Wq.same h.2 hl2 (fun e => by rcases e with e | e <;> exact nope (show (6 : Int) = _ from e) rfl)
      have hnn := hn (.inr e1)
      subst hnn
      have hl3 : l = [] ∨ ∃ x, l = [x] ∧ costM C m n' x ≤ 5 := by
        cases l with
        | nil => exact .inl rfl
        | cons x l =>
          right
          have hx := h.2.1
          have hx8 := hl2 x (List.mem_cons_self ..)
          have hl4 : ∀ y ∈ l, 1 ≤ y.1 ∧ y.1 ≤ 8 := fun y hy => hl2 y (List.mem_cons_of_mem _ hy)
          obtain ⟨o2, pc2, g2, gl2, u⟩ := x
          obtain rfl : u = () := rfl
          rcases key o2 hx8 with e | e | e | e | e | e | e | e <;> subst e
          · exact (hx.low (.inl rfl)).elim
          · exact (hx.low (.inr (.inl rfl))).elim
          · exact (hx.low (.inr (.inr (.inl rfl)))).elim
          · exact (hx.low (.inr (.inr (.inr rfl)))).elim
          · obtain rfl := Wq.none h.2.2 hl4 (.inr (.inr (.inl rfl)))
            exact ⟨_, rfl, by rw [cost5, if_pos (show pc2 = 1 from (hx.retire rfl).1)]; decide⟩
          · exact nope (show (6 : Int) = 2 from (hx.scan rfl).1) rfl
          · obtain rfl := Wq.none h.2.2 hl4 (.inr (.inr (.inr (.inl rfl))))
            rcases hx.alloc rfl with ⟨_, h2⟩ | ⟨h2, _⟩
            · exact nope (show (6 : Int) = 1 from h2) rfl
            · have h2 : pc2 = 2 := h2
              exact ⟨_, rfl, by rw [cost7, h2]; exact Nat.le_refl 5⟩
          · exact nope (show (6 : Int) = 2 from (hx.drop rfl).2) rfl
      rw [cost6, cost6, e, if_neg (by decide), a]
      refine ⟨rfl, ?_⟩
      rcases hl3 with e2 | ⟨x, e2, e3⟩
      · rw [e2, costs_nil]; omega
      · rw [e2, costs_one]; omega
    · obtain rfl := Wq.none h.2 hl2 (.inr (.inr (.inr (.inl rfl))))
      rw [cost7, cost7, costs_nil, costs_nil]
      rcases hw.alloc rfl with ⟨e, h2⟩ | ⟨e, h2⟩
      · have hnn := hn (.inl h2)
        subst hnn
        refine ⟨rfl, ?_⟩
        have e : pc = 1 ∨ pc = 3 := e
        rcases e with e | e <;> subst e
        · rw [if_neg (by decide), if_pos rfl]; omega
        · rw [if_neg (by decide), if_neg (by decide), if_neg (by decide)]; omega
      · have e : pc = 2 := e
        subst e
        exact ⟨rfl, by show 5 + 0 ≤ _; omega⟩
    · obtain rfl := Wq.none h.2 hl2 (.inr (.inr (.inr (.inr rfl))))
      have e : pc = 1 := (hw.drop rfl).1
      rw [cost8, cost8, e, if_neg (by decide), costs_nil, costs_nil]
      exact ⟨rfl, by omega⟩
theorem costs_rev {l : List Frm} : costs C m n l.reverse = costs C m n l := by
  unfold costs
  rw [List.map_reverse]
  exact List.sum_reverse _
theorem lMM_rt {f : Frm} (h5 : f.1 ≠ 5) (h6 : f.1 ≠ 6) : rtL (lMM C k m f r).r = rtL r := by
  unfold lMM
  split
  · unfold lPop; repeat' split
    all_goals rfl
  split
  · unfold lPush; repeat' split
    all_goals rfl
  split
  · unfold lProt; repeat' split
    all_goals rfl
  split
  · unfold lClear; repeat' split
    all_goals rfl
  split
  · unfold lAlloc; repeat' split
    all_goals rfl
  · unfold lDrop; repeat' split
    all_goals rfl
end
theorem costWait9 {C n : Nat} {m : Me} {f : Frm} (h : f.1 = 9) : costWait C m n f = (if f.2.1 = 1 then 13 + 7 * lagN m f.2.2.1.1 else 5 + 7 * lagN m f.2.2.1.1) := if_pos h
theorem costWait10 {C n : Nat} {m : Me} {f : Frm} (h : f.1 = 10) : costWait C m n f = (if f.2.1 = 1 then 3 * C + 4 * n + 17 + 8 * lagN m f.2.2.1.1 else 2) := if_neg (fun e => nope (h.symm.trans e) rfl)
section
variable {T : Int} {o : OM} {s : Sy} {N : NQ} {k : Nat}
/-- The frames of a core whose last one is of the memory's management. -/
theorem MsI.shape {F : List Frm} {f : Frm} {r : Rest} (h : MsI T o s N) (hk : k < s.2.1.length) (hc : cAt s.2.1 k = (F ++ [f], r)) (h8 : 1 ≤ f.1 ∧ f.1 ≤ 8) : ∃ f0 U', F = f0 :: U' ∧ (∀ g ∈ U', 1 ≤ g.1 ∧ g.1 ≤ 8) ∧ (f.1 = 3 → ∀ i : Int, 0 ≤ i → i ≤ 2 → f.2.2.1.1 ≠ slotP k i) ∧ IsQ f0.2.2.1.1 ∧ ((f0.1 = 9 ∧ f0.2.1 = 1) ∨ (f0.1 = 9 ∧ f0.2.1 = 6 ∧ isProt f (tlP f0.2.2.1.1)) ∨ (f0.1 = 10 ∧ f0.2.1 = 1 ∧ isProt f (hdP f0.2.2.1.1)) ∨ (f0.1 = 10 ∧ f0.2.1 = 9)) := by
  have hC := h.mm.cores
  have hco := h.core k hk
  have hcr := h.mm.core k hk
  rw [hc] at hcr hco
  have hst := hcr.st
  cases hco with
  | idle e => exact absurd e (by simp)
  | @enq pc q v n t w r3 l U e' hq hU hI =>
    have hU0 : U ≠ [] := fun e2 => by
      subst e2
      obtain ⟨_, e3⟩ := one_of e'
      rw [e3] at h8; exact absurd h8.2 (by show ¬ (9 : Int) ≤ 8; decide)
    obtain ⟨U', e1, e2⟩ := snoc_of e' hU0
    refine ⟨_, U', e1, fun g hg2 => hU g (by rw [e2]; exact List.mem_append_left _ hg2), fun h3 i i0 i1 e4 => ?_, hq, ?_⟩
    rotate_left
    · cases hI with
      | p1a hp _ => exact .inl ⟨rfl, hp⟩
      | p6a hp u =>
        obtain ⟨g, u1, u3⟩ := u
        rw [e2] at u1
        obtain ⟨_, e5⟩ := one_of u1
        exact .inr (.inl ⟨rfl, hp, by rw [e5]; exact u3⟩)
      | p0 _ u => exact absurd u hU0
      | p1 _ u => exact absurd u hU0
      | p25 _ u => exact absurd u hU0
      | p6 _ u => exact absurd u hU0
      | p7 _ u => exact absurd u hU0
      | p8 _ u => exact absurd u hU0
      | p9 _ u => exact absurd u hU0
      | p10 _ u => exact absurd u hU0
      | p11 _ u => exact absurd u hU0
    have hsl := slotP_is k i
    have hsp := sp_lt hq
    cases hI with
    | p1a _ u =>
      obtain ⟨g, rest, u1, u2⟩ := u
      obtain rfl : U' = [] := by
        have hw : Wt s.2.1.length (rtL r) f.1 ((((9 : Int), pc, (q, v, n, t, w, r3), l, ()) :: U').reverse) := by
          rw [e1, rev_one] at hst; exact hst.2.2
        rw [List.reverse_cons] at hw
        exact List.reverse_eq_nil_iff.1 (hw.pre.none (fun g hg2 => hU g (by rw [e2]; exact List.mem_append_left _ (List.mem_reverse.1 hg2))) (.inl h3))
      rw [e2] at u1
      have := (List.cons.inj (show [f] = g :: rest from u1)).1
      rw [← this, h3] at u2
      exact nope (show (3 : Int) = 7 from u2) rfl
    | p6a _ u =>
      obtain ⟨g, u1, _, u3, _⟩ := u
      rw [e2] at u1
      obtain ⟨_, e5⟩ := one_of u1
      rw [← e5] at u3
      rw [u3] at e4
      have e6 : tlP q = slotP k i := e4
      omega
    | p0 _ u => exact hU0 u
    | p1 _ u => exact hU0 u
    | p25 _ u => exact hU0 u
    | p6 _ u => exact hU0 u
    | p7 _ u => exact hU0 u
    | p8 _ u => exact hU0 u
    | p9 _ u => exact hU0 u
    | p10 _ u => exact hU0 u
    | p11 _ u => exact hU0 u
  | @deq pc q v hh t w x e2' y l U e' hq hU hI =>
    have hU0 : U ≠ [] := fun e2 => by
      subst e2
      obtain ⟨_, e3⟩ := one_of e'
      rw [e3] at h8; exact absurd h8.2 (by show ¬ (10 : Int) ≤ 8; decide)
    obtain ⟨U', e1, e2⟩ := snoc_of e' hU0
    refine ⟨_, U', e1, fun g hg2 => hU g (by rw [e2]; exact List.mem_append_left _ hg2), fun h3 i i0 i1 e4 => ?_, hq, ?_⟩
    rotate_left
    · cases hI with
      | p9a hp _ => exact .inr (.inr (.inr ⟨rfl, hp⟩))
      | p1a hp u =>
        obtain ⟨g, u1, u3⟩ := u
        rw [e2] at u1
        obtain ⟨_, e5⟩ := one_of u1
        exact .inr (.inr (.inl ⟨rfl, hp, by rw [e5]; exact u3⟩))
      | p0 _ u => exact absurd u hU0
      | p1 _ u => exact absurd u hU0
      | p2 _ u => exact absurd u hU0
      | p3 _ u => exact absurd u hU0
      | p4 _ u => exact absurd u hU0
      | p58 _ u => exact absurd u hU0
      | p9 _ u => exact absurd u hU0
      | p10 _ u => exact absurd u hU0
    have hsl := slotP_is k i
    have hsp := sp_lt hq
    cases hI with
    | p9a _ u =>
      obtain ⟨g, rest, u1, u2⟩ := u
      obtain rfl : U' = [] := by
        have hw : Wt s.2.1.length (rtL r) f.1 ((((10 : Int), pc, (q, v, hh, t, w, x, e2', y, ()), l, ()) :: U').reverse) := by
          rw [e1, rev_one] at hst; exact hst.2.2
        rw [List.reverse_cons] at hw
        exact List.reverse_eq_nil_iff.1 (hw.pre.none (fun g hg2 => hU g (by rw [e2]; exact List.mem_append_left _ (List.mem_reverse.1 hg2))) (.inl h3))
      rw [e2] at u1
      have := (List.cons.inj (show [f] = g :: rest from u1)).1
      rw [← this, h3] at u2
      exact nope (show (3 : Int) = 5 from u2) rfl
    | p1a _ u =>
      obtain ⟨g, u1, _, u3, _⟩ := u
      rw [e2] at u1
      obtain ⟨_, e5⟩ := one_of u1
      rw [← e5] at u3
      rw [u3] at e4
      have e6 : hdP q = slotP k i := e4
      omega
    | p0 _ u => exact hU0 u
    | p1 _ u => exact hU0 u
    | p2 _ u => exact hU0 u
    | p3 _ u => exact hU0 u
    | p4 _ u => exact hU0 u
    | p58 _ u => exact hU0 u
    | p9 _ u => exact hU0 u
    | p10 _ u => exact hU0 u
/-- A step of a core brings it nearer to its end. -/
theorem MqI.less (h : MqI T o s N) (hT : T < 1000000000) (hk : k < s.2.1.length) (hb : (cAt s.2.1 k).1 ≠ []) : costC s.2.1.length (msqS s k).1 (cAt (msqS s k).2.1 k) < costC s.2.1.length s.1 (cAt s.2.1 k) := by
  obtain ⟨F, f, r, hc⟩ : ∃ F f r, cAt s.2.1 k = (F ++ [f], r) := by
    obtain ⟨F, f, e⟩ : ∃ F f, (cAt s.2.1 k).1 = F ++ [f] := by
      obtain ⟨F, f, e⟩ := (List.eq_nil_or_concat (cAt s.2.1 k).1).resolve_left hb
      exact ⟨F, f, by rw [e, List.concat_eq_append]⟩
    exact ⟨F, f, (cAt s.2.1 k).2, by rw [← e]⟩
  have hc0 := hc
  have hC := h.mm.cores
  have ht : topI s k = some f := by rw [topI_is (by omega) (by omega), hc]; exact List.getLast?_concat
  obtain ⟨fl, hfl⟩ := h.mm.list
  have hfit := hfl.fits
  have hlen : 128 ≤ s.1.1.length := by have := hfit.1; have := h.mm.more; omega
  have hco := h.core k hk
  by_cases h8 : 1 ≤ f.1 ∧ f.1 ≤ 8
  · have hno : ¬ (f.1 = 9 ∨ f.1 = 10) := fun e => by rcases e with e | e <;> rw [e] at h8 <;> exact absurd h8.2 (by decide)
    have e0 : msqS s k = alS s k := by
      rw [msqS_some ht]
      exact if_neg hno
    obtain ⟨o', e, hg, hm⟩ := h.toMsI.step hT hk hc h8
    have hco2 := hm.core k (by rw [e]; show k < (List.set (α := Cor) s.2.1 _ _).length; rw [List.length_set]; exact hk)
    have hcr := h.mm.core k hk
    rw [hc] at hcr hco
    have hst := hcr.st
    rw [e0, e] at *
    rw [show cAt ((lMM s.2.1.length k s.1 f r).into s k F).2.1 k = (F ++ (lMM s.2.1.length k s.1 f r).fs, (lMM s.2.1.length k s.1 f r).r) from cAt_setN hk] at *
    rw [hc]
    show costC s.2.1.length (lMM s.2.1.length k s.1 f r).m _ < _
    obtain ⟨f0, U', hF1, hU', hs, hq, hk4⟩ := h.toMsI.shape hk hc0 h8
    subst hF1
    rw [rev_one] at hst
    have hless := lMM_less hfit h.mm.more h8 hst.1 (by omega) hC.2 hs
    have hWq : Wq s.2.1.length (rtL r) f.1 U'.reverse := by
      have := hst.2.2
      rw [List.reverse_cons] at this
      exact this.pre
    have hn : f.1 = 1 ∨ f.1 = 2 → (rtL (lMM s.2.1.length k s.1 f r).r).length = (rtL r).length := fun e => by
      rw [lMM_rt (fun e2 => by rw [e2] at e; rcases e with e | e <;> exact nope e rfl) (fun e2 => by rw [e2] at e; rcases e with e | e <;> exact nope e rfl)]
    have hn3 : f.1 = 3 → (rtL (lMM s.2.1.length k s.1 f r).r).length = (rtL r).length := fun e => by
      rw [lMM_rt (fun e2 => by rw [e2] at e; exact nope e rfl) (fun e2 => by rw [e2] at e; exact nope e rfl)]
    obtain ⟨hsame, _⟩ := Wq.same (m := s.1) (m' := (lMM s.2.1.length k s.1 f r).m) (n := (rtL r).length) hWq (fun g hg2 => hU' g (List.mem_reverse.1 hg2)) hn
    rw [costs_rev, costs_rev] at hsame
    have hd := hg.hd hq (by omega)
    have hlag : lagN (lMM s.2.1.length k s.1 f r).m f0.2.2.1.1 = lagN s.1 f0.2.2.1.1 := by
      unfold lagN
      rw [hd.2, (hg.nx (h.qs.tailS hq).1).1]
    have hout := hg.out
    unfold Less at hless
    obtain ⟨L, hL⟩ : ∃ L, lMM s.2.1.length k s.1 f r = L := ⟨_, rfl⟩
    rw [hL] at hless hn3 hsame hd hlag hout ⊢
    have hwait : costWait s.2.1.length L.m (rtL L.r).length f0 = costWait s.2.1.length s.1 (rtL r).length f0 := by
      rcases hk4 with ⟨e1, e2⟩ | ⟨e1, e2, _⟩ | ⟨e1, e2, e3⟩ | ⟨e1, e2⟩
      · rw [costWait9 e1, costWait9 e1, hlag]
      · rw [costWait9 e1, costWait9 e1, hlag]
      · rw [costWait10 e1, costWait10 e1, hlag, hn3 e3.1]
      · rw [costWait10 e1, costWait10 e1, if_neg (by rw [e2]; decide), if_neg (by rw [e2]; decide)]
    have hbefore : costC s.2.1.length s.1 (f0 :: U' ++ [f], r) = costWait s.2.1.length s.1 (rtL r).length f0 + (costs s.2.1.length s.1 (rtL r).length U' + costM s.2.1.length s.1 (rtL r).length f) := by
      rw [show f0 :: U' ++ [f] = f0 :: (U' ++ [f]) from rfl, costC_more (by simp), costs_add, costs_one]
    rw [hbefore]
    by_cases hnil : U' ++ L.fs = []
    · obtain ⟨hu, hfs⟩ := List.append_eq_nil_iff.1 hnil
      subst hu
      rw [hfs]
      show costTop s.2.1.length L.m L.r f0 < _
      have hpost : Post k s.1 f L.m o' L.r := by
        rcases hout with ⟨f', q1, _⟩ | ⟨f', g', q1, _⟩ | ⟨_, q2⟩
        · rw [hfs] at q1; cases q1
        · rw [hfs] at q1; cases q1
        · exact q2
      have hle : costTop s.2.1.length L.m L.r f0 ≤ costWait s.2.1.length s.1 (rtL r).length f0 := by
        rw [← hwait]
        unfold costTop
        rcases hk4 with ⟨e1, e2⟩ | ⟨e1, e2, e3⟩ | ⟨e1, e2, e3⟩ | ⟨e1, e2⟩
        · rw [if_pos e1, costWait9 e1, e2]
          exact Nat.le_refl _
        · have hv : L.r.1 = tlW L.m f0.2.2.1.1 := by
            rw [hd.2]
            have := (hpost.prot e3.1).1
            rw [this, e3.2.1]
          rw [if_pos e1, costWait9 e1, e2]
          show (if L.r.1 = tlW L.m f0.2.2.1.1 then 5 + 7 * lagN L.m f0.2.2.1.1 else _) ≤ _
          rw [if_pos hv]
          exact Nat.le_refl _
        · have hv : L.r.1 = hdW L.m f0.2.2.1.1 := by
            rw [hd.1]
            have := (hpost.prot e3.1).1
            rw [this, e3.2.1]
          rw [if_neg (by rw [e1]; decide), costWait10 e1, e2]
          show (if L.r.1 = hdW L.m f0.2.2.1.1 then 3 * s.2.1.length + 4 * (rtL L.r).length + 17 + 8 * lagN L.m f0.2.2.1.1 else _) ≤ _
          rw [if_pos hv]
          exact Nat.le_refl _
        · rw [if_neg (by rw [e1]; decide), costWait10 e1, e2]
          exact Nat.le_refl _
      refine Nat.lt_of_le_of_lt hle ?_
      exact Nat.lt_add_of_pos_right (Nat.lt_of_lt_of_le (Nat.lt_of_le_of_lt (Nat.zero_le _) hless) (Nat.le_add_left _ _))
    · show costC s.2.1.length L.m (f0 :: (U' ++ L.fs), L.r) < _
      rw [costC_more hnil, costs_add, hwait, hsame]
      exact Nat.add_lt_add_left (Nat.add_lt_add_left hless _) _
  · have small : ∀ (f0 : Frm) (U : List Frm), F ++ [f] = f0 :: U → (∀ g ∈ U, 1 ≤ g.1 ∧ g.1 ≤ 8) → F = [] ∧ f = f0 ∧ U = [] := fun f0 U e hU => by
      by_cases c : U = []
      · subst c
        obtain ⟨a, b⟩ := one_of e
        exact ⟨a, b, rfl⟩
      · exfalso
        obtain ⟨U', _, e2⟩ := snoc_of e c
        exact h8 (hU f (by rw [e2]; simp))
    have key : ∃ (hop : f.1 = 9 ∨ f.1 = 10) (hF : F = []) (hq : 0 ≤ f.2.2.1.1 ∧ f.2.2.1.1 ≤ 7), costC s.2.1.length (lQ k s.1 f r).m ((lQ k s.1 f r).fs, (lQ k s.1 f r).r) < costTop s.2.1.length s.1 r f := by
      have hco2 := hco
      rw [hc] at hco2
      cases hco2 with
      | idle e => exact absurd e (by simp)
      | @enq pc q v n t w r3 l U e hq hU hI =>
        obtain ⟨rfl, rfl, rfl⟩ := small _ U e hU
        have hq7 : 0 ≤ q ∧ q ≤ 7 := by rcases hq with e | e <;> omega
        exact ⟨.inl rfl, rfl, hq7, h.toMsI.lessP hk hc⟩
      | @deq pc q v hh t w x e y l U e' hq hU hI =>
        obtain ⟨rfl, rfl, rfl⟩ := small _ U e' hU
        have hq7 : 0 ≤ q ∧ q ≤ 7 := by rcases hq with e | e <;> omega
        exact ⟨.inr rfl, rfl, hq7, h.toMsI.lessT hk hc⟩
    obtain ⟨hop, hF, hq, hl⟩ := key
    subst hF
    have e := msq_loc (k := (k : Int)) (by omega) (by omega) (by show 0 ≤ 38; decide) hc hop hq
    rw [e, show cAt ((lQ k s.1 f r).into s k []).2.1 k = ((lQ k s.1 f r).fs, (lQ k s.1 f r).r) from cAt_setN hk, hc]
    exact hl
theorem ite_le {p : Prop} {_ : Decidable p} {a b c : Nat} (h1 : a ≤ c) (h2 : b ≤ c) : (if p then a else b) ≤ c := by
  split
  · exact h1
  · exact h2
theorem costM_le {C k n : Nat} {m : Me} {r : Rest} {f : Frm} (h8 : 1 ≤ f.1 ∧ f.1 ≤ 8) (ht : TopI m o C k r f) (hn : (rtL r).length = n) : costM C m n f ≤ 3 * C + 4 * n + 11 := by
  obtain ⟨op, pc, g, l, u⟩ := f
  obtain rfl : u = () := rfl
  have key : ∀ x : Int, 1 ≤ x ∧ x ≤ 8 → x = 1 ∨ x = 2 ∨ x = 3 ∨ x = 4 ∨ x = 5 ∨ x = 6 ∨ x = 7 ∨ x = 8 := fun x hx => by omega
  rcases key op h8 with e | e | e | e | e | e | e | e <;> subst e
  · rw [cost1]; repeat' split
    all_goals omega
  · rw [cost2]; repeat' split
    all_goals omega
  · rw [cost3]; repeat' split
    all_goals omega
  · have h0 : @LE.le Int _ 0 pc := (ht.clear rfl).1
    rw [cost4]; omega
  · rw [cost5]; split <;> omega
  · rw [cost6]
    by_cases c : pc = 0
    · rw [if_pos c]
      rcases ht.scan rfl with ⟨_, a, _⟩ | ⟨e, _⟩
      · have a : @LE.le Int _ 0 g.1 := a
        omega
      · have e : pc = 1 := e
        rw [c] at e; cases e
    · rw [if_neg c]; omega
  · rw [cost7]; repeat' split
    all_goals omega
  · rw [cost8]; split <;> omega
/-- Never more steps than these. -/
theorem MqI.bound (h : MqI T o s N) (hk : k < s.2.1.length) : costC s.2.1.length s.1 (cAt s.2.1 k) ≤ 500 := by
  have hC := h.mm.cores
  have hcr := h.mm.core k hk
  have hn : (rtL (cAt s.2.1 k).2).length ≤ 25 := by
    rcases hcr.few with e | ⟨e, _⟩ <;> omega
  by_cases hb : (cAt s.2.1 k).1 = []
  · rw [show cAt s.2.1 k = ([], (cAt s.2.1 k).2) from Prod.ext hb rfl]
    exact Nat.zero_le _
  obtain ⟨F, f, r, hc⟩ : ∃ F f r, cAt s.2.1 k = (F ++ [f], r) := by
    obtain ⟨F, f, e⟩ : ∃ F f, (cAt s.2.1 k).1 = F ++ [f] := by
      obtain ⟨F, f, e⟩ := (List.eq_nil_or_concat (cAt s.2.1 k).1).resolve_left hb
      exact ⟨F, f, by rw [e, List.concat_eq_append]⟩
    exact ⟨F, f, (cAt s.2.1 k).2, by rw [← e]⟩
  have hst := hcr.st
  rw [hc] at hst hn
  rw [rev_one] at hst
  have hn : (rtL r).length ≤ 25 := hn
  have lag : ∀ q, lagN s.1 q ≤ 1 := fun q => lagN_le
  by_cases h8 : 1 ≤ f.1 ∧ f.1 ≤ 8
  · obtain ⟨f0, U', hF1, hU', hs, hq, hk4⟩ := h.toMsI.shape hk hc h8
    subst hF1
    have hWq : Wq s.2.1.length (rtL r) f.1 U'.reverse := by
      have := hst.2.2
      rw [List.reverse_cons] at this
      exact this.pre
    have h1 := (Wq.same (m := s.1) (m' := s.1) (n := (rtL r).length) (n' := (rtL r).length) hWq (fun g hg2 => hU' g (List.mem_reverse.1 hg2)) (fun _ => rfl)).2
    rw [costs_rev] at h1
    have h2 := costM_le (C := s.2.1.length) (k := k) (r := r) (n := (rtL r).length) h8 hst.1 rfl
    have h3 : costWait s.2.1.length s.1 (rtL r).length f0 ≤ 3 * s.2.1.length + 4 * (rtL r).length + 25 := by
      have := lag f0.2.2.1.1
      unfold costWait
      repeat' split
      all_goals omega
    rw [hc, show f0 :: U' ++ [f] = f0 :: (U' ++ [f]) from rfl, costC_more (by simp), costs_add, costs_one]
    have hn2 : (rtL r).length ≤ 25 := hn
    show costWait s.2.1.length s.1 (rtL r).length f0 + (costs s.2.1.length s.1 (rtL r).length U' + costM s.2.1.length s.1 (rtL r).length f) ≤ 500
    omega
  · have hF : F = [] := by
      have hco2 := h.core k hk
      rw [hc] at hco2
      have small : ∀ (f0 : Frm) (U : List Frm), F ++ [f] = f0 :: U → (∀ g ∈ U, 1 ≤ g.1 ∧ g.1 ≤ 8) → F = [] := fun f0 U e hU => by
        by_cases c : U = []
        · subst c
          exact (one_of e).1
        · exfalso
          obtain ⟨U', _, e2⟩ := snoc_of e c
          exact h8 (hU f (by rw [e2]; simp))
      cases hco2 with
      | idle e => exact absurd e (by simp)
      | enq e _ hU _ => exact small _ _ e hU
      | deq e _ hU _ => exact small _ _ e hU
    subst hF
    rw [hc]
    show costTop s.2.1.length s.1 r f ≤ 500
    have := lag f.2.2.1.1
    unfold costTop
    split
    · unfold costP; repeat' (first | apply ite_le | omega)
    · unfold costT; repeat' (first | apply ite_le | omega)
theorem it8_front {k : Int} {s : Sy} : ∀ j : Nat, it8 k (msqS s k) j = it8 k s (j + 1)
  | 0 => rfl
  | j + 1 => by
    show msqS (it8 k (msqS s k) j) k = msqS (it8 k s (j + 1)) k
    rw [it8_front j]
end
end Go.Proofs.YtpobngddiifdpaaGreat.V
