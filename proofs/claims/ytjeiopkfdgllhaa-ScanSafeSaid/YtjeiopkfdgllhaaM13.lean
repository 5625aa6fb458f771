/- The memory's management: a node that a core has stays with it. The memory's management: what a pop gives was free; one that gives none saw that none is free. AllocSafe: what is known of a core that allocates, drops and retires. AllocSafe: all cores. -/
import Derived.Test.YtjeiopkfdgllhaaM9
set_option linter.unusedSimpArgs false
set_option linter.unusedVariables false
namespace Go.Proofs.Ytjeiopkfdgllhaa.V
open Go Go.RowKit Go.Proofs.Ytjeiopkfdgllhaa.Hz
set_option maxRecDepth 100000

theorem Wt.head {C : Nat} {R : Li} {op : Int} {g : Frm} {rest : List Frm} (h : Wt C R op (g :: rest)) : WaitI C R g op := h.1
theorem fresh_stays {T : Int} {k C : Nat} {m : Me} {o o' : OM} {F : List Frm} {f : Frm} {r : Rest} (hc : CoreI m o C k (F ++ [f], r)) (hg : Good T k C m o F f r (lMM C k m f r) o') {p : Int} (hop : 1 ≤ f.1 ∧ f.1 ≤ 8) (hp : InN m p) (ho : o p = .fresh k) :
    o' p = .fresh k ∨ (f.1 = 8 ∧ f.2.1 = 0 ∧ f.2.2.1.1 = p ∧ o' p = .push k 1) := by
  rcases hg.own p hp with h | ⟨h, _⟩ | ⟨h, _⟩ | ⟨h, _⟩ | ⟨_, h⟩ | ⟨⟨x, h⟩, _⟩
  · exact .inl (h.trans ho)
  · rw [ho] at h; cases h
  · rw [ho] at h; cases h
  · rw [ho] at h; cases h
  rotate_left
  · rw [ho] at h; cases h
  right
  obtain ⟨F', g, e, e1, e2⟩ := hg.core.push p 1 (hg.chg.inN.2 hp) h
  have e : F ++ (lMM C k m f r).fs = F' ++ [g] := e
  have hst := hc.st
  rw [rev_one] at hst
  have hst2 := hg.core.st
  have hst2 : Stk (lMM C k m f r).m o' C k (lMM C k m f r).r (F ++ (lMM C k m f r).fs).reverse := hst2
  rcases hg.out with ⟨f', q1, q2, _⟩ | ⟨f', g', q1, q2, _⟩ | ⟨q1, _⟩
  · rw [q1] at e
    have := (List.append_inj' e rfl).2
    rw [List.cons.injEq] at this
    obtain ⟨rfl, _⟩ := this
    have hf2 : f.1 = 2 := q2.1.symm.trans e1
    obtain ⟨_, ⟨x, hx⟩, _⟩ := hst.1.push hf2
    rcases q2.2.1 (by rw [hf2]; decide) with e3 | e3
    · rw [← e3, e2, ho] at hx; cases hx
    · exact absurd (hf2.symm.trans e3) (by decide)
  · rw [q1] at e hst2
    have e' : (F ++ [f']) ++ [g'] = F' ++ [g] := by rw [← e]; simp
    have := (List.append_inj' e' rfl).2
    rw [List.cons.injEq] at this
    obtain ⟨rfl, _⟩ := this
    rw [rev_two] at hst2
    have hw : WaitI C _ f' g'.1 := hst2.2.2.1
    rw [e1] at hw
    by_cases c8 : f.1 = 8
    · have hL : (lMM C k m f r) = lDrop m f.2.1 f.2.2.1 f.2.2.2.1 r := by unfold lMM; rw [c8]; rfl
      rw [hL] at q1
      unfold lDrop at q1
      split at q1
      · rename_i h0
        have q1 : [((8 : Int), (1 : Int), f.2.2.1, f.2.2.2.1, ()), frm0 2 f.2.2.1.1 0 0] = [f', g'] := q1
        rw [List.cons.injEq, List.cons.injEq] at q1
        refine ⟨c8, h0, ?_, h⟩
        rw [← q1.2.1] at e2
        exact e2
      · split at q1
        · cases q1
        · exact absurd (congrArg List.length q1) (by show ¬ 1 = 2; decide)
    by_cases c6 : f.1 = 6
    · exfalso
      have hL : (lMM C k m f r) = lScan C m f.2.1 f.2.2.1 f.2.2.2.1 r := by unfold lMM; rw [c6]; rfl
      rw [hL] at q1
      unfold lScan at q1
      split at q1
      · exact absurd (congrArg List.length q1) (by show ¬ 1 = 2; decide)
      split at q1
      · split at q1
        · cases q1
        · rename_i hn
          obtain ⟨n, hnn⟩ : ∃ n, nextOut f.2.2.2.1 (rtL r) (Int.toNat f.2.2.1.2.1) = n := ⟨_, rfl⟩
          have q1 : [((6 : Int), (1 : Int), (f.2.2.1.1, ((nextOut f.2.2.2.1 (rtL r) (Int.toNat f.2.2.1.2.1) : Nat) : Int), f.2.2.1.2.2), f.2.2.2.1, ()), frm0 2 (nI (rtL r) (nextOut f.2.2.2.1 (rtL r) (Int.toNat f.2.2.1.2.1))) 0 0] = [f', g'] := q1
          rw [hnn] at q1 hn
          rw [List.cons.injEq, List.cons.injEq] at q1
          rw [← q1.2.1] at e2
          have e2 : nI (rtL r) (n : Int) = p := e2
          have hlt : n < (rtL r).length := by
            have := not_or.1 hn
            omega
          have hmem : p ∈ rtL r := by
            rw [← e2]
            show List.getD (rtL r) ((n : Int)).toNat 0 ∈ _
            rw [Int.toNat_natCast, List.getD_eq_getElem?_getD, List.getElem?_eq_getElem hlt]
            exact List.getElem_mem hlt
          have := ((hc.ret p).1 hmem).2
          rw [ho] at this; cases this
      · exact absurd (congrArg List.length q1) (by show ¬ 1 = 2; decide)
    exfalso
    have key : ∀ x : Int, 1 ≤ x ∧ x ≤ 8 → ¬ x = 8 → ¬ x = 6 → (x = 1 ∨ x = 2 ∨ x = 3 ∨ x = 4) ∨ x = 5 ∨ x = 7 := fun x h1 h2 h3 => by omega
    rcases key f.1 hop c8 c6 with h1 | h1 | h1
    · exact hw.low (by rw [q2.1]; exact h1)
    · exact absurd (hw.retire (q2.1.trans h1)).2 (by decide)
    · rcases hw.alloc (q2.1.trans h1) with h2 | h2
      · exact absurd h2.2 (by decide)
      · exact absurd h2.2 (by decide)
  · exfalso
    rw [q1, List.append_nil] at e
    rw [e, List.reverse_append] at hst
    exact (hst.2.2.1).low (.inr (.inl e1))

theorem pop_fresh {k C : Nat} {m : Me} {o : OM} {F : List Frm} {f : Frm} {r : Rest} {l : List Int} (hl : FL m l) (hs : ∀ p, InN m p → statO (o p) (nI m.2.1 p)) (hc : CoreI m o C k (F ++ [f], r)) (h1 : f.1 = 1) (hfs : (lMM C k m f r).fs = []) (he : (lMM C k m f r).r.2.1 = 0) :
    InN m (lMM C k m f r).r.1 ∧ o (lMM C k m f r).r.1 = .free := by
  have hst := hc.st
  rw [rev_one] at hst
  have hL : (lMM C k m f r) = lPop k m f.2.1 f.2.2.1 f.2.2.2.1 r := by unfold lMM; rw [if_pos h1]
  rw [hL] at hfs he ⊢
  unfold lPop at hfs he ⊢
  split at hfs
  · rename_i c0
    rw [if_pos c0] at he
    split at hfs
    · rename_i c1
      rw [if_pos c1] at he
      exact nope (show (2 : Int) = 0 from he) rfl
    · cases hfs
  rename_i c0
  rw [if_neg c0] at he ⊢
  split at hfs
  · cases hfs
  rename_i c1
  rw [if_neg c1] at he ⊢
  split at hfs
  · rename_i c2
    rw [if_pos c2] at he ⊢
    split at hfs
    · rename_i hb
      rw [if_pos hb]
      have hw : nI m.1 0 = f.2.2.1.1 := (of_decide_eq_true hb).2.2
      rcases hst.1.pop h1 with h | ⟨_, h, _⟩
      · exact absurd h c0
      · have hin := h.1
        have hne : idxI (nI m.1 0) ≠ 0 := by rw [hw]; have := hin.1; omega
        obtain ⟨q1, q2, _⟩ := hl.headIn hne
        rw [hw] at q1 q2
        exact ⟨q1, stat_free (by have := hs _ q1; rw [q2] at this; exact this)⟩
    · cases hfs
  · cases hfs
/-- No node is free, if the list's head says so. -/
theorem none_free {m : Me} {l : List Int} (hl : FL m l) (h : idxI (nI m.1 0) = 0) : l = [] ∧ ∀ p, InN m p → nI m.2.1 p ≠ 0 := by
  have e : l = [] := by
    cases l with
    | nil => rfl
    | cons q l =>
      have h1 : idxI (nI m.1 0) = q := hl.head.1
      have h2 := (hl.mem q).1 (List.mem_cons_self ..)
      omega
  exact ⟨e, fun p hp h0 => by have := (hl.mem p).2 ⟨hp.1, hp.2, h0⟩; rw [e] at this; cases this⟩

/-- Of a core: the nodes it has; whether it may be told that there is none. -/
structure ClI (m : Me) (o : OM) (k : Nat) (cr : Cor) (own : Li) (none : Bool) : Prop where
  nodup : own.Nodup
  mine : ∀ p ∈ own, InN m p ∧ o p = .fresh k
  base : cr.1 = [] ∨ ∃ b rest, cr.1 = b :: rest ∧ (b.1 = 5 ∨ b.1 = 7 ∨ b.1 = 8)
  drop : ∀ f ∈ cr.1, f.1 = 8 → f.2.1 = 0 → f.2.2.1.1 ∉ own
  told : ∀ f, cr.1 = [f] → f.1 = 7 → (f.2.1 = 1 ∨ f.2.1 = 3) → (cr.2.2.1 = 0 → cr.2.1 ∉ own) ∧ (cr.2.2.1 ≠ 0 → none = true)
/-- Others' steps leave it. -/
theorem ClI.stays {k c : Nat} {m m' : Me} {o o' : OM} {cr : Cor} {own : Li} {none : Bool} (h : ClI m o c cr own none) (hc : Chg k m o m' o') (hck : c ≠ k) : ClI m' o' c cr own none :=
  ⟨h.nodup, fun p hp => ⟨hc.inN.2 (h.mine p hp).1, ((hc.owns c p hck (h.mine p hp).1).1).2 (h.mine p hp).2⟩, h.base, h.drop, h.told⟩
theorem lMM8 {k C : Nat} {m : Me} {f : Frm} {r : Rest} (h : f.1 = 8) : lMM C k m f r = lDrop m f.2.1 f.2.2.1 f.2.2.2.1 r := by unfold lMM; rw [h]; rfl
theorem lMM7 {k C : Nat} {m : Me} {f : Frm} {r : Rest} (h : f.1 = 7) : lMM C k m f r = lAlloc m f.2.1 f.2.2.1 f.2.2.2.1 r := by unfold lMM; rw [h]; rfl
theorem ClI.step {T : Int} {k C : Nat} {m : Me} {o o' : OM} {F : List Frm} {f : Frm} {r : Rest} {own : Li} {none nn : Bool} {l : List Int} (h : ClI m o k (F ++ [f], r) own none) (hc : CoreI m o C k (F ++ [f], r)) (hg : Good T k C m o F f r (lMM C k m f r) o') (hl : FL m l) (hs : ∀ p, InN m p → statO (o p) (nI m.2.1 p)) (hop : 1 ≤ f.1 ∧ f.1 ≤ 8) (hnn : idxI (nI m.1 0) = 0 → nn = true) :
    ClI (lMM C k m f r).m o' k (F ++ (lMM C k m f r).fs, (lMM C k m f r).r) own (none || nn) := by
  have hst := hc.st
  rw [rev_one] at hst
  have hst2 : Stk (lMM C k m f r).m o' C k (lMM C k m f r).r (F ++ (lMM C k m f r).fs).reverse := hg.core.st
  refine ⟨h.nodup, fun p hp => ?_, ?_, fun x hx e8 e0 => ?_, fun x hx e7 epc => ?_⟩
  · obtain ⟨a, b⟩ := h.mine p hp
    refine ⟨hg.chg.inN.2 a, ?_⟩
    rcases fresh_stays hc hg hop a b with q | ⟨q1, q2, q3, _⟩
    · exact q
    · exact absurd (q3 ▸ hp) (h.drop f (by simp) q1 q2)
  · cases F with
    | cons b rest =>
      rcases h.base with q | ⟨b', rest', q, q2⟩
      · cases q
      · right
        have q : b :: (rest ++ [f]) = b' :: rest' := q
        rw [List.cons.injEq] at q
        exact ⟨b, _, rfl, by rw [q.1]; exact q2⟩
    | nil =>
      have hb : f.1 = 5 ∨ f.1 = 7 ∨ f.1 = 8 := by
        rcases h.base with q | ⟨b', rest', q, q2⟩
        · cases q
        · have q : [f] = b' :: rest' := q
          rw [List.cons.injEq] at q
          rw [q.1]; exact q2
      rcases hg.out with ⟨f', q1, q2, _⟩ | ⟨f', g', q1, q2, _⟩ | ⟨q1, _⟩
      · exact .inr ⟨f', [], by show [] ++ _ = _; rw [q1]; rfl, by rw [q2.1]; exact hb⟩
      · exact .inr ⟨f', [g'], by show [] ++ _ = _; rw [q1]; rfl, by rw [q2.1]; exact hb⟩
      · exact .inl (by show [] ++ _ = _; rw [q1]; rfl)
  · rcases List.mem_append.1 (show x ∈ F ++ (lMM C k m f r).fs from hx) with hx | hx
    · exact h.drop x (by simp [hx]) e8 e0
    exfalso
    rcases hg.out with ⟨f', q1, q2, _⟩ | ⟨f', g', q1, q2, _⟩ | ⟨q1, _⟩
    · rw [q1, List.mem_singleton] at hx
      subst hx
      have h8 : f.1 = 8 := q2.1.symm.trans e8
      rw [lMM8 h8] at q1
      unfold lDrop at q1
      split at q1
      · exact absurd (congrArg List.length q1) (by show ¬ 2 = 1; decide)
      · split at q1
        · cases q1
        · rename_i c0 _
          have q1 : [((8 : Int), f.2.1, f.2.2.1, f.2.2.2.1, ())] = [x] := q1
          rw [List.cons.injEq] at q1
          rw [← q1.1] at e0
          exact c0 e0
    · rw [q1] at hst2 hx
      rw [rev_two] at hst2
      have hw : WaitI C _ f' g'.1 := hst2.2.2.1
      rcases List.mem_cons.1 hx with hx | hx
      · subst hx
        have h8 : f.1 = 8 := q2.1.symm.trans e8
        rw [lMM8 h8] at q1
        unfold lDrop at q1
        split at q1
        · have q1 : [((8 : Int), (1 : Int), f.2.2.1, f.2.2.2.1, ()), frm0 2 f.2.2.1.1 0 0] = [x, g'] := q1
          rw [List.cons.injEq] at q1
          rw [← q1.1] at e0
          exact nope (show (1 : Int) = 0 from e0) rfl
        · split at q1
          · cases q1
          · exact absurd (congrArg List.length q1) (by show ¬ 1 = 2; decide)
      · rw [List.mem_singleton] at hx
        subst hx
        rw [e8] at hw
        have key : ∀ y : Int, 1 ≤ y ∧ y ≤ 8 → (y = 1 ∨ y = 2 ∨ y = 3 ∨ y = 4) ∨ y = 5 ∨ y = 6 ∨ y = 7 ∨ y = 8 := fun y hy => by omega
        rcases key f'.1 (by rw [q2.1]; exact hop) with h1 | h1 | h1 | h1 | h1
        · exact hw.low h1
        · exact absurd (hw.retire h1).2 (by decide)
        · exact absurd (hw.scan h1).1 (by decide)
        · rcases hw.alloc h1 with h2 | h2
          · exact absurd h2.2 (by decide)
          · exact absurd h2.2 (by decide)
        · exact absurd (hw.drop h1).2 (by decide)
    · rw [q1] at hx; cases hx
  · have hx : F ++ (lMM C k m f r).fs = [x] := hx
    rcases hg.out with ⟨f', q1, q2, q3⟩ | ⟨f', g', q1, q2, _⟩ | ⟨q1, q2⟩
    · exfalso
      rw [q1] at hx
      have hf : f' = x := by
        have := (List.append_inj' (show F ++ [f'] = [] ++ [x] from hx) rfl).2
        rw [List.cons.injEq] at this
        exact this.1
      subst hf
      have h7 : f.1 = 7 := q2.1.symm.trans e7
      rw [lMM7 h7] at q1
      unfold lAlloc at q1
      split at q1
      · exact absurd (congrArg List.length q1) (by show ¬ 2 = 1; decide)
      split at q1
      · split at q1
        · cases q1
        · split at q1
          · cases q1
          · exact absurd (congrArg List.length q1) (by show ¬ 2 = 1; decide)
      split at q1
      · cases q1
      · rename_i c1 c2 c3
        have q1 : [((7 : Int), f.2.1, f.2.2.1, f.2.2.2.1, ())] = [f'] := q1
        rw [List.cons.injEq] at q1
        rw [← q1.1] at epc
        exact epc.elim c2 c3
    · exfalso
      rw [q1] at hx
      have := congrArg List.length hx
      rw [List.length_append] at this
      have : F.length + 2 = 1 := this
      omega
    · rw [q1, List.append_nil] at hx
      subst hx
      have hw : WaitI C _ x f.1 := hst.2.2.1
      have h1 : f.1 = 1 := by
        rcases hw.alloc e7 with h2 | h2
        · exact h2.2
        · exfalso
          have h0 : x.2.1 = 2 := h2.1
          rw [h0] at epc
          rcases epc with e | e <;> exact nope e rfl
      refine ⟨fun he hin => ?_, fun he => ?_⟩
      · obtain ⟨_, p2⟩ := pop_fresh hl hs hc h1 q1 he
        have := (h.mine _ hin).2
        rw [p2] at this; cases this
      · rw [hnn (q2.none h1 he), Bool.or_true]

def updN {α : Type} (f : Nat → α) (k : Nat) (x : α) : Nat → α := fun c => if c = k then x else f c
theorem updN_self {α : Type} {f : Nat → α} {k : Nat} {x : α} : updN f k x k = x := if_pos rfl
theorem updN_ne {α : Type} {f : Nat → α} {k c : Nat} {x : α} (h : c ≠ k) : updN f k x c = f c := if_neg h
/-- All cores of AllocSafe. -/
structure AllI (T : Int) (o : OM) (s : Sy) (own : Nat → Li) (none : Nat → Bool) : Prop where
  mm : MM T o s
  cl : ∀ k : Nat, k < s.2.1.length → ClI s.1 o k (cAt s.2.1 k) (own k) (none k)
section
variable {T : Int} {o : OM} {s : Sy} {own : Nat → Li} {none : Nat → Bool} {k : Nat}
theorem callS_cor {op a : Int} (hk : k < s.2.1.length) (hidle : (cAt s.2.1 k).1 = []) : (callS s k op a 0 0).1 = s.1 ∧ (callS s k op a 0 0).2.1.length = s.2.1.length ∧ cAt (callS s k op a 0 0).2.1 k = ([frm0 op a 0 0], (cAt s.2.1 k).2) ∧ ∀ c : Nat, c ≠ k → cAt (callS s k op a 0 0).2.1 c = cAt s.2.1 c := by
  rw [callS_into hk hidle]
  refine ⟨rfl, List.length_set, getD_set (by omega), fun c hc => ?_⟩
  show List.getD (List.set (α := Cor) s.2.1 (k : Int).toNat _) (c : Int).toNat _ = List.getD s.2.1 (c : Int).toNat _
  rw [List.getD_eq_getElem?_getD, List.getD_eq_getElem?_getD, List.getElem?_set_ne (by omega)]
theorem AllI.call_alloc (h : AllI T o s own none) (hk : k < s.2.1.length) (hidle : (cAt s.2.1 k).1 = []) : AllI T o (callS s k 7 0 0 0) own (updN none k false) := by
  obtain ⟨e1, e2, e3, e4⟩ := callS_cor (op := 7) (a := 0) hk hidle
  refine ⟨h.mm.call_alloc hk hidle, fun c hc => ?_⟩
  rw [e2] at hc
  have hcl := h.cl c hc
  rw [e1]
  by_cases ck : c = k
  · subst ck
    rw [e3]
    refine ⟨hcl.nodup, hcl.mine, .inr ⟨_, _, rfl, .inr (.inl rfl)⟩, fun f hf e8 => ?_, fun f hf _ hp => ?_⟩
    · rw [show f = frm0 7 0 0 0 from List.mem_singleton.1 hf] at e8
      exact nope (show (7 : Int) = 8 from e8) rfl
    · have hf : [frm0 7 0 0 0] = [f] := hf
      rw [List.cons.injEq] at hf
      rw [← hf.1] at hp
      rcases hp with e | e
      · exact nope (show (0 : Int) = 1 from e) rfl
      · exact nope (show (0 : Int) = 3 from e) rfl
  · rw [e4 c ck, updN_ne ck]; exact hcl
theorem AllI.call_drop {p : Int} {rest : Li} (h : AllI T o s own none) (hk : k < s.2.1.length) (hidle : (cAt s.2.1 k).1 = []) (ho : own k = p :: rest) : AllI T o (callS s k 8 p 0 0) (updN own k rest) (updN none k false) := by
  obtain ⟨e1, e2, e3, e4⟩ := callS_cor (op := 8) (a := p) hk hidle
  have hclk := h.cl k hk
  rw [ho] at hclk
  have hp := hclk.mine p (List.mem_cons_self ..)
  have hnd := List.nodup_cons.1 hclk.nodup
  refine ⟨h.mm.call_drop hk hidle hp.1 hp.2, fun c hc => ?_⟩
  rw [e2] at hc
  rw [e1]
  by_cases ck : c = k
  · subst ck
    rw [e3, updN_self]
    refine ⟨hnd.2, fun q hq => hclk.mine q (List.mem_cons_of_mem _ hq), .inr ⟨_, _, rfl, .inr (.inr rfl)⟩, fun f hf _ _ => ?_, fun f hf e7 => ?_⟩
    · rw [show f = frm0 8 p 0 0 from List.mem_singleton.1 hf]
      exact hnd.1
    · have hf : [frm0 8 p 0 0] = [f] := hf
      rw [List.cons.injEq] at hf
      rw [← hf.1] at e7
      exact nope (show (8 : Int) = 7 from e7) rfl
  · rw [e4 c ck, updN_ne ck, updN_ne ck]; exact h.cl c hc
theorem AllI.call_retire {p : Int} {rest : Li} (h : AllI T o s own none) (hk : k < s.2.1.length) (hidle : (cAt s.2.1 k).1 = []) (ho : own k = p :: rest) : AllI T (upd o p (.gone k)) (callS s k 5 p 0 0) (updN own k rest) (updN none k false) := by
  obtain ⟨e1, e2, e3, e4⟩ := callS_cor (op := 5) (a := p) hk hidle
  have hclk := h.cl k hk
  rw [ho] at hclk
  have hp := hclk.mine p (List.mem_cons_self ..)
  have hnd := List.nodup_cons.1 hclk.nodup
  refine ⟨h.mm.call_retire hk hidle hp.1 hp.2, fun c hc => ?_⟩
  rw [e2] at hc
  rw [e1]
  by_cases ck : c = k
  · subst ck
    rw [e3, updN_self]
    refine ⟨hnd.2, fun q hq => ?_, .inr ⟨_, _, rfl, .inl rfl⟩, fun f hf e8 _ => ?_, fun f hf e7 => ?_⟩
    · have := hclk.mine q (List.mem_cons_of_mem _ hq)
      refine ⟨this.1, ?_⟩
      rw [upd_ne (fun e => hnd.1 (by rw [← e]; exact hq))]
      exact this.2
    · rw [show f = frm0 5 p 0 0 from List.mem_singleton.1 hf] at e8
      exact nope (show (5 : Int) = 8 from e8) rfl
    · have hf : [frm0 5 p 0 0] = [f] := hf
      rw [List.cons.injEq] at hf
      rw [← hf.1] at e7
      exact nope (show (5 : Int) = 7 from e7) rfl
  · rw [e4 c ck, updN_ne ck, updN_ne ck]
    have hcl := h.cl c hc
    refine ⟨hcl.nodup, fun q hq => ⟨(hcl.mine q hq).1, ?_⟩, hcl.base, hcl.drop, hcl.told⟩
    rw [upd_ne (fun e => by have := (hcl.mine q hq).2; rw [e, hp.2] at this; exact ck (Own.fresh.inj this).symm)]
    exact (hcl.mine q hq).2
/-- A step, before what it gave is put to what the core has. -/
theorem AllI.step {F : List Frm} {f : Frm} {r : Rest} {nn : Bool} (h : AllI T o s own none) (hT : T < 1000000000) (hk : k < s.2.1.length) (hc : cAt s.2.1 k = (F ++ [f], r)) (hop : 1 ≤ f.1 ∧ f.1 ≤ 8) (hnn : idxI (nI s.1.1 0) = 0 → nn = true) :
    ∃ o', alS s k = (lMM s.2.1.length k s.1 f r).into s k F ∧ AllI (T + 1) o' (alS s k) own (updN none k (none k || nn)) := by
  obtain ⟨o', e, hg, hm⟩ := h.mm.step hT hk hc hop
  obtain ⟨l, hl⟩ := h.mm.list
  have hcore := h.mm.core k hk
  have hclk := h.cl k hk
  rw [hc] at hcore hclk
  have hst := hclk.step hcore hg hl h.mm.stat hop hnn
  refine ⟨o', e, hm, fun c hcc => ?_⟩
  rw [e] at hcc ⊢
  have hcc : c < s.2.1.length := by rw [show ((lMM s.2.1.length k s.1 f r).into s k F).2.1.length = s.2.1.length from List.length_set] at hcc; exact hcc
  by_cases ck : c = k
  · subst ck
    rw [show cAt ((lMM s.2.1.length c s.1 f r).into s c F).2.1 c = (F ++ (lMM s.2.1.length c s.1 f r).fs, (lMM s.2.1.length c s.1 f r).r) from getD_set (by omega), updN_self]
    exact hst
  · have e2 : cAt ((lMM s.2.1.length k s.1 f r).into s k F).2.1 c = cAt s.2.1 c := by
      show List.getD (List.set (α := Cor) s.2.1 (k : Int).toNat _) (c : Int).toNat _ = List.getD s.2.1 (c : Int).toNat _
      rw [List.getD_eq_getElem?_getD, List.getD_eq_getElem?_getD, List.getElem?_set_ne (by omega)]
    rw [e2, updN_ne ck]
    exact (h.cl c hcc).stays hg.chg ck
/-- An allocation ends: what it tells. -/
theorem AllI.ends {C : Nat} {f : Frm} {r : Rest} (h : AllI T o s own none) (hk : k < s.2.1.length) (hc : cAt s.2.1 k = ([f], r)) (h7 : f.1 = 7) (hfs : (lMM C k s.1 f r).fs = []) :
    ((lMM C k s.1 f r).r.2.1 = 0 → InN s.1 (lMM C k s.1 f r).r.1 ∧ o (lMM C k s.1 f r).r.1 = .fresh k ∧ (lMM C k s.1 f r).r.1 ∉ own k) ∧ ((lMM C k s.1 f r).r.2.1 ≠ 0 → none k = true) := by
  have hcore := h.mm.core k hk
  have hclk := h.cl k hk
  rw [hc] at hcore hclk
  have hst : Stk s.1 o s.2.1.length k r [f] := hcore.st
  have htop := hst.1.alloc h7
  have htold := hclk.told f rfl h7
  rw [lMM7 h7] at hfs ⊢
  unfold lAlloc at hfs ⊢
  split at hfs
  · cases hfs
  rename_i c0
  rw [if_neg c0]
  have key : (f.2.1 = 1 ∨ f.2.1 = 3) → (r.2.1 = 0 → InN s.1 r.1 ∧ o r.1 = .fresh k ∧ r.1 ∉ own k) ∧ (r.2.1 ≠ 0 → none k = true) := fun hp => by
    have ht : Told s.1 o k r := by
      rcases htop with e | e | e
      · exact absurd (.inl e) c0
      · exact absurd (.inr e) c0
      · exact e.2
    obtain ⟨t1, t2⟩ := htold hp
    refine ⟨fun he => ?_, t2⟩
    rcases ht with ⟨_, a, b⟩ | e
    · exact ⟨a, b, t1 he⟩
    · have he : r.2.1 = 0 := he
      rw [e] at he
      exact nope he rfl
  split at hfs
  · rename_i c1
    rw [if_pos c1]
    obtain ⟨k1, k2⟩ := key (.inl c1)
    split at hfs
    · rename_i c2
      rw [if_pos c2]
      exact ⟨fun _ => k1 c2, fun hn => absurd rfl hn⟩
    · rename_i c2
      rw [if_neg c2]
      split at hfs
      · rename_i c3
        rw [if_pos c3]
        exact ⟨fun e => nope (show (2 : Int) = 0 from e) rfl, fun _ => k2 c2⟩
      · cases hfs
  rename_i c1
  rw [if_neg c1]
  split at hfs
  · rename_i c3
    rw [if_pos c3]
    exact key (.inr c3)
  · cases hfs
/-- What it gave is the core's. -/
theorem AllI.give {p : Int} (h : AllI T o s own none) (hidle : (cAt s.2.1 k).1 = []) (hp : InN s.1 p) (ho : o p = .fresh k) (hn : p ∉ own k) : AllI T o s (updN own k (own k ++ [p])) none := by
  refine ⟨h.mm, fun c hc => ?_⟩
  have hcl := h.cl c hc
  by_cases ck : c = k
  · subst ck
    rw [updN_self]
    refine ⟨List.nodup_append.2 ⟨hcl.nodup, by simp, fun a ha b hb e => ?_⟩, fun q hq => ?_, hcl.base, fun f hf => ?_, fun f hf => ?_⟩
    · rw [List.mem_singleton] at hb
      subst hb
      exact hn (e ▸ ha)
    · rcases List.mem_append.1 hq with hq | hq
      · exact hcl.mine q hq
      · rw [List.mem_singleton.1 hq]; exact ⟨hp, ho⟩
    · rw [hidle] at hf; cases hf
    · rw [hidle] at hf; cases hf
  · rw [updN_ne ck]; exact hcl
/-- Two cores never have the same node; what a core has is Live. -/
theorem AllI.apart {c : Nat} {p : Int} (h : AllI T o s own none) (hk : k < s.2.1.length) (hc : c < s.2.1.length) (h1 : p ∈ own k) (h2 : p ∈ own c) : k = c := by
  have a := ((h.cl k hk).mine p h1).2
  have b := ((h.cl c hc).mine p h2).2
  rw [a] at b
  exact Own.fresh.inj b
theorem AllI.live {p : Int} (h : AllI T o s own none) (hk : k < s.2.1.length) (h1 : p ∈ own k) : nI s.1.2.1 p = 1 := by
  obtain ⟨a, b⟩ := (h.cl k hk).mine p h1
  have := h.mm.stat p a
  rw [b] at this
  exact this
theorem AllI.start {c n : Nat} (h1 : 1 ≤ n) (h2 : n ≤ 200) (c1 : 1 ≤ c) (c8 : c ≤ 8) : AllI 0 (fun _ => .free) (V.newF (c : Int) (n : Int)) (fun _ => []) (fun _ => false) := by
  refine ⟨MM.newF h1 h2 c1 c8, fun k hk => ?_⟩
  rw [newF_cor]
  exact ⟨List.nodup_nil, fun p hp => (nomatch hp), .inl rfl, fun f hf => (nomatch hf), fun f hf => (nomatch hf)⟩
end
end Go.Proofs.Ytjeiopkfdgllhaa.V
