/- Queues: who lets the tail lag; who holds a node that is in no queue. -/
import Derived.Test.YtpobngddiifdpaaGreatZdU3
set_option linter.unusedSimpArgs false
set_option linter.unusedVariables false
namespace Go.Proofs.YtpobngddiifdpaaGreat.V
open Go Go.RowKit Go.Proofs.YtpobngddiifdpaaGreat.Hz
set_option maxRecDepth 100000

/-- A word that leads to the tail's node is the tail's word. -/
def Sm (m : Me) (N : NQ) (q t : Int) : Prop := idxI t ∈ N q → idxI t = idxI (tlW m q) → t = tlW m q
/-- A node that a core has got, and has not laid into a queue yet. -/
def HeldF (p : Int) (cr : Cor) : Prop :=
  (∃ F f, cr.1 = F ++ [f] ∧ ((f.1 = 7 ∧ (f.2.1 = 1 ∨ f.2.1 = 3)) ∨ (f.1 = 9 ∧ f.2.1 = 1)) ∧ cr.2.2.1 = 0 ∧ cr.2.1 = p) ∨ (∃ f U, cr.1 = f :: U ∧ f.1 = 9 ∧ 2 ≤ f.2.1 ∧ f.2.1 ≤ 9 ∧ f.2.2.1.2.2.1 = p)
/-- A node that a core has taken out, and is about to retire. -/
def GoneF (p : Int) (cr : Cor) : Prop := ∃ F f, cr.1 = F ++ [f] ∧ f.1 = 5 ∧ f.2.1 = 0 ∧ f.2.2.1.1 = p
structure LgI (o : OM) (s : Sy) (N : NQ) : Prop where
  lag : ∀ q, IsQ q → idxI (nx s.1 (idxI (tlW s.1 q))) ≠ 0 → ∃ c : Nat, c < s.2.1.length ∧ ∃ v n w r3 l r, cAt s.2.1 c = ([((9 : Int), (10 : Int), (q, v, n, tlW s.1 q, w, r3), l, ())], r)
  same : ∀ (c : Nat) (q pc v n t w : Int) (r3 : R3') (l : Li) (r : Rest), c < s.2.1.length → cAt s.2.1 c = ([((9 : Int), pc, (q, v, n, t, w, r3), l, ())], r) → (pc = 7 ∨ pc = 9 → Sm s.1 N q t) ∧ (pc = 6 → Sm s.1 N q r.1)
  hold : ∀ (p : Int) (c : Nat), InN s.1 p → o p = .fresh c → c < s.2.1.length ∧ HeldF p (cAt s.2.1 c)
  gone : ∀ (p : Int) (c : Nat), InN s.1 p → o p = .gone c → c < s.2.1.length ∧ GoneF p (cAt s.2.1 c)
  few : ∀ (p : Int) (c : Nat), InN s.1 p → (o p = .ret c ∨ ∃ x, o p = .push c x) → c < s.2.1.length
section
variable {C k : Nat} {m : Me} {r : Rest} {p : Int}
theorem turnM_at {m : Me} {p q to : Int} (hp : 0 ≤ p) : nI (turnM m p to).2.1 q = nI m.2.1 q ∨ (q = p ∧ nI (turnM m p to).2.1 q = to) := by
  unfold turnM
  split
  · rename_i h
    show nI (List.set (α := Int) m.2.1 p.toNat to) q = _ ∨ _
    by_cases e : q = p
    · subst e
      right
      refine ⟨rfl, ?_⟩
      show nI (List.set (α := Int) m.2.1 q.toNat to) q = to
      rw [V.nI_set (by omega) (by omega), if_pos ⟨rfl, h.2.1⟩]
    · left
      show List.getD (List.set (α := Int) m.2.1 p.toNat to) q.toNat 0 = List.getD m.2.1 q.toNat 0
      by_cases e2 : p.toNat = q.toNat
      · have : ¬ 0 ≤ q := fun h0 => e (by omega)
        have e0 : q.toNat = 0 := by omega
        have : p.toNat = 0 := by omega
        omega
      · rw [List.getD_eq_getElem?_getD, List.getD_eq_getElem?_getD, List.getElem?_set_ne e2]
  · exact .inl rfl
/-- Only an op that takes a free node turns it so. -/
theorem lMM_fresh {f : Frm} (h8 : 1 ≤ f.1 ∧ f.1 ≤ 8) (h0 : nI m.2.1 p = 0) (h1 : nI (lMM C k m f r).m.2.1 p = 1) (hp : 0 ≤ f.2.2.1.1 ∨ f.1 = 1) : f.1 = 1 ∧ (lMM C k m f r).fs = [] ∧ (lMM C k m f r).r.1 = p ∧ (lMM C k m f r).r.2.1 = 0 := by
  have no : ∀ {m' : Me}, m'.2.1 = m.2.1 → nI m'.2.1 p = 1 → False := fun e h => by rw [e, h0] at h; cases h
  unfold lMM at h1 ⊢
  split at h1
  · rename_i e
    rw [if_pos e]
    refine ⟨e, ?_⟩
    unfold lPop at h1 ⊢
    split at h1
    · split at h1 <;> exact (no rfl h1).elim
    split at h1
    · exact (no rfl h1).elim
    split at h1
    · rename_i c0 c1 c2
      split at h1
      · rename_i c3
        rw [if_neg c0, if_neg c1, if_pos c2, if_pos c3]
        refine ⟨rfl, ?_, rfl⟩
        show idxI _ = p
        rcases turnM_at (m := casM m 0 f.2.2.1.1 (popN f.2.2.1)) (p := idxI f.2.2.1.1) (q := p) (to := 1) (by unfold idxI; omega) with e2 | e2
        · have h1 : nI (turnM (casM m 0 f.2.2.1.1 (popN f.2.2.1)) (idxI f.2.2.1.1) 1).2.1 p = 1 := h1
          rw [e2, casM_G, h0] at h1; cases h1
        · exact e2.1.symm
      · exact (no (casM_G _ _ _ _) h1).elim
    · exact (no rfl h1).elim
  rename_i ne1
  have hp := hp.resolve_right ne1
  exfalso
  split at h1
  · unfold lPush at h1
    split at h1
    · exact no rfl h1
    split at h1
    · exact no (storeM_G _ _ _) h1
    split at h1
    · split at h1
      · rcases turnM_at (m := casM m 0 f.2.2.1.2.1 (pushN f.2.2.1)) (p := f.2.2.1.1) (q := p) (to := 0) hp with e2 | e2
        · have h1 : nI (turnM (casM m 0 f.2.2.1.2.1 (pushN f.2.2.1)) f.2.2.1.1 0).2.1 p = 1 := h1
          rw [e2, casM_G, h0] at h1; cases h1
        · have h1 : nI (turnM (casM m 0 f.2.2.1.2.1 (pushN f.2.2.1)) f.2.2.1.1 0).2.1 p = 1 := h1
          rw [e2.2] at h1; cases h1
      · exact no (casM_G _ _ _ _) h1
    · exact no rfl h1
  split at h1
  · unfold lProt at h1
    split at h1
    · split at h1 <;> exact no rfl h1
    split at h1
    · exact no (storeM_G _ _ _) h1
    split at h1
    · split at h1 <;> exact no rfl h1
    · exact no rfl h1
  split at h1
  · unfold lClear at h1
    split at h1
    · split at h1 <;> exact no (storeM_G _ _ _) h1
    · exact no rfl h1
  split at h1
  · have t2 : nI (turnM m f.2.2.1.1 2).2.1 p = 1 → False := fun h => by
      rcases turnM_at (m := m) (p := f.2.2.1.1) (q := p) (to := 2) hp with e2 | e2
      · rw [e2, h0] at h; cases h
      · rw [e2.2] at h; cases h
    unfold lRetire at h1
    split at h1
    · exact no rfl h1
    split at h1
    · split at h1
      · exact no rfl h1
      split at h1 <;> exact t2 h1
    · exact no rfl h1
  split at h1
  · unfold lScan at h1
    split at h1
    · exact no rfl h1
    split at h1
    · split at h1 <;> exact no rfl h1
    · exact no rfl h1
  split at h1
  · unfold lAlloc at h1
    split at h1
    · exact no rfl h1
    split at h1
    · split at h1
      · exact no rfl h1
      split at h1 <;> exact no rfl h1
    split at h1 <;> exact no rfl h1
  · unfold lDrop at h1
    split at h1
    · exact no rfl h1
    split at h1 <;> exact no rfl h1
end
section
variable {T : Int} {o : OM} {s : Sy} {N : NQ} {k : Nat}
/-- A step of the memory's management keeps it. -/
theorem LgI.mm {F : List Frm} {f : Frm} {r : Rest} (h : MsI T o s N) (g : LgI o s N) (hT : T < 1000000000) (hk : k < s.2.1.length) (hc : cAt s.2.1 k = (F ++ [f], r)) (h8 : 1 ≤ f.1 ∧ f.1 ≤ 8) :
    ∃ o', MsI (T + 1) o' (alS s k) N ∧ LgI o' (alS s k) N := by
  obtain ⟨o', e, hg, hm⟩ := h.step hT hk hc h8
  obtain ⟨f0, U', hF, hU', hs, hq, hk4⟩ := h.shape hk hc h8
  refine ⟨o', hm, ?_⟩
  rw [e]
  obtain ⟨fl, hfl⟩ := h.mm.list
  have hC := h.mm.cores
  have hcr := h.mm.core k hk
  rw [hc] at hcr
  have hst := hcr.st
  rw [rev_one] at hst
  have hn : ((lMM s.2.1.length k s.1 f r).into s k F).2.1.length = s.2.1.length := List.length_set
  have hck : cAt ((lMM s.2.1.length k s.1 f r).into s k F).2.1 k = (F ++ (lMM s.2.1.length k s.1 f r).fs, (lMM s.2.1.length k s.1 f r).r) := cAt_setN hk
  have hco : ∀ c : Nat, c ≠ k → cAt ((lMM s.2.1.length k s.1 f r).into s k F).2.1 c = cAt s.2.1 c := fun c hc => cAt_neN hc
  have htl : ∀ q, IsQ q → tlW (lMM s.2.1.length k s.1 f r).m q = tlW s.1 q := fun q hq => (hg.hd hq (by omega)).2
  have hone := alS_one s k
  rw [e] at hone
  have hin : ∀ p, InN ((lMM s.2.1.length k s.1 f r).into s k F).1 p ↔ InN s.1 p := fun p => hg.chg.inN
  refine ⟨fun q hq hx => ?_, fun c q pc v n t w r3 l r2 hcl he => ?_, fun p c hp' ho => ?_, fun p c hp' ho => ?_, fun p c hp' ho => ?_⟩
  · have hx : idxI (nx (lMM s.2.1.length k s.1 f r).m (idxI (tlW (lMM s.2.1.length k s.1 f r).m q))) ≠ 0 := hx
    rw [htl q hq, (hg.nx (h.qs.tailS hq).1).1] at hx
    obtain ⟨c, c1, v, n, w, r3, l, r2, c2⟩ := g.lag q hq hx
    have ck : c ≠ k := fun e2 => by
      subst e2
      rw [hc] at c2
      have := congrArg Prod.fst c2
      obtain ⟨_, e3⟩ := one_of (show F ++ [f] = _ from this)
      rw [e3] at h8; exact absurd h8.2 (by show ¬ (9 : Int) ≤ 8; decide)
    refine ⟨c, by rw [hn]; exact c1, v, n, w, r3, l, r2, ?_⟩
    rw [hco c ck, c2]
    show _ = ([((9 : Int), (10 : Int), (q, v, n, tlW (lMM s.2.1.length k s.1 f r).m q, w, r3), l, ())], r2)
    rw [htl q hq]
  · rw [hn] at hcl
    have hsm : ∀ {t : Int}, IsQ q → Sm s.1 N q t → Sm (lMM s.2.1.length k s.1 f r).m N q t := fun hq hs a b => by
      rw [htl q hq] at b ⊢
      exact hs a b
    by_cases ck : c = k
    · subst ck
      rw [hck] at he
      have hfs := congrArg Prod.fst he
      have hfs : F ++ (lMM s.2.1.length c s.1 f r).fs = [((9 : Int), pc, (q, v, n, t, w, r3), l, ())] := hfs
      rw [hF] at hfs
      have h1 := List.cons.inj (show f0 :: (U' ++ (lMM s.2.1.length c s.1 f r).fs) = _ from hfs)
      obtain ⟨hu, hl0⟩ := List.append_eq_nil_iff.1 h1.2
      have hf0 := h1.1
      rw [hf0] at hk4 hq
      have hpost : Post c s.1 f (lMM s.2.1.length c s.1 f r).m o' (lMM s.2.1.length c s.1 f r).r := by
        rcases hg.out with ⟨f', q1, _⟩ | ⟨f', g', q1, _⟩ | ⟨_, q2⟩
        · rw [hl0] at q1; cases q1
        · rw [hl0] at q1; cases q1
        · exact q2
      have hr2 : (lMM s.2.1.length c s.1 f r).r = r2 := congrArg Prod.snd he
      rcases hk4 with ⟨_, e2⟩ | ⟨_, e2, e3⟩ | ⟨e2, _⟩ | ⟨e2, _⟩
      · have e2 : pc = 1 := e2
        subst e2
        exact ⟨fun e => by rcases e with e | e <;> exact nope e rfl, fun e => nope e rfl⟩
      · have e2 : pc = 6 := e2
        subst e2
        refine ⟨fun e => by rcases e with e | e <;> exact nope e rfl, fun _ _ _ => ?_⟩
        rw [← hr2]
        show _ = tlW (lMM s.2.1.length c s.1 f r).m q
        rw [htl q hq]
        have := (hpost.prot e3.1).1
        rw [this, e3.2.1]
      · exact nope (show (9 : Int) = 10 from e2) rfl
      · exact nope (show (9 : Int) = 10 from e2) rfl
    · rw [hco c ck] at he
      obtain ⟨h1, h2⟩ := g.same c q pc v n t w r3 l r2 hcl he
      have hq2 : IsQ q := by
        have := h.core c hcl
        rw [he] at this
        cases this with
        | idle e => cases e
        | enq e hq _ _ => have e := List.cons.inj e; obtain ⟨e1, _⟩ := e; cases e1; exact hq
        | deq e _ _ _ => exact nope (show (9 : Int) = 10 from (Prod.mk.inj (List.cons.inj e).1).1) rfl
      exact ⟨fun e => hsm hq2 (h1 e), fun e => hsm hq2 (h2 e)⟩
  · have hp := (hin p).1 hp'
    rw [hn]
    by_cases ck : c = k
    · subst ck
      refine ⟨hk, ?_⟩
      rw [hck]
      have held : HeldF p (F ++ [f], r) → HeldF p (F ++ (lMM s.2.1.length c s.1 f r).fs, (lMM s.2.1.length c s.1 f r).r) := by
        rintro (⟨F1, f1, e1, e2, e3, e4⟩ | ⟨f1, U1, e1, e2, e3, e4, e5⟩)
        · obtain ⟨rfl, e5⟩ := List.append_inj' (show F ++ [f] = F1 ++ [f1] from e1) rfl
          have e5 : f = f1 := (List.cons.inj e5).1
          subst e5
          have e6 : f.1 = 7 ∧ (f.2.1 = 1 ∨ f.2.1 = 3) := e2.resolve_right fun e => absurd h8.2 (by rw [e.1]; decide)
          have e3 : r.2.1 = 0 := e3
          have e4 : r.1 = p := e4
          have hL : (lMM s.2.1.length c s.1 f r).fs = [] ∧ (lMM s.2.1.length c s.1 f r).r.1 = p ∧ (lMM s.2.1.length c s.1 f r).r.2.1 = 0 := by
            rw [lMM7 e6.1]
            unfold lAlloc
            rcases e6.2 with e7 | e7
            · rw [if_neg (by rw [e7]; decide), if_pos e7, if_pos e3]; exact ⟨rfl, e4, rfl⟩
            · rw [if_neg (by rw [e7]; decide), if_neg (by rw [e7]; decide), if_pos e7]; exact ⟨rfl, e4, e3⟩
          obtain ⟨l1, l2, l3⟩ := hL
          have hu : U' = [] := by
            have hw := hst.2.2
            rw [hF, List.reverse_cons] at hw
            exact List.reverse_eq_nil_iff.1 (hw.pre.none (fun g hg2 => hU' g (List.mem_reverse.1 hg2)) (.inr (.inr (.inr (.inl e6.1)))))
          have hf9 : f0.1 = 9 ∧ f0.2.1 = 1 := by
            have hco2 := h.core c hk
            rw [hc, hF, hu] at hco2
            rcases hk4 with e | ⟨_, _, e⟩ | ⟨_, _, e⟩ | ⟨e7, _⟩
            · exact e
            · exact nope (e6.1.symm.trans e.1) rfl
            · exact nope (e6.1.symm.trans e.1) rfl
            · cases hco2 with
              | idle e => cases e
              | enq e _ _ _ => rw [(List.cons.inj (show [f0, f] = _ from e)).1] at e7; exact nope (show (9 : Int) = 10 from e7) rfl
              | deq e' _ _ hI =>
                have e' := List.cons.inj (show [f0, f] = _ from e')
                cases hI with
                | p1a _ u =>
                  obtain ⟨gg, u1, u2, _⟩ := u
                  rw [← e'.2] at u1
                  rw [← (List.cons.inj u1).1] at u2
                  exact nope (e6.1.symm.trans u2) rfl
                | p9a _ u =>
                  obtain ⟨gg, rest, u1, u2⟩ := u
                  rw [← e'.2] at u1
                  rw [← (List.cons.inj u1).1] at u2
                  exact nope (e6.1.symm.trans u2) rfl
                | p0 _ u => rw [← e'.2] at u; cases u
                | p1 _ u => rw [← e'.2] at u; cases u
                | p2 _ u => rw [← e'.2] at u; cases u
                | p3 _ u => rw [← e'.2] at u; cases u
                | p4 _ u => rw [← e'.2] at u; cases u
                | p58 _ u => rw [← e'.2] at u; cases u
                | p9 _ u => rw [← e'.2] at u; cases u
                | p10 _ u => rw [← e'.2] at u; cases u
          refine .inl ⟨[], f0, ?_, .inr hf9, l3, l2⟩
          show F ++ _ = [] ++ [f0]
          rw [l1, hF, hu]; rfl
        · refine .inr ⟨f1, ?_⟩
          have e1 : F ++ [f] = f1 :: U1 := e1
          rw [hF] at e1
          have e6 := List.cons.inj (show f0 :: (U' ++ [f]) = f1 :: U1 from e1)
          refine ⟨U' ++ (lMM s.2.1.length c s.1 f r).fs, ?_, e2, e3, e4, e5⟩
          show F ++ _ = _
          rw [hF, ← e6.1]; rfl
      rcases hg.own p hp with e2 | ⟨e2, _⟩ | ⟨_, e2⟩ | ⟨_, e2⟩ | ⟨_, e2⟩ | ⟨_, e2⟩
      · rw [e2] at ho
        have := (g.hold p c hp ho).2
        rw [hc] at this
        exact held this
      · have h0 := h.mm.stat p hp
        rw [e2] at h0
        have h1 := hg.stat p hp
        rw [show o' p = .fresh c from ho] at h1
        obtain ⟨f1, f2, f3, f4⟩ := lMM_fresh (C := s.2.1.length) (k := c) h8 h0 h1 (by
          by_cases c2 : f.1 = 2
          · exact .inl (Int.le_trans (by decide) (hst.1.push c2).1.1)
          by_cases c5 : f.1 = 5
          · rcases hst.1.retire c5 with e3 | ⟨_, e3, _⟩
            · exfalso
              have : (lMM s.2.1.length c s.1 f r).m = s.1 := by
                unfold lMM
                rw [if_neg (by rw [c5]; decide), if_neg (by rw [c5]; decide), if_neg (by rw [c5]; decide), if_neg (by rw [c5]; decide), if_pos c5]
                unfold lRetire
                rw [if_pos e3]
              rw [this] at h1
              have h1 : nI s.1.2.1 p = 1 := h1
              have h0 : nI s.1.2.1 p = 0 := h0
              rw [h0] at h1; cases h1
            · exact .inl (Int.le_trans (by decide) e3.1)
          by_cases c1 : f.1 = 1
          · exact .inr c1
          · exfalso
            have : (lMM s.2.1.length c s.1 f r).m.2.1 = s.1.2.1 := by
              unfold lMM
              rw [if_neg c1, if_neg c2]
              split
              · unfold lProt; repeat' split
                all_goals first | rfl | exact storeM_G _ _ _
              split
              · unfold lClear; repeat' split
                all_goals first | rfl | exact storeM_G _ _ _
              split
              · unfold lScan; repeat' split
                all_goals rfl
              split
              · unfold lAlloc; repeat' split
                all_goals rfl
              · unfold lDrop; repeat' split
                all_goals rfl
            have h1 : nI (lMM s.2.1.length c s.1 f r).m.2.1 p = 1 := h1
            have h0 : nI s.1.2.1 p = 0 := h0
            rw [this, h0] at h1; cases h1)
        -- the op that waits for it
        have hw := hst.2.2
        rw [hF, List.reverse_cons] at hw
        have hw2 : Wq s.2.1.length (rtL r) f.1 U'.reverse := hw.pre
        cases hUr : U'.reverse with
        | nil =>
          exfalso
          have hu := List.reverse_eq_nil_iff.1 hUr
          rcases hk4 with ⟨e3, e4⟩ | ⟨_, _, e3⟩ | ⟨_, _, e3⟩ | ⟨e3, _⟩
          · have hco2 := h.core c hk
            rw [hc, hF, hu] at hco2
            cases hco2 with
            | idle e => cases e
            | deq e' _ _ _ => rw [(List.cons.inj (show [f0, f] = _ from e')).1] at e3; exact nope (show (10 : Int) = 9 from e3) rfl
            | enq e' _ _ hI =>
              have e' := List.cons.inj (show [f0, f] = _ from e')
              cases hI with
              | p1a _ u =>
                obtain ⟨gg, rest, u1, u2⟩ := u
                rw [← e'.2] at u1
                rw [← (List.cons.inj u1).1] at u2
                exact nope (f1.symm.trans u2) rfl
              | p6a _ u =>
                obtain ⟨gg, u1, u2, _⟩ := u
                rw [← e'.2] at u1
                rw [← (List.cons.inj u1).1] at u2
                exact nope (f1.symm.trans u2) rfl
              | p0 _ u => rw [← e'.2] at u; cases u
              | p1 _ u => rw [← e'.2] at u; cases u
              | p25 _ u => rw [← e'.2] at u; cases u
              | p6 _ u => rw [← e'.2] at u; cases u
              | p7 _ u => rw [← e'.2] at u; cases u
              | p8 _ u => rw [← e'.2] at u; cases u
              | p9 _ u => rw [← e'.2] at u; cases u
              | p10 _ u => rw [← e'.2] at u; cases u
              | p11 _ u => rw [← e'.2] at u; cases u
          · exact nope (f1.symm.trans e3.1) rfl
          · exact nope (f1.symm.trans e3.1) rfl
          · have hco2 := h.core c hk
            rw [hc, hF, hu] at hco2
            cases hco2 with
            | idle e => cases e
            | enq e' _ _ _ => rw [(List.cons.inj (show [f0, f] = _ from e')).1] at e3; exact nope (show (9 : Int) = 10 from e3) rfl
            | deq e' _ _ hI =>
              have e' := List.cons.inj (show [f0, f] = _ from e')
              cases hI with
              | p1a _ u =>
                obtain ⟨gg, u1, u2, _⟩ := u
                rw [← e'.2] at u1
                rw [← (List.cons.inj u1).1] at u2
                exact nope (f1.symm.trans u2) rfl
              | p9a _ u =>
                obtain ⟨gg, rest, u1, u2⟩ := u
                rw [← e'.2] at u1
                rw [← (List.cons.inj u1).1] at u2
                exact nope (f1.symm.trans u2) rfl
              | p0 _ u => rw [← e'.2] at u; cases u
              | p1 _ u => rw [← e'.2] at u; cases u
              | p2 _ u => rw [← e'.2] at u; cases u
              | p3 _ u => rw [← e'.2] at u; cases u
              | p4 _ u => rw [← e'.2] at u; cases u
              | p58 _ u => rw [← e'.2] at u; cases u
              | p9 _ u => rw [← e'.2] at u; cases u
              | p10 _ u => rw [← e'.2] at u; cases u
        | cons x y =>
          rw [hUr] at hw2
          have hx8 := hU' x (List.mem_reverse.1 (by rw [hUr]; exact List.mem_cons_self ..))
          have hwx := hw2.1
          rw [f1] at hwx
          have hx7 : x.1 = 7 ∧ (x.2.1 = 1 ∨ x.2.1 = 3) := by
            have key : ∀ x : Int, 1 ≤ x ∧ x ≤ 8 → x = 1 ∨ x = 2 ∨ x = 3 ∨ x = 4 ∨ x = 5 ∨ x = 6 ∨ x = 7 ∨ x = 8 := fun x hx => by omega
            rcases key x.1 hx8 with e | e | e | e | e | e | e | e
            · exact (hwx.low (.inl e)).elim
            · exact (hwx.low (.inr (.inl e))).elim
            · exact (hwx.low (.inr (.inr (.inl e)))).elim
            · exact (hwx.low (.inr (.inr (.inr e)))).elim
            · exact nope (hwx.retire e).2 rfl
            · exact nope (hwx.scan e).1 rfl
            · rcases hwx.alloc e with ⟨h2, _⟩ | ⟨_, h2⟩
              · exact ⟨e, h2⟩
              · exact nope h2 rfl
            · exact nope (hwx.drop e).2 rfl
          refine .inl ⟨f0 :: y.reverse, x, ?_, .inl hx7, f4, f3⟩
          show F ++ _ = _
          rw [f2, hF, List.append_nil, ← List.reverse_reverse U', hUr, List.reverse_cons]; rfl
      · rw [show o' p = .fresh c from ho] at e2; cases e2
      · rw [show o' p = .fresh c from ho] at e2; cases e2
      · rw [show o' p = .fresh c from ho] at e2; cases e2
      · rw [show o' p = .fresh c from ho] at e2; cases e2
    · have := (hg.chg.owns c p ck hp).1.1 ho
      rw [hco c ck]
      exact g.hold p c hp this
  · have hp := (hin p).1 hp'
    rw [hn]
    by_cases ck : c = k
    · subst ck
      exfalso
      have hold : o p = .gone c := by
        rcases hg.own p hp with e2 | ⟨_, e2⟩ | ⟨_, e2⟩ | ⟨_, e2⟩ | ⟨_, e2⟩ | ⟨_, e2⟩
        · rw [← e2]; exact ho
        all_goals (rw [show o' p = .gone c from ho] at e2; cases e2)
      obtain ⟨_, F1, f1, e1, e2, e3, e4⟩ := g.gone p c hp hold
      rw [hc] at e1
      obtain ⟨_, e5⟩ := List.append_inj' (show F ++ [f] = F1 ++ [f1] from e1) rfl
      have e5 : f = f1 := (List.cons.inj e5).1
      subst e5
      have h1 := hg.stat p hp
      rw [show o' p = .gone c from ho] at h1
      have h1 : nI (lMM s.2.1.length c s.1 f r).m.2.1 p = 1 := h1
      have h0 := h.mm.stat p hp
      rw [hold] at h0
      have h0 : nI s.1.2.1 p = 1 := h0
      have hlen : (rtL r).length ≤ 25 := by
        rcases hcr.few with e | ⟨e, _⟩
        · have e : (rtL r).length ≤ 3 * s.2.1.length := e
          omega
        · have e : (rtL r).length ≤ 3 * s.2.1.length + 1 := e
          omega
      have ht : (turnM s.1 p 2).2.1 = List.set (α := Int) s.1.2.1 p.toNat 2 := by
        rw [turnM_ok hp (by rw [h0]; decide)]; rfl
      have hset : nI (turnM s.1 p 2).2.1 p = 2 := by
        rw [ht, V.nI_set (by have := hp.1; omega) (by have := hp.1; omega), if_pos ⟨rfl, hp.2⟩]
      have hG : (lMM s.2.1.length c s.1 f r).m = turnM s.1 p 2 := by
        unfold lMM
        rw [if_neg (by rw [e2]; decide), if_neg (by rw [e2]; decide), if_neg (by rw [e2]; decide), if_neg (by rw [e2]; decide), if_pos e2]
        unfold lRetire
        rw [if_neg (by rw [e3]; decide), if_pos e3, if_neg (by omega), e4]
        split <;> rfl
      rw [hG, hset] at h1
      cases h1
    · have := (hg.chg.owns c p ck hp).2.1.1 ho
      rw [hco c ck]
      exact g.gone p c hp this
  · have hp := (hin p).1 hp'
    rw [hn]
    by_cases ck : c = k
    · rw [ck]; exact hk
    · refine g.few p c hp (ho.imp (hg.chg.owns c p ck hp).2.2.1.1 fun ⟨x, e2⟩ => ⟨x, ((hg.chg.owns c p ck hp).2.2.2 x).1 e2⟩)
/-- What is asked of a step of a queue's op. -/
structure StepQ (o : OM) (s : Sy) (N : NQ) (k : Nat) (f : Frm) (r : Rest) (L : Loc) (o' : OM) : Prop where
  nxt : ∀ q, IsQ q → tlW L.m q = tlW s.1 q → idxI (nx s.1 (idxI (tlW s.1 q))) = 0 → idxI (nx L.m (idxI (tlW s.1 q))) ≠ 0 → ∃ v n w r3 l, L.fs = [((9 : Int), (10 : Int), (q, v, n, tlW s.1 q, w, r3), l, ())]
  swing : ∀ q v n w r3 l, IsQ q → f = ((9 : Int), (10 : Int), (q, v, n, tlW s.1 q, w, r3), l, ()) → tlW L.m q ≠ tlW s.1 q
  goes : ∀ q pc v n t w r3 l, L.fs = [((9 : Int), pc, (q, v, n, t, w, r3), l, ())] → pc ≠ 6 ∧ (pc = 7 ∨ pc = 9 → IsQ q ∧ PTt s.1 o s.2.1 N k q t ∧ Sm s.1 N q t)
  held : ∀ p, o p = .fresh k → HeldF p ([f], r) → o' p = .fresh k → HeldF p (L.fs, L.r)
theorem LgI.after {f : Frm} {r : Rest} {L : Loc} {o' : OM} {N' : NQ} (h : MsI T o s N) (g : LgI o s N) (hk : k < s.2.1.length) (hc : cAt s.2.1 k = ([f], r)) (h9 : ¬ f.1 ≤ 8) (hm : MsI (T + 1) o' (L.into s k []) N')
    (hw : ∀ q, IsQ q → (hdW L.m q = hdW s.1 q ∨ idxI (hdW L.m q) = idxI (nx s.1 (idxI (hdW s.1 q)))) ∧ (tlW L.m q = tlW s.1 q ∨ N' = N ∧ idxI (tlW L.m q) = idxI (nx s.1 (idxI (tlW s.1 q)))))
    (hwh : ∀ p, InN s.1 p → Whose k o o' L p) (hs : StepQ o s N k f r L o') (hG : L.m.2.1.length = s.1.2.1.length) : LgI o' (L.into s k []) N' := by
  have hn : (L.into s k []).2.1.length = s.2.1.length := List.length_set
  have hck : cAt (L.into s k []).2.1 k = (L.fs, L.r) := cAt_setN hk
  have hco : ∀ c : Nat, c ≠ k → cAt (L.into s k []).2.1 c = cAt s.2.1 c := fun c hc => cAt_neN hc
  have hin : ∀ p, InN (L.into s k []).1 p ↔ InN s.1 p := fun p => by
    unfold InN
    show _ ∧ p < (L.m.2.1.length : Int) ↔ _
    rw [hG]
  -- the tail was moved
  have moved : ∀ q, IsQ q → tlW L.m q ≠ tlW s.1 q → N' = N ∧ ∃ A, N q = A ++ [idxI (tlW s.1 q), idxI (tlW L.m q)] := fun q hq hne => by
    obtain ⟨e1, e2⟩ := (hw q hq).2.resolve_left hne
    refine ⟨e1, ?_⟩
    have hQ := h.qs.q q hq
    have hch := hQ.head
    have ht' := (hm.qs.tailS hq).1.1
    have ht' : 1 ≤ idxI (tlW L.m q) := ht'
    obtain ⟨A, hA | ⟨y, hA⟩⟩ := hQ.tail
    · rw [hA] at hch
      rw [hch.last] at e2
      omega
    · rw [hA] at hch
      have := Chn.next (B := []) hch
      exact ⟨A, by rw [hA, e2, this]⟩
  have sm : ∀ q t, IsQ q → PTt s.1 o s.2.1 N k q t ∨ (∃ c, PTt s.1 o s.2.1 N c q t) → Sm s.1 N q t → (∀ d, o (idxI t) ≠ .fresh d) → Sm L.m N' q t := fun q t hq hpt hsm hnf hmem he => by
    obtain ⟨c, hpt⟩ : ∃ c, PTt s.1 o s.2.1 N c q t := hpt.elim (fun e => ⟨k, e⟩) id
    obtain ⟨hi, ho⟩ := hm.qs.inn q _ hq hmem
    have hi := (hin _).1 hi
    have hosh : o (idxI t) = .shared := by
      rcases hwh _ hi with e | ⟨e, _⟩ | ⟨e, _⟩
      · rw [← e]; exact ho
      · exact absurd e (hnf k)
      · exact e
    have hmem0 := hpt.mem hosh
    by_cases hne : tlW L.m q = tlW s.1 q
    · rw [hne] at he ⊢
      exact hsm hmem0 he
    · exfalso
      obtain ⟨_, A, hA⟩ := moved q hq hne
      have hnd := (h.qs.q q hq).nodup
      obtain ⟨A2, B2, hA2, hb⟩ := hpt.past hmem0
      rw [he] at hb
      have hnd2 := hnd
      rw [hA2] at hnd2
      have e4 : A2 ++ idxI (tlW s.1 q) :: B2 = A ++ idxI (tlW s.1 q) :: [idxI (tlW L.m q)] := by rw [← hA2, hA]
      obtain ⟨eA, eB⟩ := split_uniq hnd2 e4
      rw [hA] at hnd
      have h2 := List.nodup_append.1 hnd
      rcases hb with e | e
      · have := (List.nodup_cons.1 h2.2.1).1
        exact this (by rw [← e]; exact List.mem_cons_self ..)
      · rw [eA] at e
        exact h2.2.2 _ e _ (List.mem_cons_of_mem _ (List.mem_cons_self ..)) rfl
  refine ⟨fun q hq hx => ?_, fun c q pc v n t w r3 l r2 hcl he => ?_, fun p c hp' ho => ?_, fun p c hp' ho => ?_, fun p c hp' ho => ?_⟩
  · have hx : idxI (nx L.m (idxI (tlW L.m q))) ≠ 0 := hx
    by_cases hne : tlW L.m q = tlW s.1 q
    · rw [hne] at hx
      by_cases h0 : idxI (nx s.1 (idxI (tlW s.1 q))) = 0
      · obtain ⟨v, n, w, r3, l, e⟩ := hs.nxt q hq hne h0 hx
        refine ⟨k, by rw [hn]; exact hk, v, n, w, r3, l, L.r, ?_⟩
        rw [hck, e]
        show _ = ([((9 : Int), (10 : Int), (q, v, n, tlW L.m q, w, r3), l, ())], L.r)
        rw [hne]
      · obtain ⟨c, c1, v, n, w, r3, l, r2, c2⟩ := g.lag q hq h0
        have ck : c ≠ k := fun e => by
          subst e
          rw [hc] at c2
          exact hs.swing q v n w r3 l hq (List.cons.inj (congrArg Prod.fst c2)).1 hne
        refine ⟨c, by rw [hn]; exact c1, v, n, w, r3, l, r2, ?_⟩
        rw [hco c ck, c2]
        show _ = ([((9 : Int), (10 : Int), (q, v, n, tlW L.m q, w, r3), l, ())], r2)
        rw [hne]
    · exfalso
      obtain ⟨e1, A, hA⟩ := moved q hq hne
      have hQ' := hm.qs.q q hq
      rw [e1] at hQ'
      have hch := hQ'.head
      have hnd := hQ'.nodup
      obtain ⟨A', hA' | ⟨y, hA'⟩⟩ := hQ'.tail
      · have hA' : N q = A' ++ [idxI (tlW L.m q)] := hA'
        rw [hA'] at hch
        exact hx hch.last
      · have hA' : N q = A' ++ [idxI (tlW L.m q), y] := hA'
        rw [hA] at hA'
        have e3 : (A ++ [idxI (tlW s.1 q)]) ++ [idxI (tlW L.m q)] = (A' ++ [idxI (tlW L.m q)]) ++ [y] := by rw [List.append_assoc, List.append_assoc]; exact hA'
        obtain ⟨e4, _⟩ := List.append_inj' e3 rfl
        obtain ⟨_, e5⟩ := List.append_inj' e4 rfl
        have e5 := (List.cons.inj e5).1
        rw [hA] at hnd
        have h2 := List.nodup_append.1 hnd
        exact (List.nodup_cons.1 h2.2.1).1 (by rw [e5]; exact List.mem_cons_self ..)
  · rw [hn] at hcl
    by_cases ck : c = k
    · subst ck
      rw [hck] at he
      obtain ⟨g1, g2⟩ := hs.goes q pc v n t w r3 l (congrArg Prod.fst he)
      refine ⟨fun e => ?_, fun e => absurd e g1⟩
      obtain ⟨q1, q2, q3⟩ := g2 e
      exact sm q t q1 (.inl q2) q3 fun d => q2.guard.notFresh
    · rw [hco c ck] at he
      obtain ⟨h1, h2⟩ := g.same c q pc v n t w r3 l r2 hcl he
      have := h.core c hcl
      rw [he] at this
      cases this with
      | idle e => cases e
      | deq e _ _ _ => exact nope (show (9 : Int) = 10 from (Prod.mk.inj (List.cons.inj e).1).1) rfl
      | enq e hq _ hI =>
        have e := List.cons.inj e
        obtain ⟨e1, e2⟩ := e
        cases e1
        subst e2
        have go : ∀ t, PTt s.1 o s.2.1 N c q t → Sm s.1 N q t → Sm L.m N' q t := fun t hp hsm => sm q t hq (.inr ⟨c, hp⟩) hsm fun d => hp.guard.notFresh
        refine ⟨fun e => ?_, fun e => ?_⟩
        · have hsm := h1 e
          cases hI with
          | p7 _ _ _ ht => exact go _ ht hsm
          | p9 _ _ _ ht _ => exact go _ ht hsm
          | p1a _ u => obtain ⟨gg, rest, u, _⟩ := u; cases u
          | p6a _ u => obtain ⟨gg, u, _⟩ := u; cases u
          | p0 e2 => subst e2; rcases e with e | e <;> exact nope e rfl
          | p1 e2 => subst e2; rcases e with e | e <;> exact nope e rfl
          | p25 e2 => rcases e with e | e <;> rw [e] at e2 <;> exact absurd e2.2 (by decide)
          | p6 e2 => subst e2; rcases e with e | e <;> exact nope e rfl
          | p8 e2 => subst e2; rcases e with e | e <;> exact nope e rfl
          | p10 e2 => subst e2; rcases e with e | e <;> exact nope e rfl
          | p11 e2 => subst e2; rcases e with e | e <;> exact nope e rfl
        · have hsm := h2 e
          cases hI with
          | p6 _ _ _ ht => exact go _ ht hsm
          | p1a _ u => obtain ⟨gg, rest, u, _⟩ := u; cases u
          | p6a _ u => obtain ⟨gg, u, _⟩ := u; cases u
          | p0 e2 => subst e2; exact nope e rfl
          | p1 e2 => subst e2; exact nope e rfl
          | p25 e2 => rw [e] at e2; exact absurd e2.2 (by decide)
          | p7 e2 => subst e2; exact nope e rfl
          | p8 e2 => subst e2; exact nope e rfl
          | p9 e2 => subst e2; exact nope e rfl
          | p10 e2 => subst e2; exact nope e rfl
          | p11 e2 => subst e2; exact nope e rfl
  · have hp := (hin p).1 hp'
    have hold : o p = .fresh c := by
      rcases hwh p hp with e | ⟨_, e⟩ | ⟨_, e, _⟩
      · rw [← e]; exact ho
      · rw [show o' p = .fresh c from ho] at e; cases e
      · rw [show o' p = .fresh c from ho] at e; cases e
    obtain ⟨g1, g2⟩ := g.hold p c hp hold
    rw [hn]
    refine ⟨g1, ?_⟩
    by_cases ck : c = k
    · subst ck
      rw [hc] at g2
      rw [hck]
      exact hs.held p hold g2 ho
    · rw [hco c ck]; exact g2
  · have hp := (hin p).1 hp'
    rcases hwh p hp with e | ⟨_, e⟩ | ⟨_, e, f', e2⟩
    · have hold : o p = .gone c := by rw [← e]; exact ho
      obtain ⟨g1, g2⟩ := g.gone p c hp hold
      rw [hn]
      refine ⟨g1, ?_⟩
      by_cases ck : c = k
      · subst ck
        exfalso
        obtain ⟨F1, f1, e1, e3, _⟩ := g2
        rw [hc] at e1
        obtain ⟨_, e5⟩ := List.append_inj' (show [] ++ [f] = F1 ++ [f1] from e1) rfl
        have e5 : f = f1 := (List.cons.inj e5).1
        rw [← e5] at e3
        exact h9 (by rw [e3]; decide)
      · rw [hco c ck]; exact g2
    · rw [show o' p = .gone c from ho] at e; cases e
    · rw [show o' p = .gone c from ho] at e
      have := Own.gone.inj e
      subst this
      rw [hn]
      refine ⟨hk, [f'], frm0 5 p 0 0, ?_, rfl, rfl, rfl⟩
      rw [hck, e2]; rfl
  · have hp := (hin p).1 hp'
    rw [hn]
    rcases hwh p hp with e | ⟨_, e⟩ | ⟨_, e, _⟩
    · rw [show o' p = o p from e] at ho
      exact g.few p c hp ho
    · rw [show o' p = .shared from e] at ho
      rcases ho with ho | ⟨x, ho⟩ <;> cases ho
    · rw [show o' p = .gone k from e] at ho
      rcases ho with ho | ⟨x, ho⟩ <;> cases ho
end
end Go.Proofs.YtpobngddiifdpaaGreat.V
