/- Queues: what an op has told since it began. -/
import Derived.Test.YtpobngddiifdpaaGreatZdT3
set_option linter.unusedSimpArgs false
set_option linter.unusedVariables false
namespace Go.Proofs.YtpobngddiifdpaaGreat.V
open Go Go.RowKit Go.Proofs.YtpobngddiifdpaaGreat.Hz
set_option maxRecDepth 100000

/-- A core's own events, but that there was no free node. -/
def isOwn (k : Nat) (e : Evt) : Bool := decide (e.1 = (k : Int)) && decide (e.2.1 ≠ 9)
def ownE (k : Nat) (lg : List Evt) : List Evt := lg.filter (isOwn k)
theorem isOwn_nine {k c : Nat} {a b v : Int} : isOwn k ((c : Int), 9, a, b, v, ()) = false := by
  unfold isOwn
  rw [show decide (((c : Int), (9 : Int), a, b, v, ()).2.1 ≠ 9) = false from rfl, Bool.and_false]
theorem isOwn_other {k c : Nat} {a b v kind : Int} (h : c ≠ k) : isOwn k ((c : Int), kind, a, b, v, ()) = false := by
  unfold isOwn
  rw [show decide (((c : Int), kind, a, b, v, ()).1 = (k : Int)) = false from decide_eq_false (fun e => h (Int.ofNat.inj e)), Bool.false_and]
theorem isOwn_self {k : Nat} {a b v kind : Int} (h : kind ≠ 9) : isOwn k ((k : Int), kind, a, b, v, ()) = true := by
  unfold isOwn
  rw [show decide (((k : Int), kind, a, b, v, ()).1 = (k : Int)) = true from decide_eq_true rfl, show decide (((k : Int), kind, a, b, v, ()).2.1 ≠ 9) = true from decide_eq_true h]; rfl
/-- What a core at something has told since it began. -/
inductive OnC (k : Nat) (evs : List Evt) (cr : Cor) : Prop
  | idle (e : cr.1 = [])
  | enq {pc q v : Int} {r : Den (.cons tI (.cons tI (.cons tI (.cons tI (.cons tI (.cons tI .nil))))))} {l : Li} {U : List Frm} (e : cr.1 = ((9 : Int), pc, (q, v, r), l, ()) :: U) (h : pc ≤ 9 ∧ evs = [] ∨ 10 ≤ pc ∧ evs = [((k : Int), 1, q, 0, v, ())])
  | deq {pc q v h t w x e y : Int} {l : Li} {U : List Frm} (e' : cr.1 = ((10 : Int), pc, (q, v, h, t, w, x, e, y, ()), l, ()) :: U) (h : pc ≤ 8 ∧ evs = [] ∨ 9 ≤ pc ∧ (e = 0 ∧ evs = [((k : Int), 2, q, 0, x, ())] ∨ e = 3 ∧ x = 0 ∧ evs = [((k : Int), 3, q, 0, 0, ())]))
/-- What an op that has ended, begun as this, has told. -/
def Ended (k : Nat) (f : Frm) (evs : List Evt) (r : Rest) : Prop :=
  f.1 = 9 ∧ (evs = [] ∧ r.2.1 = 2 ∨ evs = [((k : Int), 1, f.2.2.1.1, 0, f.2.2.1.2.1, ())] ∧ r.2.1 = 0) ∨
  f.1 = 10 ∧ (evs = [((k : Int), 2, f.2.2.1.1, 0, r.1, ())] ∧ r.2.1 = 0 ∨ evs = [((k : Int), 3, f.2.2.1.1, 0, 0, ())] ∧ r.1 = 0 ∧ r.2.1 = 3)
/-- What a step of a core makes of that. -/
def OnS (k : Nat) (cr : Cor) (evs : List Evt) (cr' : Cor) : Prop :=
  OnC k evs cr' ∧ ∃ f U, cr.1 = f :: U ∧ (cr'.1 = [] → Ended k f evs cr'.2)
section
variable {k : Nat} {evs : List Evt} {F : List Frm} {f : Frm} {r r' : Rest} {fs : List Frm}
theorem OnC.less (h : OnC k evs (F ++ [f], r)) (hF : F ≠ []) : OnS k (F ++ [f], r) evs (F ++ fs, r') := by
  obtain ⟨f0, F', rfl⟩ : ∃ f0 F', F = f0 :: F' := by
    cases F with
    | nil => exact absurd rfl hF
    | cons a b => exact ⟨a, b, rfl⟩
  refine ⟨?_, f0, F' ++ [f], rfl, fun e => by cases e⟩
  cases h with
  | idle e => cases e
  | enq e h => exact .enq (U := F' ++ fs) (by rw [show (f0 :: F' ++ fs, r').1 = f0 :: (F' ++ fs) from rfl, (List.cons.inj e).1]) h
  | deq e h => exact .deq (U := F' ++ fs) (by rw [show (f0 :: F' ++ fs, r').1 = f0 :: (F' ++ fs) from rfl, (List.cons.inj e).1]) h
end
section
variable {T : Int} {o : OM} {s : Sy} {N : NQ} {k : Nat} {r : Rest} {lg : List Evt}
theorem MsI.onPut {pc q v n t w : Int} {r3 : R3'} {l : Li} (h : MsI T o s N) (hk : k < s.2.1.length) (hc : cAt s.2.1 k = ([((9 : Int), pc, (q, v, n, t, w, r3), l, ())], r)) (ho : OnC k lg (cAt s.2.1 k)) :
    OnS k (cAt s.2.1 k) (lg ++ ownE k (lPut k s.1 pc q v n t w r3 l r).ev) ((lPut k s.1 pc q v n t w r3 l r).fs, (lPut k s.1 pc q v n t w r3 l r).r) := by
  have hco := h.core k hk
  rw [hc] at hco ho ⊢
  have hh : pc ≤ 9 ∧ lg = [] ∨ 10 ≤ pc ∧ lg = [((k : Int), 1, q, 0, v, ())] := by
    cases ho with
    | idle e => cases e
    | enq e h => have e := List.cons.inj e; obtain ⟨e1, rfl⟩ := e; cases e1; exact h
    | deq e h => exact nope (show (9 : Int) = 10 from (Prod.mk.inj (List.cons.inj e).1).1) rfl
  have hI : ∃ t2 : Unit, (pc = 1 → Told s.1 o k r) ∧ 0 ≤ pc ∧ pc ≤ 11 := by
    refine ⟨(), ?_⟩
    cases hco with
    | idle e => cases e
    | deq e' _ _ _ => exact nope (show (9 : Int) = 10 from (Prod.mk.inj (List.cons.inj e').1).1) rfl
    | enq e hq hU hI =>
      have e := List.cons.inj e
      obtain ⟨e1, rfl⟩ := e
      cases e1
      cases hI with
      | p1a h u => obtain ⟨g, rest, u, _⟩ := u; cases u
      | p6a h u => obtain ⟨g, u, _⟩ := u; cases u
      | p0 h => subst h; exact ⟨fun e => nope e rfl, by decide, by decide⟩
      | p1 h u ht => subst h; exact ⟨fun _ => ht, by decide, by decide⟩
      | p25 h => obtain ⟨a, b⟩ := h; exact ⟨fun e => by rw [e] at a; exact absurd a (by decide), Int.le_trans (by decide) a, Int.le_trans b (by decide)⟩
      | p6 h => subst h; exact ⟨fun e => nope e rfl, by decide, by decide⟩
      | p7 h => subst h; exact ⟨fun e => nope e rfl, by decide, by decide⟩
      | p8 h => subst h; exact ⟨fun e => nope e rfl, by decide, by decide⟩
      | p9 h => subst h; exact ⟨fun e => nope e rfl, by decide, by decide⟩
      | p10 h => subst h; exact ⟨fun e => nope e rfl, by decide, by decide⟩
      | p11 h => subst h; exact ⟨fun e => nope e rfl, by decide, by decide⟩
  obtain ⟨_, hT, p0, p11⟩ := hI
  have key : ∀ x : Int, 0 ≤ x ∧ x ≤ 11 → x = 0 ∨ x = 1 ∨ x = 2 ∨ x = 3 ∨ x = 4 ∨ x = 5 ∨ x = 6 ∨ x = 7 ∨ x = 8 ∨ x = 9 ∨ x = 10 ∨ x = 11 := fun x hx => by omega
  have stay : ∀ {pc' n' t' w' : Int} {L : Loc} {G : List Frm} {r' : Rest}, (pc ≤ 9 → pc' ≤ 9) → (10 ≤ pc → 10 ≤ pc') → L.ev = [] → L.fs = ((9 : Int), pc', (q, v, n', t', w', r3), l, ()) :: G → OnS k ([((9 : Int), pc, (q, v, n, t, w, r3), l, ())], r) (lg ++ ownE k L.ev) (L.fs, L.r) := by
    intro pc' n' t' w' L G r' h1 h2 h3 h4
    rw [h3, h4, show lg ++ ownE k [] = lg from List.append_nil _]
    exact ⟨.enq (U := G) rfl (hh.imp (fun a => ⟨h1 a.1, a.2⟩) (fun a => ⟨h2 a.1, a.2⟩)), _, [], rfl, fun e => by cases e⟩
  unfold lPut
  rcases key pc ⟨p0, p11⟩ with e | e | e | e | e | e | e | e | e | e | e | e <;> subst e
  · rw [if_pos rfl]; exact stay (r' := r) (fun _ => by decide) (fun e => absurd e (by decide)) rfl rfl
  · rw [if_neg (by decide), if_pos rfl]
    split
    · rename_i hE
      rw [show lg ++ ownE k [] = lg from List.append_nil _]
      refine ⟨.idle rfl, _, [], rfl, fun _ => .inl ⟨rfl, .inl ⟨?_, ?_⟩⟩⟩
      · rcases hh with a | a
        · exact a.2
        · exact absurd a.1 (by decide)
      · rcases hT rfl with a | a
        · exact absurd a.1 hE
        · exact a
    · exact stay (r' := r) (fun _ => by decide) (fun e => absurd e (by decide)) rfl rfl
  · rw [if_neg (by decide), if_neg (by decide), if_pos rfl]; exact stay (r' := r) (fun _ => by decide) (fun e => absurd e (by decide)) rfl rfl
  · rw [if_neg (by decide), if_neg (by decide), if_neg (by decide), if_pos rfl]; exact stay (r' := r) (fun _ => by decide) (fun e => absurd e (by decide)) rfl rfl
  · rw [if_neg (by decide), if_neg (by decide), if_neg (by decide), if_neg (by decide), if_pos rfl]; exact stay (r' := r) (fun _ => by decide) (fun e => absurd e (by decide)) rfl rfl
  · rw [if_neg (by decide), if_neg (by decide), if_neg (by decide), if_neg (by decide), if_neg (by decide), if_pos rfl]; exact stay (r' := r) (fun _ => by decide) (fun e => absurd e (by decide)) rfl rfl
  · rw [if_neg (by decide), if_neg (by decide), if_neg (by decide), if_neg (by decide), if_neg (by decide), if_neg (by decide), if_pos rfl]; exact stay (r' := r) (fun _ => by decide) (fun e => absurd e (by decide)) rfl rfl
  · rw [if_neg (by decide), if_neg (by decide), if_neg (by decide), if_neg (by decide), if_neg (by decide), if_neg (by decide), if_neg (by decide), if_pos rfl]
    refine stay (r' := r) (fun _ => ?_) (fun e => absurd e (by decide)) rfl rfl
    split <;> decide
  · rw [if_neg (by decide), if_neg (by decide), if_neg (by decide), if_neg (by decide), if_neg (by decide), if_neg (by decide), if_neg (by decide), if_neg (by decide), if_pos rfl]; exact stay (r' := r) (fun _ => by decide) (fun e => absurd e (by decide)) rfl rfl
  · rw [if_neg (by decide), if_neg (by decide), if_neg (by decide), if_neg (by decide), if_neg (by decide), if_neg (by decide), if_neg (by decide), if_neg (by decide), if_neg (by decide), if_pos rfl]
    split
    · rcases hh with a | a
      · rw [a.2, show ownE k [((k : Int), (1 : Int), q, (0 : Int), v, ())] = [((k : Int), (1 : Int), q, (0 : Int), v, ())] from by unfold ownE; rw [List.filter_cons_of_pos (isOwn_self (by decide)), List.filter_nil]]
        exact ⟨.enq (U := []) rfl (.inr ⟨by decide, rfl⟩), _, [], rfl, fun e => by cases e⟩
      · exact absurd a.1 (by decide)
    · exact stay (r' := r) (fun _ => by decide) (fun e => absurd e (by decide)) rfl rfl
  · rw [if_neg (by decide), if_neg (by decide), if_neg (by decide), if_neg (by decide), if_neg (by decide), if_neg (by decide), if_neg (by decide), if_neg (by decide), if_neg (by decide), if_neg (by decide), if_pos rfl]; exact stay (r' := r) (fun e => absurd e (by decide)) (fun _ => by decide) rfl rfl
  · rw [if_neg (by decide), if_neg (by decide), if_neg (by decide), if_neg (by decide), if_neg (by decide), if_neg (by decide), if_neg (by decide), if_neg (by decide), if_neg (by decide), if_neg (by decide), if_neg (by decide), if_pos rfl]
    rw [show lg ++ ownE k [] = lg from List.append_nil _]
    refine ⟨.idle rfl, _, [], rfl, fun _ => .inl ⟨rfl, .inr ⟨?_, rfl⟩⟩⟩
    rcases hh with a | a
    · exact absurd a.1 (by decide)
    · exact a.2
theorem MsI.onTake {pc q v hd t w x e y : Int} {l : Li} (h : MsI T o s N) (hk : k < s.2.1.length) (hc : cAt s.2.1 k = ([((10 : Int), pc, (q, v, hd, t, w, x, e, y, ()), l, ())], r)) (ho : OnC k lg (cAt s.2.1 k)) :
    OnS k (cAt s.2.1 k) (lg ++ ownE k (lTake k s.1 pc q v hd t w x e y l r).ev) ((lTake k s.1 pc q v hd t w x e y l r).fs, (lTake k s.1 pc q v hd t w x e y l r).r) := by
  have hco := h.core k hk
  rw [hc] at hco ho ⊢
  have hh : pc ≤ 8 ∧ lg = [] ∨ 9 ≤ pc ∧ (e = 0 ∧ lg = [((k : Int), 2, q, 0, x, ())] ∨ e = 3 ∧ x = 0 ∧ lg = [((k : Int), 3, q, 0, 0, ())]) := by
    cases ho with
    | idle e => cases e
    | enq e h => exact nope (show (10 : Int) = 9 from (Prod.mk.inj (List.cons.inj e).1).1) rfl
    | deq e h => have e := List.cons.inj e; obtain ⟨e1, rfl⟩ := e; cases e1; exact h
  have hI : 0 ≤ pc ∧ pc ≤ 10 := by
    cases hco with
    | idle e => cases e
    | enq e' _ _ _ => exact nope (show (10 : Int) = 9 from (Prod.mk.inj (List.cons.inj e').1).1) rfl
    | deq e hq hU hI =>
      have e := List.cons.inj e
      obtain ⟨e1, rfl⟩ := e
      cases e1
      cases hI with
      | p1a h u => obtain ⟨g, u, _⟩ := u; cases u
      | p9a h u => obtain ⟨g, rest, u, _⟩ := u; cases u
      | p0 h => subst h; decide
      | p1 h u ht => subst h; decide
      | p2 h => subst h; decide
      | p3 h => subst h; decide
      | p4 h => subst h; decide
      | p58 h => obtain ⟨a, b⟩ := h; exact ⟨Int.le_trans (by decide) a, Int.le_trans b (by decide)⟩
      | p9 h => subst h; decide
      | p10 h => subst h; decide
  have key : ∀ x : Int, 0 ≤ x ∧ x ≤ 10 → x = 0 ∨ x = 1 ∨ x = 2 ∨ x = 3 ∨ x = 4 ∨ x = 5 ∨ x = 6 ∨ x = 7 ∨ x = 8 ∨ x = 9 ∨ x = 10 := fun x hx => by omega
  have stay : ∀ {pc' h' t' w' x' e' y' : Int} {L : Loc} {G : List Frm}, (pc ≤ 8 ∧ pc' ≤ 8 ∨ 9 ≤ pc ∧ 9 ≤ pc' ∧ x' = x ∧ e' = e) → L.ev = [] → L.fs = ((10 : Int), pc', (q, v, h', t', w', x', e', y', ()), l, ()) :: G → OnS k ([((10 : Int), pc, (q, v, hd, t, w, x, e, y, ()), l, ())], r) (lg ++ ownE k L.ev) (L.fs, L.r) := by
    intro pc' h' t' w' x' e' y' L G h1 h3 h4
    rw [h3, h4, show lg ++ ownE k [] = lg from List.append_nil _]
    refine ⟨.deq (U := G) rfl ?_, _, [], rfl, fun e => by cases e⟩
    rcases h1 with ⟨a, b⟩ | ⟨a, b, c, d⟩
    · left
      refine ⟨b, (hh.resolve_right fun z => ?_).2⟩
      exact absurd (Int.le_trans z.1 a) (by decide)
    · right
      rw [c, d]
      refine ⟨b, (hh.resolve_left fun z => ?_).2⟩
      exact absurd (Int.le_trans a z.1) (by decide)
  unfold lTake
  rcases key pc hI with e1 | e1 | e1 | e1 | e1 | e1 | e1 | e1 | e1 | e1 | e1 <;> subst e1
  · rw [if_pos rfl]; exact stay (.inl ⟨by decide, by decide⟩) rfl rfl
  · rw [if_neg (by decide), if_pos rfl]; exact stay (.inl ⟨by decide, by decide⟩) rfl rfl
  · rw [if_neg (by decide), if_neg (by decide), if_pos rfl]; exact stay (.inl ⟨by decide, by decide⟩) rfl rfl
  · rw [if_neg (by decide), if_neg (by decide), if_neg (by decide), if_pos rfl]
    have hl : lg = [] := by
      rcases hh with a | a
      · exact a.2
      · exact absurd a.1 (by decide)
    split
    · rw [hl, show ownE k [((k : Int), (3 : Int), q, (0 : Int), (0 : Int), ())] = [((k : Int), (3 : Int), q, (0 : Int), (0 : Int), ())] from by unfold ownE; rw [List.filter_cons_of_pos (isOwn_self (by decide)), List.filter_nil]]
      exact ⟨.deq (U := []) rfl (.inr ⟨by decide, .inr ⟨rfl, rfl, rfl⟩⟩), _, [], rfl, fun e => by cases e⟩
    · split
      · exact stay (.inl ⟨by decide, by decide⟩) rfl rfl
      · exact stay (.inl ⟨by decide, by decide⟩) rfl rfl
  · rw [if_neg (by decide), if_neg (by decide), if_neg (by decide), if_neg (by decide), if_pos rfl]; exact stay (.inl ⟨by decide, by decide⟩) rfl rfl
  · rw [if_neg (by decide), if_neg (by decide), if_neg (by decide), if_neg (by decide), if_neg (by decide), if_pos rfl]; exact stay (.inl ⟨by decide, by decide⟩) rfl rfl
  · rw [if_neg (by decide), if_neg (by decide), if_neg (by decide), if_neg (by decide), if_neg (by decide), if_neg (by decide), if_pos rfl]
    split
    · exact stay (.inl ⟨by decide, by decide⟩) rfl rfl
    · exact stay (.inl ⟨by decide, by decide⟩) rfl rfl
  · rw [if_neg (by decide), if_neg (by decide), if_neg (by decide), if_neg (by decide), if_neg (by decide), if_neg (by decide), if_neg (by decide), if_pos rfl]; exact stay (.inl ⟨by decide, by decide⟩) rfl rfl
  · rw [if_neg (by decide), if_neg (by decide), if_neg (by decide), if_neg (by decide), if_neg (by decide), if_neg (by decide), if_neg (by decide), if_neg (by decide), if_pos rfl]
    split
    · rcases hh with a | a
      · rw [a.2, show ownE k [((k : Int), (2 : Int), q, (0 : Int), x, ())] = [((k : Int), (2 : Int), q, (0 : Int), x, ())] from by unfold ownE; rw [List.filter_cons_of_pos (isOwn_self (by decide)), List.filter_nil]]
        exact ⟨.deq rfl (.inr ⟨by decide, .inl ⟨rfl, rfl⟩⟩), _, [], rfl, fun e => by cases e⟩
      · exact absurd a.1 (by decide)
    · exact stay (.inl ⟨by decide, by decide⟩) rfl rfl
  · rw [if_neg (by decide), if_neg (by decide), if_neg (by decide), if_neg (by decide), if_neg (by decide), if_neg (by decide), if_neg (by decide), if_neg (by decide), if_neg (by decide), if_pos rfl]; exact stay (.inr ⟨by decide, by decide, rfl, rfl⟩) rfl rfl
  · rw [if_neg (by decide), if_neg (by decide), if_neg (by decide), if_neg (by decide), if_neg (by decide), if_neg (by decide), if_neg (by decide), if_neg (by decide), if_neg (by decide), if_neg (by decide), if_pos rfl]
    rw [show lg ++ ownE k [] = lg from List.append_nil _]
    refine ⟨.idle rfl, _, [], rfl, fun _ => .inr ⟨rfl, ?_⟩⟩
    rcases hh with a | a
    · exact absurd a.1 (by decide)
    · rcases a.2 with ⟨a, b⟩ | ⟨a, b, c⟩
      · exact .inl ⟨b, a⟩
      · exact .inr ⟨c, b, a⟩
/-- A step of core k: its own events, and what others have told. -/
theorem MqI.on (h : MqI T o s N) (hT : T < 1000000000) (hk : k < s.2.1.length) (hb : (cAt s.2.1 k).1 ≠ []) : ∃ ev, (msqS s k).2.2.1 = s.2.2.1 ++ ev ∧ (∀ c : Nat, c ≠ k → ownE c ev = [] ∧ cAt (msqS s k).2.1 c = cAt s.2.1 c) ∧ ∀ lg, OnC k lg (cAt s.2.1 k) → OnS k (cAt s.2.1 k) (lg ++ ownE k ev) (cAt (msqS s k).2.1 k) := by
  obtain ⟨F, f, r, hc⟩ : ∃ F f r, cAt s.2.1 k = (F ++ [f], r) := by
    obtain ⟨F, f, e⟩ : ∃ F f, (cAt s.2.1 k).1 = F ++ [f] := by
      obtain ⟨F, f, e⟩ := (List.eq_nil_or_concat (cAt s.2.1 k).1).resolve_left hb
      exact ⟨F, f, by rw [e, List.concat_eq_append]⟩
    exact ⟨F, f, (cAt s.2.1 k).2, by rw [← e]⟩
  have hC := h.mm.cores
  have ht : topI s k = some f := by rw [topI_is (by omega) (by omega), hc]; exact List.getLast?_concat
  have hco := h.core k hk
  by_cases h8 : 1 ≤ f.1 ∧ f.1 ≤ 8
  · have hno : ¬ (f.1 = 9 ∨ f.1 = 10) := fun e => by rcases e with e | e <;> rw [e] at h8 <;> exact absurd h8.2 (by decide)
    have e0 : msqS s k = alS s k := by
      rw [msqS_some ht]
      exact if_neg hno
    obtain ⟨o', e, hg, hm⟩ := h.toMsI.step hT hk hc h8
    have hown : ∀ c : Nat, ownE c (lMM s.2.1.length k s.1 f r).ev = [] := fun c => by
      rcases hg.log with e1 | e1
      · rw [e1]; rfl
      · rw [e1]; unfold ownE; rw [List.filter_cons_of_neg (by rw [isOwn_nine]; decide), List.filter_nil]
    rw [e0, e]
    refine ⟨_, rfl, fun c hcc => ⟨hown c, cAt_neN hcc⟩, fun lg hl => ?_⟩
    rw [show cAt ((lMM s.2.1.length k s.1 f r).into s k F).2.1 k = (F ++ (lMM s.2.1.length k s.1 f r).fs, (lMM s.2.1.length k s.1 f r).r) from cAt_setN hk, hown k, List.append_nil]
    rw [hc] at hl hco ⊢
    refine hl.less fun e => ?_
    subst e
    cases hco with
    | idle e => cases e
    | enq e' _ _ _ => rw [(List.cons.inj (show [f] = _ from e')).1] at h8; exact absurd h8.2 (by show ¬ (9 : Int) ≤ 8; decide)
    | deq e' _ _ _ => rw [(List.cons.inj (show [f] = _ from e')).1] at h8; exact absurd h8.2 (by show ¬ (10 : Int) ≤ 8; decide)
  · have key : ∃ (hop : f.1 = 9 ∨ f.1 = 10) (hF : F = []) (hq : 0 ≤ f.2.2.1.1 ∧ f.2.2.1.1 ≤ 7), (∃ a b v kind, (lQ k s.1 f r).ev = [] ∨ (lQ k s.1 f r).ev = [((k : Int), kind, a, b, v, ())]) ∧ ∀ lg, OnC k lg (cAt s.2.1 k) → OnS k (cAt s.2.1 k) (lg ++ ownE k (lQ k s.1 f r).ev) ((lQ k s.1 f r).fs, (lQ k s.1 f r).r) := by
      have small : ∀ (f0 : Frm) (U : List Frm), F ++ [f] = f0 :: U → (∀ g ∈ U, 1 ≤ g.1 ∧ g.1 ≤ 8) → F = [] ∧ f = f0 ∧ U = [] := fun f0 U e hU => by
        by_cases c : U = []
        · subst c
          obtain ⟨a, b⟩ := one_of e
          exact ⟨a, b, rfl⟩
        · exfalso
          obtain ⟨U', _, e2⟩ := snoc_of e c
          exact h8 (hU f (by rw [e2]; simp))
      have sh : ∀ {m m' : Me} {ev : List Evt}, Eff k N m N m' ev ∨ True → True := fun _ => trivial
      have evs : ∀ {L : Loc}, After T o s N k L → ∃ a b v kind, L.ev = [] ∨ L.ev = [((k : Int), kind, a, b, v, ())] := fun ha => by
        obtain ⟨_, _, _, heff, _⟩ := ha
        cases heff with
        | none h => exact ⟨0, 0, 0, 0, .inl h⟩
        | enq _ h => exact ⟨_, _, _, _, .inr h⟩
        | deq _ h => exact ⟨_, _, _, _, .inr h⟩
        | empty _ h => exact ⟨_, _, _, _, .inr h⟩
      rw [hc] at hco
      cases hco with
      | idle e => exact absurd e (by simp)
      | @enq pc q v n t w r3 l U e hq hU hI =>
        obtain ⟨rfl, rfl, rfl⟩ := small _ U e hU
        obtain ⟨hq, ha⟩ := h.toMsI.put hT hk hc
        have hq7 : 0 ≤ q ∧ q ≤ 7 := by rcases hq with e | e <;> omega
        exact ⟨.inl rfl, rfl, hq7, evs ha, fun lg hl => h.toMsI.onPut hk hc hl⟩
      | @deq pc q v hh t w x e y l U e' hq hU hI =>
        obtain ⟨rfl, rfl, rfl⟩ := small _ U e' hU
        obtain ⟨hq, ha⟩ := h.toMsI.take hT hk hc
        have hq7 : 0 ≤ q ∧ q ≤ 7 := by rcases hq with e | e <;> omega
        exact ⟨.inr rfl, rfl, hq7, evs ha, fun lg hl => h.toMsI.onTake hk hc hl⟩
    obtain ⟨hop, hF, hq, ⟨a, b, v, kind, hev⟩, hon⟩ := key
    subst hF
    have e := msq_loc (k := (k : Int)) (by omega) (by omega) (by show 0 ≤ 38; decide) hc hop hq
    rw [e]
    refine ⟨_, rfl, fun c hcc => ⟨?_, cAt_neN hcc⟩, fun lg hl => ?_⟩
    · rcases hev with e | e
      · rw [e]; rfl
      · rw [e]; unfold ownE; rw [List.filter_cons_of_neg (by rw [isOwn_other (Ne.symm hcc)]; decide), List.filter_nil]
    · rw [show cAt ((lQ k s.1 f r).into s k []).2.1 k = ((lQ k s.1 f r).fs, (lQ k s.1 f r).r) from cAt_setN hk]
      exact hon lg hl
end
end Go.Proofs.YtpobngddiifdpaaGreat.V
