/- Queues: what the log tells; a step of any core; a core begins. -/
import Derived.Test.YtpobngddiifdpaaGreatZdN9
import Derived.Test.YtpobngddiifdpaaGreatZdV23
set_option linter.unusedSimpArgs false
set_option linter.unusedVariables false
namespace Go.Proofs.YtpobngddiifdpaaGreat.V
open Go Go.RowKit Go.Proofs.YtpobngddiifdpaaGreat.Hz
set_option maxRecDepth 100000

/-- What a queue holds, an event more. -/
def playE (q : Int) (out : List Int) (e : Evt) : Option (List Int) :=
  if e.2.2.1 ≠ q then some out
  else if e.2.1 = 1 then some (out ++ [e.2.2.2.2.1])
  else if e.2.1 = 2 then (match out with
    | [] => none
    | x :: l => if x = e.2.2.2.2.1 then some l else none)
  else if e.2.1 = 3 then (match out with
    | [] => some []
    | _ :: _ => none)
  else some out
def playI (q : Int) : List Int → List Evt → Option (List Int)
  | out, [] => some out
  | out, e :: l => match playE q out e with
    | none => none
    | some out => playI q out l
theorem playI_snoc {q : Int} {e : Evt} : ∀ {l : List Evt} {out out' : List Int}, playI q out l = some out' → playI q out (l ++ [e]) = playE q out' e
  | [], out, out', h => by
    rw [← Option.some.inj (show some out = some out' from h)]
    show (match playE q out e with | none => none | some out => playI q out []) = _
    cases playE q out e <;> rfl
  | x :: l, out, out', h => by
    have h : (match playE q out x with | none => none | some out => playI q out l) = some out' := h
    show (match playE q out x with | none => none | some out => playI q out (l ++ [e])) = _
    cases hx : playE q out x with
    | none => rw [hx] at h; cases h
    | some o2 => rw [hx] at h; exact playI_snoc h
/-- What a queue holds. -/
def itemsQ (m : Me) (N : List Int) : List Int := N.tail.map (vl m)
def LogQ (m : Me) (lg : List Evt) (N : NQ) : Prop := ∀ q, IsQ q → playI q [] lg = some (itemsQ m (N q))
theorem items_same {m m' : Me} {N : List Int} (h : ∀ p ∈ N, vl m' p = vl m p) : itemsQ m' N = itemsQ m N :=
  List.map_congr_left fun p hp => h p (List.mem_of_mem_tail hp)
section
variable {m m' : Me} {N N' : NQ} {lg ev : List Evt} {k : Nat} {o : OM}
theorem LogQ.eff (h : LogQ m lg N) (hne : ∀ q, IsQ q → N q ≠ []) (he : Eff k N m N' m' ev) (hv : ∀ q p, IsQ q → p ∈ N q → vl m' p = vl m p) : LogQ m' (lg ++ ev) N' := by
  intro q2 h2
  have hs := items_same (fun p hp => hv q2 p h2 hp)
  have hp := h q2 h2
  cases he with
  | none h1 e => rw [h1, e, List.append_nil, hs]; exact hp
  | @enq q n v hq h1 e hval =>
    rw [h1, playI_snoc hp, e]
    unfold playE
    by_cases c : q2 = q
    · subst c
      rw [if_neg (fun h => h rfl), if_pos rfl, updQ_self]
      obtain ⟨x, l, hN⟩ : ∃ x l, N q2 = x :: l := by
        cases hN : N q2 with
        | nil => exact absurd hN (hne q2 h2)
        | cons x l => exact ⟨x, l, rfl⟩
      rw [← hs]
      unfold itemsQ
      rw [hN]
      show some (l.map (vl m') ++ [v]) = some ((l ++ [n]).map (vl m'))
      rw [List.map_append, ← hval]
      rfl
    · rw [if_pos (show ((k : Int), (1 : Int), q, (0 : Int), v, ()).2.2.1 ≠ q2 from fun e => c e.symm), updQ_ne c, hs]
  | @deq q x p v l hq h1 hN e hval =>
    rw [h1, playI_snoc hp, e]
    unfold playE
    by_cases c : q2 = q
    · subst c
      rw [if_neg (fun h => h rfl), if_neg (show ¬ (2 : Int) = 1 by decide), if_pos rfl, updQ_self]
      have hi : itemsQ m (N q2) = v :: l.map (vl m) := by unfold itemsQ; rw [hN, ← hval]; rfl
      have hi2 : itemsQ m' (p :: l) = l.map (vl m) := by
        unfold itemsQ
        refine List.map_congr_left fun y hy => hv q2 y h2 ?_
        rw [hN]
        exact List.mem_cons_of_mem _ (List.mem_cons_of_mem _ hy)
      rw [hi, hi2]
      show (if v = v then some (l.map (vl m)) else none) = _
      rw [if_pos rfl]
    · rw [if_pos (show ((k : Int), (2 : Int), q, (0 : Int), v, ()).2.2.1 ≠ q2 from fun e => c e.symm), updQ_ne c, hs]
  | @empty q x hq h1 hN e =>
    rw [h1, playI_snoc hp, e]
    unfold playE
    by_cases c : q2 = q
    · subst c
      rw [if_neg (fun h => h rfl), if_neg (show ¬ (3 : Int) = 1 by decide), if_neg (show ¬ (3 : Int) = 2 by decide), if_pos rfl, hs]
      unfold itemsQ
      rw [hN]
      rfl
    · rw [if_pos (show ((k : Int), (3 : Int), q, (0 : Int), (0 : Int), ()).2.2.1 ≠ q2 from fun e => c e.symm), hs]
end
/-- The queues, and what is told of them. -/
structure MqI (T : Int) (o : OM) (s : Sy) (N : NQ) : Prop extends MsI T o s N where
  log : LogQ s.1 s.2.2.1 N
/-- What a step did. -/
structure Did (s : Sy) (k : Nat) (t : Sy) : Prop where
  cores : t.2.1.length = s.2.1.length
  glen : t.1.2.1.length = s.1.2.1.length
  one : oneSet s.1.2.1 t.1.2.1
  log : ∃ ev, t.2.2.1 = s.2.2.1 ++ ev ∧ ev.length ≤ 1
  words : ∀ q, IsQ q → (idxI (hdW t.1 q) = idxI (hdW s.1 q) ∨ idxI (hdW t.1 q) = idxI (nx s.1 (idxI (hdW s.1 q)))) ∧ (idxI (tlW t.1 q) = idxI (tlW s.1 q) ∨ idxI (tlW t.1 q) = idxI (nx s.1 (idxI (tlW s.1 q))))
section
variable {T : Int} {o : OM} {s : Sy} {N : NQ} {k : Nat}
theorem Eff.short {m m' : Me} {N N' : NQ} {ev : List Evt} (h : Eff k N m N' m' ev) : ev.length ≤ 1 := by
  cases h with
  | none h => rw [h]; exact Nat.zero_le _
  | enq _ h => rw [h]; exact Nat.le_refl _
  | deq _ h => rw [h]; exact Nat.le_refl _
  | empty _ h => rw [h]; exact Nat.le_refl _
theorem MsI.good (h : MsI T o s N) : s.1.2.2.1 = false := by
  obtain ⟨l, hl⟩ := h.mm.list
  exact hl.good
def KeepG (m : Me) (L : Loc) : Prop := L.m.2.1 = m.2.1
theorem KeepG.ite {m : Me} {c : Prop} {_ : Decidable c} {a b : Loc} (h1 : KeepG m a) (h2 : KeepG m b) : KeepG m (if c then a else b) := by
  by_cases h : c
  · rw [if_pos h]; exact h1
  · rw [if_neg h]; exact h2
theorem lPut_keepG {m : Me} {kk pc q v n t w : Int} {r3 : R3'} {l : Li} {r : Rest} : KeepG m (lPut kk m pc q v n t w r3 l r) := by
  unfold lPut
  repeat' apply KeepG.ite
  all_goals first | exact rfl | exact storeM_G _ _ _ | exact casM_G _ _ _ _
theorem lTake_keepG {m : Me} {kk pc q v h t w x e y : Int} {l : Li} {r : Rest} : KeepG m (lTake kk m pc q v h t w x e y l r) := by
  unfold lTake
  repeat' apply KeepG.ite
  all_goals first | exact rfl | exact storeM_G _ _ _ | exact casM_G _ _ _ _
theorem lQ_keepG {m : Me} {f : Frm} {r : Rest} : KeepG m (lQ k m f r) := by
  unfold lQ
  split
  · exact lPut_keepG
  · exact lTake_keepG
theorem lQ_glen {m : Me} {f : Frm} {r : Rest} : (lQ k m f r).m.2.1.length = m.2.1.length := congrArg List.length (show _ = m.2.1 from lQ_keepG (m := m))
/-- A step of a core that is at an op. -/
theorem MqI.turn (h : MqI T o s N) (hT : T < 1000000000) (hk : k < s.2.1.length) (hb : (cAt s.2.1 k).1 ≠ []) : ∃ o' N', MqI (T + 1) o' (msqS s k) N' ∧ Did s k (msqS s k) := by
  obtain ⟨F, f, r, hc⟩ : ∃ F f r, cAt s.2.1 k = (F ++ [f], r) := by
    obtain ⟨F, f, e⟩ : ∃ F f, (cAt s.2.1 k).1 = F ++ [f] := by
      obtain ⟨F, f, e⟩ := (List.eq_nil_or_concat (cAt s.2.1 k).1).resolve_left hb
      exact ⟨F, f, by rw [e, List.concat_eq_append]⟩
    exact ⟨F, f, (cAt s.2.1 k).2, by rw [← e]⟩
  have hC := h.mm.cores
  have ht : topI s k = some f := by rw [topI_is (by omega) (by omega), hc]; exact List.getLast?_concat
  have hne : ∀ q, IsQ q → N q ≠ [] := fun q hq => (h.qs.q q hq).ne
  have hco := h.core k hk
  rw [hc] at hco
  by_cases h8 : 1 ≤ f.1 ∧ f.1 ≤ 8
  · have hno : ¬ (f.1 = 9 ∨ f.1 = 10) := fun e => by rcases e with e | e <;> rw [e] at h8 <;> exact absurd h8.2 (by decide)
    have e0 : msqS s k = alS s k := by
      rw [msqS_some ht]
      exact if_neg hno
    obtain ⟨o', e, hg, hm⟩ := h.toMsI.step hT hk hc h8
    rw [e0]
    refine ⟨o', N, ⟨hm, ?_⟩, ?_⟩
    · rw [e]
      intro q hq
      have hs : itemsQ (lMM s.2.1.length k s.1 f r).m (N q) = itemsQ s.1 (N q) := items_same fun p hp => (hg.nx (h.qs.inn q p hq hp).1).2
      show playI q [] (s.2.2.1 ++ (lMM s.2.1.length k s.1 f r).ev) = some (itemsQ (lMM s.2.1.length k s.1 f r).m (N q))
      rw [hs]
      rcases hg.log with e1 | e1
      · rw [e1, List.append_nil]; exact h.log q hq
      · rw [e1, playI_snoc (h.log q hq)]
        unfold playE
        split
        · rfl
        · rw [if_neg (show ¬ (9 : Int) = 1 by decide), if_neg (show ¬ (9 : Int) = 2 by decide), if_neg (show ¬ (9 : Int) = 3 by decide)]
    · have hone := alS_one s k
      rw [e] at hone ⊢
      refine ⟨List.length_set, hg.chg.glen, hone, ⟨_, rfl, ?_⟩, fun q hq => ?_⟩
      · rcases hg.log with e1 | e1 <;> rw [e1]
        · exact Nat.zero_le _
        · exact Nat.le_refl _
      · obtain ⟨e1, e2⟩ := hg.hd hq (by omega)
        exact ⟨.inl (congrArg idxI e1), .inl (congrArg idxI e2)⟩
  · have key : ∃ (hop : f.1 = 9 ∨ f.1 = 10) (hF : F = []) (hq : 0 ≤ f.2.2.1.1 ∧ f.2.2.1.1 ≤ 7), After T o s N k (lQ k s.1 f r) := by
      have small : ∀ (f0 : Frm) (U : List Frm), F ++ [f] = f0 :: U → (∀ g ∈ U, 1 ≤ g.1 ∧ g.1 ≤ 8) → F = [] ∧ f = f0 ∧ U = [] := fun f0 U e hU => by
        by_cases c : U = []
        · subst c
          obtain ⟨a, b⟩ := one_of e
          exact ⟨a, b, rfl⟩
        · exfalso
          obtain ⟨U', _, e2⟩ := snoc_of e c
          exact h8 (hU f (by rw [e2]; simp))
      cases hco with
      | idle e => exact absurd e (by simp)
      | @enq pc q v n t w r3 l U e hq hU hI =>
        obtain ⟨rfl, rfl, rfl⟩ := small _ U e hU
        obtain ⟨hq, ha⟩ := h.toMsI.put hT hk hc
        have hq7 : 0 ≤ q ∧ q ≤ 7 := by rcases hq with e | e <;> omega
        exact ⟨.inl rfl, rfl, hq7, ha⟩
      | @deq pc q v hh t w x e y l U e' hq hU hI =>
        obtain ⟨rfl, rfl, rfl⟩ := small _ U e' hU
        obtain ⟨hq, ha⟩ := h.toMsI.take hT hk hc
        have hq7 : 0 ≤ q ∧ q ≤ 7 := by rcases hq with e | e <;> omega
        exact ⟨.inr rfl, rfl, hq7, ha⟩
    obtain ⟨hop, hF, hq, o', N', hm, heff, hval, hw, _⟩ := key
    subst hF
    have e := msq_loc (k := (k : Int)) (by omega) (by omega) (by show 0 ≤ 38; decide) hc hop hq
    rw [e]
    refine ⟨o', N', ⟨hm, ?_⟩, List.length_set, ?_, .inl lQ_keepG, ⟨_, rfl, heff.short⟩, fun q hq => ?_⟩
    · exact h.log.eff hne heff hval
    · exact lQ_glen
    · obtain ⟨a, b⟩ := hw q hq
      exact ⟨a.imp (fun e => by exact congrArg idxI e) id, b.imp (fun e => by exact congrArg idxI e) fun e => e.2⟩
/-- A core that is at nothing begins. -/
theorem MqI.begin {op q v : Int} (h : MqI T o s N) (hk : k < s.2.1.length) (hidle : (cAt s.2.1 k).1 = []) (hop : op = 9 ∨ op = 10) (hq : IsQ q) : MqI T o (callS s k op q v 0) N ∧ (cAt (callS s k op q v 0).2.1 k).1 = [frm0 op q v 0] ∧ (callS s k op q v 0).2.1.length = s.2.1.length ∧ (callS s k op q v 0).1 = s.1 ∧ (callS s k op q v 0).2.2 = s.2.2 := by
  have e : callS s k op q v 0 = (Loc.mk s.1 [frm0 op q v 0] (cAt s.2.1 k).2 []).into s k [] := by
    have e := callS_self (s := s) (k := (k : Int)) (op := op) (a := q) (b := v) (d := 0) (by omega) (by omega) (by rw [hidle]; show 0 < 40; decide)
    rw [e, hidle]
    unfold Loc.into
    simp [stS]
  have n8 : ∀ n : Int, n ≤ 8 → op = n → False := fun n hn e2 => by rcases hop with e | e <;> rw [e] at e2 <;> rw [← e2] at hn <;> exact absurd hn (by decide)
  have hcore := h.mm.core k hk
  have hC := h.mm.cores
  obtain ⟨l, hl⟩ := h.mm.list
  have hno : ∀ f ∈ [frm0 op q v 0], f.1 ≠ 6 := fun f hf => by
    rw [List.mem_singleton.1 hf]
    exact fun e => n8 6 (by decide) e
  have htop : TopI s.1 o s.2.1.length k (cAt s.2.1 k).2 (frm0 op q v 0) := by
    constructor <;> intro e2 <;> exact (n8 _ (by decide) e2).elim
  have hmm : MM T o ((Loc.mk s.1 [frm0 op q v 0] (cAt s.2.1 k).2 []).into s k []) := by
    refine h.mm.into hk Chg.same9 h.mm.list h.mm.tag h.mm.stat ⟨?_, hcore.nodup, hcore.ret, ?_, fun p x hp hx => ?_⟩
    · refine ⟨htop, ?_, trivial⟩
      have := room_le (x := op)
      show 0 + 1 + room op ≤ 39
      omega
    · rcases hcore.few with h | ⟨_, f, hf, _⟩
      · exact .inl h
      · rw [hidle] at hf; cases hf
    · obtain ⟨F, f, e, _⟩ := hcore.push p x hp hx
      rw [hidle] at e
      exact absurd e (by simp)
  rw [e]
  have hlen : ((Loc.mk s.1 [frm0 op q v 0] (cAt s.2.1 k).2 []).into s k []).2.1.length = s.2.1.length := List.length_set
  have hlog : ((Loc.mk s.1 [frm0 op q v 0] (cAt s.2.1 k).2 []).into s k []).2.2 = s.2.2 := by
    show (List.append (α := Evt) s.2.2.1 [], ()) = s.2.2
    rw [show List.append (α := Evt) s.2.2.1 [] = s.2.2.1 from List.append_nil _]
  refine ⟨⟨⟨hmm, h.qs, h.tags, fun c hcc => ?_⟩, ?_⟩, ?_, hlen, rfl, hlog⟩
  · rw [hlen] at hcc
    by_cases ck : c = k
    · subst ck
      rw [show cAt ((Loc.mk s.1 [frm0 op q v 0] (cAt s.2.1 c).2 []).into s c []).2.1 c = ([frm0 op q v 0], (cAt s.2.1 c).2) from cAt_setN hk]
      rcases hop with e | e <;> subst e
      · exact .enq (U := []) rfl hq (fun g hg => nomatch hg) (.p0 rfl rfl)
      · exact .deq (U := []) rfl hq (fun g hg => nomatch hg) (.p0 rfl rfl)
    · rw [show cAt ((Loc.mk s.1 [frm0 op q v 0] (cAt s.2.1 k).2 []).into s k []).2.1 c = cAt s.2.1 c from cAt_neN ck]
      exact (h.core c hcc).stays (qchg_same (r := (cAt s.2.1 k).2) hk hC.2 hno) h.qs ck hcc (by omega)
  · rw [hlog]; exact h.log
  · rw [show cAt ((Loc.mk s.1 [frm0 op q v 0] (cAt s.2.1 k).2 []).into s k []).2.1 k = ([frm0 op q v 0], (cAt s.2.1 k).2) from cAt_setN hk]
end
end Go.Proofs.YtpobngddiifdpaaGreat.V
