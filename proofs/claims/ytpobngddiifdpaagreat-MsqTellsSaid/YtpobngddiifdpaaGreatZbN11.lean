/- Queues: what the log tells; a step of any core; a core begins. -/
import Derived.Test.YtpobngddiifdpaaGreatZbN9
import Derived.Test.YtpobngddiifdpaaGreatZbV21
set_option linter.unusedSimpArgs false
set_option linter.unusedVariables false
namespace Go.Proofs.YtpobngddiifdpaaGreat.V
open Go Go.RowKit Go.Proofs.YtpobngddiifdpaaGreat.Hz
set_option maxRecDepth 100000

/-- What a queue holds, an event more. -/
def playE (q : Int) (out : List Int) (e : Evt) : Option (List Int) :=
  if e.2.2.1 ≠ q then some out
  else if e.2.1 = 1 then some (out ++ [e.2.2.2.2.1])
  else if e.2.1 = 2 then (match out with
    | [] => none
    | x :: l => if x = e.2.2.2.2.1 then some l else none)
  else if e.2.1 = 3 then (match out with
    | [] => some []
    | _ :: _ => none)
  else some out
def playI (q : Int) : List Int → List Evt → Option (List Int)
  | out, [] => some out
  | out, e :: l => match playE q out e with
    | none => none
    | some out => playI q out l
theorem playI_snoc {q : Int} {e : Evt} : ∀ {l : List Evt} {out out' : List Int}, playI q out l = some out' → playI q out (l ++ [e]) = playE q out' e
  | [], out, out', h => by
    rw [← Option.some.inj (show some out = some out' from h)]
    show (match playE q out e with | none => none | some out => playI q out []) = _
    cases playE q out e <;> rfl
  | x :: l, out, out', h => by
    have h : (match playE q out x with | none => none | some out => playI q out l) = some out' := h
    show (match playE q out x with | none => none | some out => playI q out (l ++ [e])) = _
    cases hx : playE q out x with
    | none => rw [hx] at h; cases h
    | some o2 => rw [hx] at h; exact playI_snoc h
/-- What a queue holds. -/
def itemsQ (m : Me) (N : List Int) : List Int := N.tail.map (vl m)
def LogQ (m : Me) (lg : List Evt) (N : NQ) : Prop := ∀ q, IsQ q → playI q [] lg = some (itemsQ m (N q))
theorem items_same {m m' : Me} {N : List Int} (h : ∀ p ∈ N, vl m' p = vl m p) : itemsQ m' N = itemsQ m N :=
  List.map_congr_left fun p hp => h p (List.mem_of_mem_tail hp)
section
variable {m m' : Me} {N N' : NQ} {lg ev : List Evt} {k : Nat} {o : OM}
theorem LogQ.eff (h : LogQ m lg N) (hne : ∀ q, IsQ q → N q ≠ []) (he : Eff k N m N' m' ev) (hv : ∀ q p, IsQ q → p ∈ N q → vl m' p = vl m p) : LogQ m' (lg ++ ev) N' := by
  intro q2 h2
  have hs := items_same (fun p hp => hv q2 p h2 hp)
  have hp := h q2 h2
  cases he with
  | none h1 e => rw [h1, e, List.append_nil, hs]; exact hp
  | @enq q n v hq h1 e hval =>
    rw [h1, playI_snoc hp, e]
    unfold playE
    by_cases c : q2 = q
    · subst c
      rw [if_neg (fun h => h rfl), if_pos rfl, updQ_self]
      obtain ⟨x, l, hN⟩ : ∃ x l, N q2 = x :: l := by
        cases hN : N q2 with
        | nil => exact absurd hN (hne q2 h2)
        | cons x l => exact ⟨x, l, rfl⟩
      rw [← hs]
      unfold itemsQ
      rw [hN]
      show some (l.map (vl m') ++ [v]) = some ((l ++ [n]).map (vl m'))
      rw [List.map_append, ← hval]
      rfl
    · rw [if_pos (show ((k : Int), (1 : Int), q, (0 : Int), v, ()).2.2.1 ≠ q2 from fun e => c e.symm), updQ_ne c, hs]
  | @deq q x p v l hq h1 hN e hval =>
    rw [h1, playI_snoc hp, e]
    unfold playE
    by_cases c : q2 = q
    · subst c
      rw [if_neg (fun h => h rfl), if_neg (show ¬ (2 : Int) = 1 by decide), if_pos rfl, updQ_self]
      have hi : itemsQ m (N q2) = v :: l.map (vl m) := by unfold itemsQ; rw [hN, ← hval]; rfl
      have hi2 : itemsQ m' (p :: l) = l.map (vl m) := by
        unfold itemsQ
        refine List.map_congr_left fun y hy => hv q2 y h2 ?_
        rw [hN]
        exact List.mem_cons_of_mem _ (List.mem_cons_of_mem _ hy)
      rw [hi, hi2]
      show (if v = v then some (l.map (vl m)) else none) = _
      rw [if_pos rfl]
    · rw [if_pos (show ((k : Int), (2 : Int), q, (0 : Int), v, ()).2.2.1 ≠ q2 from fun e => c e.symm), updQ_ne c, hs]
  | @empty q x hq h1 hN e =>
    rw [h1, playI_snoc hp, e]
    unfold playE
    by_cases c : q2 = q
    · subst c
      rw [if_neg (fun h => h rfl), if_neg (show ¬ (3 : Int) = 1 by decide), if_neg (show ¬ (3 : Int) = 2 by decide), if_pos rfl, hs]
      unfold itemsQ
      rw [hN]
      rfl
    · rw [if_pos (show ((k : Int), (3 : Int), q, (0 : Int), (0 : Int), ()).2.2.1 ≠ q2 from fun e => c e.symm), hs]
end
/-- The queues, and what is told of them. -/
structure MqI (T : Int) (o : OM) (s : Sy) (N : NQ) : Prop extends MsI T o s N where
  log : LogQ s.1 s.2.2.1 N
/-- What a step did. -/
structure Did (s : Sy) (k : Nat) (t : Sy) : Prop where
  cores : t.2.1.length = s.2.1.length
  glen : t.1.2.1.length = s.1.2.1.length
  one : oneSet s.1.2.1 t.1.2.1
  log : ∃ ev, t.2.2.1 = s.2.2.1 ++ ev ∧ ev.length ≤ 1
  words : ∀ q, IsQ q → (idxI (hdW t.1 q) = idxI (hdW s.1 q) ∨ idxI (hdW t.1 q) = idxI (nx s.1 (idxI (hdW s.1 q)))) ∧ (idxI (tlW t.1 q) = idxI (tlW s.1 q) ∨ idxI (tlW t.1 q) = idxI (nx s.1 (idxI (tlW s.1 q))))
section
variable {T : Int} {o : OM} {s : Sy} {N : NQ} {k : Nat}
theorem Eff.short {m m' : Me} {N N' : NQ} {ev : List Evt} (h : Eff k N m N' m' ev) : ev.length ≤ 1 := by
  cases h with
  | none h => rw [h]; exact Nat.zero_le _
  | enq _ h => rw [h]; exact Nat.le_refl _
  | deq _ h => rw [h]; exact Nat.le_refl _
  | empty _ h => rw [h]; exact Nat.le_refl _
def KeepG (m : Me) (L : Loc) : Prop := L.m.2.1 = m.2.1
theorem KeepG.ite {m : Me} {c : Prop} {_ : Decidable c} {a b : Loc} (h1 : KeepG m a) (h2 : KeepG m b) : KeepG m (if c then a else b) := by
  by_cases h : c
  · rw [if_pos h]; exact h1
  · rw [if_neg h]; exact h2
theorem lPut_keepG {m : Me} {kk pc q v n t w : Int} {r3 : R3'} {l : Li} {r : Rest} : KeepG m (lPut kk m pc q v n t w r3 l r) := by
  unfold lPut
  repeat' apply KeepG.ite
  all_goals first | exact rfl | exact storeM_G _ _ _ | exact casM_G _ _ _ _
theorem lTake_keepG {m : Me} {kk pc q v h t w x e y : Int} {l : Li} {r : Rest} : KeepG m (lTake kk m pc q v h t w x e y l r) := by
  unfold lTake
  repeat' apply KeepG.ite
  all_goals first | exact rfl | exact storeM_G _ _ _ | exact casM_G _ _ _ _
theorem lQ_keepG {m : Me} {f : Frm} {r : Rest} : KeepG m (lQ k m f r) := by
  unfold lQ
  split
  · exact lPut_keepG
  · exact lTake_keepG
theorem lQ_glen {m : Me} {f : Frm} {r : Rest} : (lQ k m f r).m.2.1.length = m.2.1.length := congrArg List.length (show _ = m.2.1 from lQ_keepG (m := m))
/-- A step of a core that is at an op. -/
theorem MqI.turn (h : MqI T o s N) (hT : T < 1000000000) (hk : k < s.2.1.length) (hb : (cAt s.2.1 k).1 ≠ []) : ∃ o' N', MqI (T + 1) o' (msqS s k) N' ∧ Did s k (msqS s k) := by
  obtain ⟨F, f, r, hc⟩ : ∃ F f r, cAt s.2.1 k = (F ++ [f], r) := by
    obtain ⟨F, f, e⟩ : ∃ F f, (cAt s.2.1 k).1 = F ++ [f] := by
      obtain ⟨F, f, e⟩ := (List.eq_nil_or_concat (cAt s.2.1 k).1).resolve_left hb
      exact ⟨F, f, by rw [e, List.concat_eq_append]⟩
    exact ⟨F, f, (cAt s.2.1 k).2, by rw [← e]⟩
  have hC := h.mm.cores
  have ht : topI s k = some f := by rw [topI_is (by omega) (by omega), hc]; exact List.getLast?_concat
  have hne : ∀ q, IsQ q → N q ≠ [] := fun q hq => (h.qs.q q hq).ne
  have hco := h.core k hk
  rw [hc] at hco
  by_cases h8 : 1 ≤ f.1 ∧ f.1 ≤ 8
  · have hno : ¬ (f.1 = 9 ∨ f.1 = 10) := fun e => by rcases e with e | e <;> rw [e] at h8 <;> exact absurd h8.2 (by decide)
    have e0 : msqS s k = alS s k := by
      rw [msqS_some ht]
      exact if_neg hno
    obtain ⟨o', e, hg, hm⟩ := h.toMsI.step hT hk hc h8
    rw [e0]
    refine ⟨o', N, ⟨hm, ?_⟩, ?_⟩
    · rw [e]
      intro q hq
      have hs : itemsQ (lMM s.2.1.length k s.1 f r).m (N q) = itemsQ s.1 (N q) := items_same fun p hp => (hg.nx (h.qs.inn q p hq hp).1).2
      show playI q [] (s.2.2.1 ++ (lMM s.2.1.length k s.1 f r).ev) = some (itemsQ (lMM s.2.1.length k s.1 f r).m (N q))
      rw [hs]
      rcases hg.log with e1 | e1
      · rw [e1, List.append_nil]; exact h.log q hq
      · rw [e1, playI_snoc (h.log q hq)]
        unfold playE
        split
        · rfl
        · rw [if_neg (show ¬ (9 : Int) = 1 by decide), if_neg (show ¬ (9 : Int) = 2 by decide), if_neg (show ¬ (9 : Int) = 3 by decide)]
    · have hone := alS_one s k
      rw [e] at hone ⊢
      refine ⟨List.length_set, hg.chg.glen, hone, ⟨_, rfl, ?_⟩, fun q hq => ?_⟩
      · rcases hg.log with e1 | e1 <;> rw [e1]
        · exact Nat.zero_le _
        · exact Nat.le_refl _
      · obtain ⟨e1, e2⟩ := hg.hd hq (by omega)
        exact ⟨.inl (congrArg idxI e1), .inl (congrArg idxI e2)⟩
  · have key : ∃ (hop : f.1 = 9 ∨ f.1 = 10) (hF : F = []) (hq : 0 ≤ f.2.2.1.1 ∧ f.2.2.1.1 ≤ 7), After T s N k (lQ k s.1 f r) := by
      have small : ∀ (f0 : Frm) (U : List Frm), F ++ [f] = f0 :: U → (∀ g ∈ U, 1 ≤ g.1 ∧ g.1 ≤ 8) → F = [] ∧ f = f0 ∧ U = [] := fun f0 U e hU => by
        by_cases c : U = []
        · subst c
          obtain ⟨a, b⟩ := one_of e
          exact ⟨a, b, rfl⟩
        · exfalso
          obtain ⟨U', _, e2⟩ := snoc_of e c
          exact h8 (hU f (by rw [e2]; simp))
      cases hco with
      | idle e => exact absurd e (by simp)
      | @enq pc q v n t w r3 l U e hq hU hI =>
        obtain ⟨rfl, rfl, rfl⟩ := small _ U e hU
        obtain ⟨hq, ha⟩ := h.toMsI.put hT hk hc
        have hq7 : 0 ≤ q ∧ q ≤ 7 := by rcases hq with e | e <;> omega
        exact ⟨.inl rfl, rfl, hq7, ha⟩
      | @deq pc q v hh t w x e y l U e' hq hU hI =>
        obtain ⟨rfl, rfl, rfl⟩ := small _ U e' hU
        obtain ⟨hq, ha⟩ := h.toMsI.take hT hk hc
        have hq7 : 0 ≤ q ∧ q ≤ 7 := by rcases hq with e | e <;> omega
        exact ⟨.inr rfl, rfl, hq7, ha⟩
    obtain ⟨hop, hF, hq, o', N', hm, heff, hval, hw⟩ := key
    subst hF
    have e := msq_loc (k := (k : Int)) (by omega) (by omega) (by show 0 ≤ 38; decide) hc hop hq
    rw [e]
    refine ⟨o', N', ⟨hm, ?_⟩, List.length_set, ?_, .inl lQ_keepG, ⟨_, rfl, heff.short⟩, fun q hq => ?_⟩
    · exact h.log.eff hne heff hval
    · exact lQ_glen
    · obtain ⟨a, b⟩ := hw q hq
      exact ⟨a.imp (fun e => by exact congrArg idxI e) id, b.imp (fun e => by exact congrArg idxI e) id⟩
/-- A core that is at nothing begins. -/
theorem MqI.begin {op q v : Int} (h : MqI T o s N) (hk : k < s.2.1.length) (hidle : (cAt s.2.1 k).1 = []) (hop : op = 9 ∨ op = 10) (hq : IsQ q) : MqI T o (callS s k op q v 0) N ∧ (cAt (callS s k op q v 0).2.1 k).1 = [frm0 op q v 0] ∧ (callS s k op q v 0).2.1.length = s.2.1.length ∧ (callS s k op q v 0).1 = s.1 ∧ (callS s k op q v 0).2.2 = s.2.2 := by
  have e : callS s k op q v 0 = (Loc.mk s.1 [frm0 op q v 0] (cAt s.2.1 k).2 []).into s k [] := by
    have e := callS_self (s := s) (k := (k : Int)) (op := op) (a := q) (b := v) (d := 0) (by omega) (by omega) (by rw [hidle]; show 0 < 40; decide)
    rw [e, hidle]
    unfold Loc.into
    simp [stS]
  have n8 : ∀ n : Int, n ≤ 8 → op = n → False := fun n hn e2 => by rcases hop with e | e <;> rw [e] at e2 <;> rw [← e2] at hn <;> exact absurd hn (by decide)
  have hcore := h.mm.core k hk
  have hC := h.mm.cores
  obtain ⟨l, hl⟩ := h.mm.list
  have hno : ∀ f ∈ [frm0 op q v 0], f.1 ≠ 6 := fun f hf => by
    rw [List.mem_singleton.1 hf]
    exact fun e => n8 6 (by decide) e
  have htop : TopI s.1 o s.2.1.length k (cAt s.2.1 k).2 (frm0 op q v 0) := by
    constructor <;> intro e2 <;> exact (n8 _ (by decide) e2).elim
  have hmm : MM T o ((Loc.mk s.1 [frm0 op q v 0] (cAt s.2.1 k).2 []).into s k []) := by
    refine h.mm.into hk Chg.same9 h.mm.list h.mm.tag h.mm.stat ⟨?_, hcore.nodup, hcore.ret, ?_, fun p x hp hx => ?_⟩
    · refine ⟨htop, ?_, trivial⟩
      have := room_le (x := op)
      show 0 + 1 + room op ≤ 39
      omega
    · rcases hcore.few with h | ⟨_, f, hf, _⟩
      · exact .inl h
      · rw [hidle] at hf; cases hf
    · obtain ⟨F, f, e, _⟩ := hcore.push p x hp hx
      rw [hidle] at e
      exact absurd e (by simp)
  rw [e]
  have hlen : ((Loc.mk s.1 [frm0 op q v 0] (cAt s.2.1 k).2 []).into s k []).2.1.length = s.2.1.length := List.length_set
  have hlog : ((Loc.mk s.1 [frm0 op q v 0] (cAt s.2.1 k).2 []).into s k []).2.2 = s.2.2 := by
    show (List.append (α := Evt) s.2.2.1 [], ()) = s.2.2
    rw [show List.append (α := Evt) s.2.2.1 [] = s.2.2.1 from List.append_nil _]
  refine ⟨⟨⟨hmm, h.qs, h.tags, fun c hcc => ?_⟩, ?_⟩, ?_, hlen, rfl, hlog⟩
  · rw [hlen] at hcc
    by_cases ck : c = k
    · subst ck
      rw [show cAt ((Loc.mk s.1 [frm0 op q v 0] (cAt s.2.1 c).2 []).into s c []).2.1 c = ([frm0 op q v 0], (cAt s.2.1 c).2) from cAt_setN hk]
      rcases hop with e | e <;> subst e
      · exact .enq (U := []) rfl hq (fun g hg => nomatch hg) (.p0 rfl rfl)
      · exact .deq (U := []) rfl hq (fun g hg => nomatch hg) (.p0 rfl rfl)
    · rw [show cAt ((Loc.mk s.1 [frm0 op q v 0] (cAt s.2.1 k).2 []).into s k []).2.1 c = cAt s.2.1 c from cAt_neN ck]
      exact (h.core c hcc).stays (qchg_same (r := (cAt s.2.1 k).2) hk hC.2 hno) h.qs ck hcc (by omega)
  · rw [hlog]; exact h.log
  · rw [show cAt ((Loc.mk s.1 [frm0 op q v 0] (cAt s.2.1 k).2 []).into s k []).2.1 k = ([frm0 op q v 0], (cAt s.2.1 k).2) from cAt_setN hk]
end
end Go.Proofs.YtpobngddiifdpaaGreat.V

set_option linter.unusedSimpArgs false
set_option linter.unusedVariables false
namespace Go.Proofs.YtpobngddiifdpaaGreat.V
open Go Go.RowKit Go.Proofs.YtpobngddiifdpaaGreat.Hz
set_option maxRecDepth 100000

/-- A new queue's memory. -/
def mkM (m : Me) (q p : Int) : Me := setW (setW (setW (popM m p) (lk p + 1) (nextI (nI m.1 (lk p + 1)) 0 0)) (hdP q) (2 * p)) (tlP q) (2 * p)
section
variable {m : Me} {q p : Int} {l : List Int}
theorem popM_at {a : Int} (h0 : 0 < a) : nI (popM m p).1 a = nI m.1 a := by
  have := nI_set (l := m.1) (i := 0) (j := a) (v := nextI (nI m.1 0) (nI m.1 (lk p)) 0) (by decide) (by omega)
  rw [if_neg (by omega)] at this
  exact this
theorem mkM_is (h : FL m (p :: l)) (hq : IsQ q) (ht : tagI (nI m.1 0) ≤ 1000) : FL (mkM m q p) l ∧ (mkM m q p).2.1 = List.set (α := Int) m.2.1 p.toNat 1 ∧ hdW (mkM m q p) q = 2 * p ∧ tlW (mkM m q p) q = 2 * p ∧ idxI (nx (mkM m q p) p) = 0 ∧ tagI (nI (mkM m q p).1 0) = tagI (nI m.1 0) + 1 ∧
    (∀ a, 0 < a → a ≠ hdP q → a ≠ tlP q → a ≠ lk p + 1 → nI (mkM m q p).1 a = nI m.1 a) := by
  have hpm := (h.mem p).1 (List.mem_cons_self ..)
  have hsp := sp_lt hq
  have hlk := lk_is p
  have hf := h.popped.fits
  have hlen : (popM m p).1.length = m.1.length := List.length_set
  have hf0 := h.fits
  have h1 := hf0.1
  have h2 := hf0.2
  have hlr := Chain.range (n := m.2.1.length) h.head.2 (fun q hq => by have := (h.mem q).1 (List.mem_cons_of_mem _ hq); omega) (by omega)
  have rest : ∀ a, 0 ≤ a → a ≠ hdP q → a ≠ tlP q → a ≠ lk p + 1 → nI (mkM m q p).1 a = nI (popM m p).1 a := fun a h0 h1 h2 h3 => by
    unfold mkM
    rw [setW_ne (by omega) h0 (fun e => h2 e.symm), setW_ne (by omega) h0 (fun e => h1 e.symm), setW_ne (by omega) h0 (fun e => h3 e.symm)]
  have e0 : nI (popM m p).1 0 = nextI (nI m.1 0) (nI m.1 (lk p)) 0 := by
    have := nI_set (l := m.1) (i := 0) (j := 0) (v := nextI (nI m.1 0) (nI m.1 (lk p)) 0) (by decide) (by decide)
    rw [if_pos ⟨rfl, by omega⟩] at this
    exact this
  refine ⟨?_, rfl, ?_, ?_, ?_, ?_, fun a h0 h1 h2 h3 => (rest a (by omega) h1 h2 h3).trans (popM_at h0)⟩
  · unfold mkM
    exact ((h.popped.setW (by omega) fun x hx => by have := lk_is x; omega).setW (by omega) fun x hx => by have := (h.popped.mem x).1 hx; have := lk_is x; omega).setW (by omega) fun x hx => by have := (h.popped.mem x).1 hx; have := lk_is x; omega
  · unfold mkM hdW
    rw [setW_ne (by omega) (by omega) (fun e => hsp.2.2.2.2 e.symm)]
    refine setW_self (by omega) ?_
    show hdP q < ((List.set (α := Int) (popM m p).1 _ _).length : Int)
    rw [List.length_set, hlen]; omega
  · unfold mkM tlW
    refine setW_self (by omega) ?_
    show tlP q < ((List.set (α := Int) (List.set (α := Int) (popM m p).1 _ _) _ _).length : Int)
    rw [List.length_set, List.length_set, hlen]; omega
  · unfold mkM nx
    rw [setW_ne (by omega) (by omega) (by omega), setW_ne (by omega) (by omega) (by omega), setW_self (by omega) (by rw [hlen]; omega)]
    exact idx_next (by decide) (by decide)
  · rw [rest 0 (by decide) (by omega) (by omega) (by omega), e0, tag_next hlr.1 (by omega)]
    have : 0 ≤ tagI (nI m.1 0) := by unfold tagI; omega
    omega
end
/-- Two queues on a new system. -/
def newQ (c n : Int) : Sy := (mkM (mkM (newF c n).1 0 1) 1 2, (newF c n).2)
def ownQ : OM := fun p => if p = 1 ∨ p = 2 then .shared else .free
def nodesQ : NQ := fun q => if q = 0 then [1] else [2]
theorem up_two {n : Nat} (h : 2 ≤ n) : ∃ l, up n 1 = 1 :: 2 :: l := by
  obtain ⟨k, rfl⟩ : ∃ k, n = k + 2 := ⟨n - 2, by omega⟩
  exact ⟨up k 3, rfl⟩
theorem newQ_is {c n : Nat} (h1 : 2 ≤ n) (h2 : n ≤ 200) : ∃ l, up n 1 = 1 :: 2 :: l ∧ FL (newF (c : Int) (n : Int)).1 (1 :: 2 :: l) ∧ FL (mkM (newF (c : Int) (n : Int)).1 0 1) (2 :: l) ∧ FL (newQ (c : Int) (n : Int)).1 l ∧ (newQ (c : Int) (n : Int)).1.2.1.length = n + 1 := by
  obtain ⟨l, hl⟩ := up_two h1
  have hfl : FL (newF (c : Int) (n : Int)).1 (up n 1) := FL.filled (by omega) h2
  rw [hl] at hfl
  have ht0 : tagI (nI (newF (c : Int) (n : Int)).1.1 0) = 0 := by rw [newF_head (by omega) h2]; decide
  obtain ⟨a1, a2, _, _, _, a6, _⟩ := mkM_is (q := 0) hfl (.inl rfl) (by omega)
  obtain ⟨b1, b2, _⟩ := mkM_is (q := 1) a1 (.inr rfl) (by omega)
  refine ⟨l, hl, hfl, a1, b1, ?_⟩
  show (mkM (mkM (newF (c : Int) (n : Int)).1 0 1) 1 2).2.1.length = _
  rw [b2, List.length_set, a2, List.length_set]
  exact newF_glen (by omega) h2
theorem MqI.start {c n : Nat} (h1 : 2 ≤ n) (h2 : n ≤ 200) (c1 : 1 ≤ c) (c8 : c ≤ 8) : MqI 2 ownQ (newQ (c : Int) (n : Int)) nodesQ := by
  obtain ⟨l, hl, hfl, hfl1, hfl2, hglen⟩ := newQ_is (c := c) h1 h2
  have ht0 : tagI (nI (newF (c : Int) (n : Int)).1.1 0) = 0 := by rw [newF_head (by omega) h2]; decide
  obtain ⟨_, a2, a3, a4, a5, a6, a7⟩ := mkM_is (q := 0) hfl (.inl rfl) (by omega)
  obtain ⟨_, b2, b3, b4, b5, b6, b7⟩ := mkM_is (q := 1) hfl1 (.inr rfl) (by omega)
  have hg0 := newF_glen (c := (c : Int)) (n := n) (by omega) h2
  have hlc : (newQ (c : Int) (n : Int)).2.1.length = c := by
    show (List.replicate (c : Int).toNat _).length = c
    rw [List.length_replicate, Int.toNat_natCast]
  have hG : ∀ p, InN (newQ (c : Int) (n : Int)).1 p → nI (newQ (c : Int) (n : Int)).1.2.1 p = if p = 1 ∨ p = 2 then 1 else 0 := fun p hp => by
    have hp1 := hp.1
    have hp2 := hp.2
    rw [hglen] at hp2
    show nI (mkM (mkM (newF (c : Int) (n : Int)).1 0 1) 1 2).2.1 p = _
    rw [b2, nI_set (by decide) (by omega), a2, nI_set (by decide) (by omega), List.length_set, hg0]
    by_cases e2 : p = 2
    · subst e2
      rw [if_pos ⟨rfl, by omega⟩, if_pos (.inr rfl)]
    · rw [if_neg (fun e => e2 e.1.symm)]
      by_cases e1 : p = 1
      · subst e1
        rw [if_pos ⟨rfl, by omega⟩, if_pos (.inl rfl)]
      · rw [if_neg (fun e => e1 e.1.symm), if_neg (fun e => e.elim e1 e2)]
        have := (hfl.mem p).1 (by rw [← hl]; exact (up_mem9 n 1 p).2 ⟨hp1, by omega⟩)
        exact this.2.2
  have hw0 : hdW (newQ (c : Int) (n : Int)).1 0 = 2 ∧ tlW (newQ (c : Int) (n : Int)).1 0 = 2 := by
    constructor
    · exact (b7 (hdP 0) (by decide) (by decide) (by decide) (by decide)).trans a3
    · exact (b7 (tlP 0) (by decide) (by decide) (by decide) (by decide)).trans a4
  have hw1 : hdW (newQ (c : Int) (n : Int)).1 1 = 4 ∧ tlW (newQ (c : Int) (n : Int)).1 1 = 4 := ⟨b3, b4⟩
  have hn1 : idxI (nx (newQ (c : Int) (n : Int)).1 1) = 0 := by
    have : nx (newQ (c : Int) (n : Int)).1 1 = nx (mkM (newF (c : Int) (n : Int)).1 0 1) 1 := b7 _ (by decide) (by decide) (by decide) (by decide)
    rw [this]; exact a5
  have hn2 : idxI (nx (newQ (c : Int) (n : Int)).1 2) = 0 := b5
  have hin : ∀ p : Int, p = 1 ∨ p = 2 → InN (newQ (c : Int) (n : Int)).1 p := fun p hp => by
    unfold InN
    rw [hglen]
    omega
  have hcA : ∀ k : Nat, cAt (newQ (c : Int) (n : Int)).2.1 k = dflt tCore := fun k => newF_cor (c := (c : Int)) (n := (n : Int))
  refine ⟨⟨⟨⟨l, hfl2⟩, by rw [hglen]; omega, by rw [hlc]; omega, ?_, fun p hp => ?_, fun k hk => ?_⟩, ?_, fun q hq => ?_, fun k hk => ?_⟩, fun q hq => ?_⟩
  · show tagI (nI (mkM (mkM (newF (c : Int) (n : Int)).1 0 1) 1 2).1 0) ≤ 2
    rw [b6, a6]; omega
  · rw [hG p hp]
    unfold ownQ
    split <;> rfl
  · rw [hcA k]
    refine ⟨trivial, List.nodup_nil, fun p => ⟨fun h => (nomatch h), fun h => ?_⟩, .inl (Nat.zero_le _), fun p x _ h => ?_⟩
    · have := h.2
      unfold ownQ at this
      split at this <;> cases this
    · unfold ownQ at h
      split at h <;> cases h
  · refine ⟨fun q hq => ?_, fun q p hq hp => ?_, fun p hp e => ?_, fun p hp hp2 => ?_, fun p c hp e => ?_⟩
    · rcases hq with e | e <;> subst e
      · refine ⟨?_, by show [(1 : Int)].Nodup; simp, [], .inl ?_⟩
        · rw [hw0.1]; exact ⟨by decide, hn1⟩
        · rw [hw0.2]; rfl
      · refine ⟨?_, by show [(2 : Int)].Nodup; simp, [], .inl ?_⟩
        · rw [hw1.1]; exact ⟨by decide, hn2⟩
        · rw [hw1.2]; rfl
    · rcases hq with e | e <;> subst e
      · rw [show p = 1 from List.mem_singleton.1 (show p ∈ [(1 : Int)] from hp)]
        exact ⟨hin 1 (.inl rfl), rfl⟩
      · rw [show p = 2 from List.mem_singleton.1 (show p ∈ [(2 : Int)] from hp)]
        exact ⟨hin 2 (.inr rfl), rfl⟩
    · unfold ownQ at e
      split at e
      · rename_i h
        rcases h with h | h <;> rw [h]
        · exact ⟨0, .inl rfl, List.mem_singleton.2 rfl⟩
        · exact ⟨1, .inr rfl, List.mem_singleton.2 rfl⟩
      · cases e
    · rw [show p = 1 from List.mem_singleton.1 (show p ∈ [(1 : Int)] from hp)] at hp2
      exact nope (show (1 : Int) = 2 from List.mem_singleton.1 (show (1 : Int) ∈ [(2 : Int)] from hp2)) rfl
    · unfold ownQ at e
      split at e <;> rcases e with e | e <;> cases e
  · rcases hq with e | e <;> subst e
    · rw [hw0.1, hw0.2]; decide
    · rw [hw1.1, hw1.2]; decide
  · rw [hcA k]
    exact .idle rfl
  · show playI q [] [] = _
    rcases hq with e | e <;> subst e <;> rfl
end Go.Proofs.YtpobngddiifdpaaGreat.V
