/- Queues: each step of an op keeps who lets the tail lag, and who holds what. -/
import Derived.Test.YtpobngddiifdpaaGreatZdU4
set_option linter.unusedSimpArgs false
set_option linter.unusedVariables false
namespace Go.Proofs.YtpobngddiifdpaaGreat.V
open Go Go.RowKit Go.Proofs.YtpobngddiifdpaaGreat.Hz
set_option maxRecDepth 100000

section
variable {T : Int} {o o' : OM} {s : Sy} {N N' : NQ} {k : Nat} {r : Rest}
theorem HeldF.put {pc q v n t w p : Int} {r3 : R3'} {l : Li} (h : HeldF p ([((9 : Int), pc, (q, v, n, t, w, r3), l, ())], r)) : (pc = 1 ∧ r.2.1 = 0 ∧ r.1 = p) ∨ (2 ≤ pc ∧ pc ≤ 9 ∧ n = p) := by
  rcases h with ⟨F, f, e1, e2, e3, e4⟩ | ⟨f, U, e1, _, e3, e4, e5⟩
  · obtain ⟨_, e6⟩ := List.append_inj' (show [] ++ [((9 : Int), pc, (q, v, n, t, w, r3), l, ())] = F ++ [f] from e1) rfl
    have e6 := (List.cons.inj e6).1
    rw [← e6] at e2
    rcases e2 with ⟨e, _⟩ | ⟨_, e⟩
    · exact nope (show (9 : Int) = 7 from e) rfl
    · exact .inl ⟨e, e3, e4⟩
  · have e6 := (List.cons.inj e1).1
    rw [← e6] at e3 e4 e5
    exact .inr ⟨e3, e4, e5⟩
theorem HeldF.of {pc q v n t w p : Int} {r3 : R3'} {l : Li} {U : List Frm} {r' : Rest} (h2 : 2 ≤ pc) (h9 : pc ≤ 9) (e : n = p) : HeldF p (((9 : Int), pc, (q, v, n, t, w, r3), l, ()) :: U, r') := .inr ⟨_, U, rfl, rfl, h2, h9, e⟩
theorem MsI.stepP {pc q v n t w : Int} {r3 : R3'} {l : Li} (h : MsI T o s N) (g : LgI o s N) (hT : T < 1000000000) (hk : k < s.2.1.length) (hc : cAt s.2.1 k = ([((9 : Int), pc, (q, v, n, t, w, r3), l, ())], r)) (hm : MsI (T + 1) o' ((lPut k s.1 pc q v n t w r3 l r).into s k []) N')
    (hwh : ∀ p, InN s.1 p → Whose k o o' (lPut k s.1 pc q v n t w r3 l r) p) : StepQ o s N k ((9 : Int), pc, (q, v, n, t, w, r3), l, ()) r (lPut k s.1 pc q v n t w r3 l r) o' := by
  obtain ⟨fl, hfl⟩ := h.mm.list
  have hfit := hfl.fits
  have hgood := hfl.good
  have hlen : 128 ≤ s.1.1.length := by have := hfit.1; have := h.mm.more; omega
  have hll := hfit.1
  have hll2 := hfit.2
  have hC := h.mm.cores
  have hsame := g.same k q pc v n t w r3 l r hk hc
  have hco := h.core k hk
  rw [hc] at hco
  cases hco with
  | idle e => cases e
  | deq e' _ _ _ => exact nope (show (9 : Int) = 10 from (Prod.mk.inj (List.cons.inj e').1).1) rfl
  | enq e hq hU hI =>
  have e := List.cons.inj e
  obtain ⟨e1, rfl⟩ := e
  cases e1
  have hsp := sp_lt hq
  have htlP : 33 + 2 * q = tlP q := rfl
  have htin : ∀ q2, IsQ q2 → 1 ≤ idxI (tlW s.1 q2) := fun q2 h2 => (h.qs.tailS h2).1.1
  -- nothing is swung but at step 10; no next word is written but by its node's own core, or at step 9
  have noswing : pc ≠ 10 → ∀ {L : Loc}, ∀ q2 v2 n2 w2 r32 l2, IsQ q2 → ((9 : Int), pc, (q, v, n, t, w, r3), l, ()) = ((9 : Int), (10 : Int), (q2, v2, n2, tlW s.1 q2, w2, r32), l2, ()) → tlW L.m q2 ≠ tlW s.1 q2 := fun hne _ q2 v2 n2 w2 r32 l2 _ e => absurd (Prod.mk.inj (Prod.mk.inj e).2).1 hne
  have nonxt : ∀ {L : Loc}, (∀ q2, IsQ q2 → nx L.m (idxI (tlW s.1 q2)) = nx s.1 (idxI (tlW s.1 q2))) → ∀ q2, IsQ q2 → tlW L.m q2 = tlW s.1 q2 → idxI (nx s.1 (idxI (tlW s.1 q2))) = 0 → idxI (nx L.m (idxI (tlW s.1 q2))) ≠ 0 → ∃ v n w r3 l, L.fs = [((9 : Int), (10 : Int), (q2, v, n, tlW s.1 q2, w, r3), l, ())] := fun he q2 h2 _ h0 hx => by
    rw [he q2 h2, h0] at hx
    exact absurd rfl hx
  have cell : ∀ {a x : Int}, 0 ≤ a → (∀ q2, IsQ q2 → a ≠ lk (idxI (tlW s.1 q2)) + 1) → ∀ q2, IsQ q2 → nx (setW s.1 a x) (idxI (tlW s.1 q2)) = nx s.1 (idxI (tlW s.1 q2)) := fun h0 h1 q2 h2 => setW_ne h0 (by have := lk_is (idxI (tlW s.1 q2)); have := htin q2 h2; omega) (h1 q2 h2)
  have low : ∀ {a : Int}, a < 128 → ∀ q2, IsQ q2 → a ≠ lk (idxI (tlW s.1 q2)) + 1 := fun ha q2 h2 => by have := lk_is (idxI (tlW s.1 q2)); have := htin q2 h2; omega
  have nogo : ∀ {pc' : Int} {g1 : R8} {l1 : Li} {G : List Frm}, (pc' ≠ 6 ∧ pc' ≠ 7 ∧ pc' ≠ 9) ∨ G ≠ [] → ∀ q2 pc2 v2 n2 t2 w2 r32 l2, ((9 : Int), pc', g1, l1, ()) :: G = [((9 : Int), pc2, (q2, v2, n2, t2, w2, r32), l2, ())] → pc2 ≠ 6 ∧ (pc2 = 7 ∨ pc2 = 9 → IsQ q2 ∧ PTt s.1 o s.2.1 N k q2 t2 ∧ Sm s.1 N q2 t2) := fun hp q2 pc2 v2 n2 t2 w2 r32 l2 e => by
    have e1 := List.cons.inj e
    rcases hp with ⟨a, b, c⟩ | hG
    · have e2 := (Prod.mk.inj (Prod.mk.inj e1.1).2).1
      rw [← e2]
      exact ⟨a, fun e => e.elim (fun e => absurd e b) (fun e => absurd e c)⟩
    · exact absurd e1.2 hG
  have nogo0 : ∀ q2 pc2 v2 n2 t2 w2 r32 l2, ([] : List Frm) = [((9 : Int), pc2, (q2, v2, n2, t2, w2, r32), l2, ())] → pc2 ≠ 6 ∧ (pc2 = 7 ∨ pc2 = 9 → IsQ q2 ∧ PTt s.1 o s.2.1 N k q2 t2 ∧ Sm s.1 N q2 t2) := fun q2 pc2 v2 n2 t2 w2 r32 l2 e => by cases e
  unfold lPut at hm hwh ⊢
  cases hI with
  | p1a _ u => obtain ⟨g, rest, u, _⟩ := u; cases u
  | p6a _ u => obtain ⟨g, u, _⟩ := u; cases u
  | p0 h1 _ =>
    subst h1
    rw [if_pos rfl]
    refine ⟨nonxt (fun _ _ => rfl), noswing (by decide), nogo (.inr (by simp)), fun p _ hp _ => ?_⟩
    rcases hp.put with ⟨e, _⟩ | ⟨e, _⟩
    · exact nope e rfl
    · exact absurd e (by decide)
  | p1 h1 _ ht =>
    subst h1
    rw [if_neg (by decide), if_pos rfl]
    split
    · rename_i hE
      refine ⟨nonxt (fun _ _ => rfl), noswing (by decide), nogo0, fun p _ hp _ => ?_⟩
      rcases hp.put with ⟨_, e, _⟩ | ⟨e, _⟩
      · exact absurd e hE
      · exact absurd e (by decide)
    · refine ⟨nonxt (fun _ _ => rfl), noswing (by decide), nogo (.inl (by decide)), fun p _ hp _ => ?_⟩
      rcases hp.put with ⟨_, _, e⟩ | ⟨e, _⟩
      · exact .of (by decide) (by decide) e
      · exact absurd e (by decide)
  | p25 hp _ hn =>
    have hlive := live_of h.mm hn.inn hn.own
    have hlk := lk_is n
    have hn1 := hn.inn.1
    have hn2 := hn.inn.2
    have hne : ∀ q2, IsQ q2 → n ≠ idxI (tlW s.1 q2) := fun q2 h2 e => by
      have := (h.qs.tailS h2).2
      rw [← e, hn.own] at this; cases this
    have hp4 : pc = 2 ∨ pc = 3 ∨ pc = 4 ∨ pc = 5 := by
      have key : ∀ x : Int, 2 ≤ x ∧ x ≤ 5 → x = 2 ∨ x = 3 ∨ x = 4 ∨ x = 5 := fun x hx => by omega
      exact key pc hp
    rcases hp4 with h1 | h1 | h1 | h1 <;> subst h1
    · rw [if_neg (by decide), if_neg (by decide), if_pos rfl, store_cell (by decide) hn.inn hlive hfit hgood]
      refine ⟨nonxt (cell (a := lk n + 3) (x := v) (by omega) fun q2 h2 => by have := lk_is (idxI (tlW s.1 q2)); omega), noswing (by decide), nogo (.inl (by decide)), fun p _ hp _ => ?_⟩
      rcases hp.put with ⟨e, _⟩ | ⟨_, _, e⟩
      · exact nope e rfl
      · exact .of (by decide) (by decide) e
    · rw [if_neg (by decide), if_neg (by decide), if_neg (by decide), if_pos rfl]
      refine ⟨nonxt (fun _ _ => rfl), noswing (by decide), nogo (.inl (by decide)), fun p _ hp _ => ?_⟩
      rcases hp.put with ⟨e, _⟩ | ⟨_, _, e⟩
      · exact nope e rfl
      · exact .of (by decide) (by decide) e
    · rw [if_neg (by decide), if_neg (by decide), if_neg (by decide), if_neg (by decide), if_pos rfl, store_cell (by decide) hn.inn hlive hfit hgood]
      refine ⟨nonxt (cell (a := lk n + 1) (x := nextI w 0 0) (by omega) fun q2 h2 => by have := lk_is (idxI (tlW s.1 q2)); have := hne q2 h2; omega), noswing (by decide), nogo (.inl (by decide)), fun p _ hp _ => ?_⟩
      rcases hp.put with ⟨e, _⟩ | ⟨_, _, e⟩
      · exact nope e rfl
      · exact .of (by decide) (by decide) e
    · rw [if_neg (by decide), if_neg (by decide), if_neg (by decide), if_neg (by decide), if_neg (by decide), if_pos rfl]
      refine ⟨nonxt (fun _ _ => rfl), noswing (by decide), nogo (.inr (by simp)), fun p _ hp _ => ?_⟩
      rcases hp.put with ⟨e, _⟩ | ⟨_, _, e⟩
      · exact nope e rfl
      · exact .of (by decide) (by decide) e
  | p6 h1 _ hn ht =>
    subst h1
    rw [if_neg (by decide), if_neg (by decide), if_neg (by decide), if_neg (by decide), if_neg (by decide), if_neg (by decide), if_pos rfl]
    refine ⟨nonxt (fun _ _ => rfl), noswing (by decide), fun q2 pc2 v2 n2 t2 w2 r32 l2 e => ?_, fun p _ hp _ => ?_⟩
    · have e1 := (List.cons.inj e).1
      cases e1
      exact ⟨by decide, fun _ => ⟨hq, ht, hsame.2 rfl⟩⟩
    · rcases hp.put with ⟨e, _⟩ | ⟨_, _, e⟩
      · exact nope e rfl
      · exact .of (by decide) (by decide) e
  | p7 h1 _ hn ht =>
    subst h1
    rw [if_neg (by decide), if_neg (by decide), if_neg (by decide), if_neg (by decide), if_neg (by decide), if_neg (by decide), if_neg (by decide), if_pos rfl]
    refine ⟨nonxt (fun _ _ => rfl), noswing (by decide), fun q2 pc2 v2 n2 t2 w2 r32 l2 e => ?_, fun p _ hp _ => ?_⟩
    · have e1 := (List.cons.inj e).1
      cases e1
      refine ⟨?_, fun _ => ⟨hq, ht, hsame.1 (.inl rfl)⟩⟩
      split <;> decide
    · rcases hp.put with ⟨e, _⟩ | ⟨_, _, e⟩
      · exact nope e rfl
      · refine .of ?_ ?_ e <;> split <;> decide
  | p8 h1 _ hn ht =>
    subst h1
    rw [if_neg (by decide), if_neg (by decide), if_neg (by decide), if_neg (by decide), if_neg (by decide), if_neg (by decide), if_neg (by decide), if_neg (by decide), if_pos rfl]
    have held : ∀ {L : Loc}, L.fs = [((9 : Int), (5 : Int), (q, v, n, t, w, r3), l, ())] → ∀ p, o p = .fresh k → HeldF p ([((9 : Int), (8 : Int), (q, v, n, t, w, r3), l, ())], r) → o' p = .fresh k → HeldF p (L.fs, L.r) := fun hL p _ hp _ => by
      rw [hL]
      rcases hp.put with ⟨e, _⟩ | ⟨_, _, e⟩
      · exact nope e rfl
      · exact .of (by decide) (by decide) e
    rcases cas_word (m := s.1) (a := 33 + 2 * q) (w := t) (v := nextI t (idxI w) 0) (by omega) (by omega) hfit with ⟨c, _, e⟩ | ⟨c, _, e⟩
    · rw [e]
      exact ⟨nonxt (cell (a := 33 + 2 * q) (x := nextI t (idxI w) 0) (by omega) (low (by omega))), noswing (by decide), nogo (.inl (by decide)), held rfl⟩
    · rw [e]
      exact ⟨nonxt (fun _ _ => rfl), noswing (by decide), nogo (.inl (by decide)), held rfl⟩
  | p9 h1 _ hn ht hw =>
    subst h1
    have hin := ht.guard.inn
    have hlk := lk_is n
    have hlt := lk_is (idxI t)
    have hn1 := hn.inn.1
    have hn2 := hn.inn.2
    have ht1 := hin.1
    have ht2 := hin.2
    rw [if_neg (by decide), if_neg (by decide), if_neg (by decide), if_neg (by decide), if_neg (by decide), if_neg (by decide), if_neg (by decide), if_neg (by decide), if_neg (by decide), if_pos rfl] at hm hwh ⊢
    rcases cas_cell (j := 1) (v := nextI w n 0) (by decide) hin (ht.guard.notFree h.mm.stat) hfit hgood w with ⟨c, cb, cm⟩ | ⟨c, cb, cm⟩
    · rw [if_pos cb, cm] at hm hwh ⊢
      have hnx : nx s.1 (idxI t) = w := c
      have hnx0 : idxI (nx s.1 (idxI t)) = 0 := by rw [hnx]; exact hw
      have hsh : o (idxI t) = .shared := by
        rcases ht.guard.own with e | ⟨d, e⟩ | ⟨d, _, e, _⟩
        · exact e
        · exact absurd hnx0 (h.qs.out _ d hin (.inl e))
        · exact absurd hnx0 (h.qs.out _ d hin (.inr e))
      have hmem := ht.mem hsh
      have hQI := h.qs.q q hq
      obtain ⟨A, hA⟩ := Chn.isLast hnx0 hQI.head (fun y hy => by have := (h.qs.inn q y hq hy).1.1; omega) hmem
      have htl : idxI (tlW s.1 q) = idxI t := by
        obtain ⟨A', B', e1, e2⟩ := ht.past hmem
        have hnd := hQI.nodup
        rcases e2 with e2 | e2
        · exact e2.symm
        · exfalso
          obtain ⟨C', D, e3⟩ := List.append_of_mem e2
          rw [e3] at e1
          have e4 : C' ++ idxI t :: (D ++ idxI (tlW s.1 q) :: B') = A ++ idxI t :: [] := by rw [← hA, e1]; simp
          have hnd2 := hnd
          rw [e1, show C' ++ idxI t :: D ++ idxI (tlW s.1 q) :: B' = C' ++ idxI t :: (D ++ idxI (tlW s.1 q) :: B') by simp] at hnd2
          have := (split_uniq hnd2 e4).2
          exact absurd this (by simp)
      have htt : t = tlW s.1 q := hsame.1 (.inr rfl) hmem htl.symm
      refine ⟨fun q2 h2 _ h0 hx => ?_, noswing (by decide), nogo (.inl (by decide)), fun p _ hp ho => ?_⟩
      · by_cases e : idxI (tlW s.1 q2) = idxI t
        · have : q2 = q := by
            have m2 := h.qs.tailIn h2
            rw [e] at m2
            rcases hq with a | a <;> rcases h2 with b | b
            · rw [a, b]
            · exact absurd (show idxI t ∈ N 1 by rw [← b]; exact m2) (h.qs.apart _ (by rw [← a]; exact hmem))
            · exact absurd (show idxI t ∈ N 1 by rw [← a]; exact hmem) (h.qs.apart _ (by rw [← b]; exact m2))
            · rw [a, b]
          subst this
          rw [← htt]
          exact ⟨v, n, w, r3, l, rfl⟩
        · exfalso
          have : nx (setW s.1 (lk (idxI t) + 1) (nextI w n 0)) (idxI (tlW s.1 q2)) = nx s.1 (idxI (tlW s.1 q2)) := setW_ne (by omega) (by have := lk_is (idxI (tlW s.1 q2)); have := htin q2 h2; omega) (by have := lk_is (idxI (tlW s.1 q2)); omega)
          rw [show nx _ _ = nx (setW s.1 (lk (idxI t) + 1) (nextI w n 0)) (idxI (tlW s.1 q2)) from rfl, this, h0] at hx
          exact hx rfl
      · rcases hp.put with ⟨e, _⟩ | ⟨_, _, e⟩
        · exact nope e rfl
        · exfalso
          subst e
          -- the node is in the queue
          have hQ' := hm.qs.q q hq
          have etl : tlW (setW s.1 (lk (idxI t) + 1) (nextI w n 0)) q = tlW s.1 q := setW_ne (by omega) (by omega) (by omega)
          have enx : nx (setW s.1 (lk (idxI t) + 1) (nextI w n 0)) (idxI t) = nextI w n 0 := setW_self (by omega) (by omega)
          have hch : Chn (setW s.1 (lk (idxI t) + 1) (nextI w n 0)) _ (N' q) := hQ'.head
          obtain ⟨A2, hA2⟩ : ∃ A, N' q = A ++ [idxI (tlW (setW s.1 (lk (idxI t) + 1) (nextI w n 0)) q)] ∨ ∃ y, N' q = A ++ [idxI (tlW (setW s.1 (lk (idxI t) + 1) (nextI w n 0)) q), y] := hQ'.tail
          rw [etl, htl] at hA2
          have hidx : idxI (nextI w n 0) = n := idx_next (by omega) (by omega)
          rcases hA2 with e | ⟨y, e⟩
          · rw [e] at hch
            have := hch.last
            rw [enx, hidx] at this
            omega
          · rw [e] at hch
            have := Chn.next (B := []) hch
            rw [enx, hidx] at this
            have hi := (hm.qs.inn q n hq (by rw [e, ← this]; simp)).2
            rw [ho] at hi; cases hi
    · rw [if_neg (by rw [cb]; decide), cm]
      refine ⟨nonxt (fun _ _ => rfl), noswing (by decide), nogo (.inl (by decide)), fun p _ hp _ => ?_⟩
      rcases hp.put with ⟨e, _⟩ | ⟨_, _, e⟩
      · exact nope e rfl
      · exact .of (by decide) (by decide) e
  | p10 h1 _ hn ht =>
    subst h1
    rw [if_neg (by decide), if_neg (by decide), if_neg (by decide), if_neg (by decide), if_neg (by decide), if_neg (by decide), if_neg (by decide), if_neg (by decide), if_neg (by decide), if_neg (by decide), if_pos rfl]
    have hn1 := hn.1
    have hn2 := hn.2
    have held : ∀ {L : Loc}, ∀ p, o p = .fresh k → HeldF p ([((9 : Int), (10 : Int), (q, v, n, t, w, r3), l, ())], r) → o' p = .fresh k → HeldF p (L.fs, L.r) := fun p _ hp _ => by
      rcases hp.put with ⟨e, _⟩ | ⟨_, e, _⟩
      · exact nope e rfl
      · exact absurd e (by decide)
    rcases cas_word (m := s.1) (a := 33 + 2 * q) (w := t) (v := nextI t n 0) (by omega) (by omega) hfit with ⟨c, _, e⟩ | ⟨c, _, e⟩
    · rw [e]
      refine ⟨nonxt (cell (a := 33 + 2 * q) (x := nextI t n 0) (by omega) (low (by omega))), fun q2 v2 n2 w2 r32 l2 h2 e2 => ?_, nogo (.inl (by decide)), held⟩
      have e3 := (Prod.mk.inj (Prod.mk.inj (Prod.mk.inj e2).2).2).1
      have e4 : q = q2 := (Prod.mk.inj e3).1
      subst e4
      have e5 : tlW (setW s.1 (33 + 2 * q) (nextI t n 0)) q = nextI t n 0 := setW_self (by omega) (by omega)
      show tlW (setW s.1 (33 + 2 * q) (nextI t n 0)) q ≠ tlW s.1 q
      rw [e5]
      have ht0 : tlW s.1 q = t := c
      rw [ht0]
      intro e6
      have := tag_nx h hT (w := t) (i := n) (by have := (h.tags q hq).2; rw [ht0] at this; exact this) (by omega) (by omega)
      rw [e6] at this
      omega
    · rw [e]
      refine ⟨nonxt (fun _ _ => rfl), fun q2 v2 n2 w2 r32 l2 h2 e2 => ?_, nogo (.inl (by decide)), held⟩
      exfalso
      have e3 := (Prod.mk.inj (Prod.mk.inj (Prod.mk.inj e2).2).2).1
      have e4 : q = q2 := (Prod.mk.inj e3).1
      subst e4
      have e5 : t = tlW s.1 q := (Prod.mk.inj (Prod.mk.inj (Prod.mk.inj (Prod.mk.inj e3).2).2).2).1
      exact c e5.symm
  | p11 h1 _ =>
    subst h1
    have hk8 : k < 8 := by omega
    have hs := slotP_is k 0
    rw [if_neg (by decide), if_neg (by decide), if_neg (by decide), if_neg (by decide), if_neg (by decide), if_neg (by decide), if_neg (by decide), if_neg (by decide), if_neg (by decide), if_neg (by decide), if_neg (by decide), if_pos rfl, slotP_place hk8 (by decide) (by decide), store_word (by omega) (by omega) hfit]
    refine ⟨nonxt (cell (a := slotP k 0) (x := 0) (by omega) (low (by omega))), noswing (by decide), nogo0, fun p _ hp _ => ?_⟩
    rcases hp.put with ⟨e, _⟩ | ⟨_, e, _⟩
    · exact nope e rfl
    · exact absurd e (by decide)
theorem MsI.stepT {pc q v hh t w x e y : Int} {l : Li} (h : MsI T o s N) (hk : k < s.2.1.length) (hc : cAt s.2.1 k = ([((10 : Int), pc, (q, v, hh, t, w, x, e, y, ()), l, ())], r)) : StepQ o s N k ((10 : Int), pc, (q, v, hh, t, w, x, e, y, ()), l, ()) r (lTake k s.1 pc q v hh t w x e y l r) o' := by
  obtain ⟨fl, hfl⟩ := h.mm.list
  have hfit := hfl.fits
  have hgood := hfl.good
  have hlen : 128 ≤ s.1.1.length := by have := hfit.1; have := h.mm.more; omega
  have hll := hfit.1
  have hC := h.mm.cores
  have hco := h.core k hk
  rw [hc] at hco
  cases hco with
  | idle e => cases e
  | enq e' _ _ _ => exact nope (show (10 : Int) = 9 from (Prod.mk.inj (List.cons.inj e').1).1) rfl
  | deq e' hq hU hI =>
  have e' := List.cons.inj e'
  obtain ⟨e1, rfl⟩ := e'
  cases e1
  have hsp := sp_lt hq
  have hk8 : k < 8 := by omega
  have htin : ∀ q2, IsQ q2 → 1 ≤ idxI (tlW s.1 q2) := fun q2 h2 => (h.qs.tailS h2).1.1
  have low : ∀ {a x : Int}, 0 ≤ a → a < 128 → ∀ q2, IsQ q2 → nx (setW s.1 a x) (idxI (tlW s.1 q2)) = nx s.1 (idxI (tlW s.1 q2)) := fun h0 ha q2 h2 => by
    have := lk_is (idxI (tlW s.1 q2)); have := htin q2 h2
    exact setW_ne h0 (by omega) (by omega)
  have all : ∀ {L : Loc}, (∀ q2, IsQ q2 → nx L.m (idxI (tlW s.1 q2)) = nx s.1 (idxI (tlW s.1 q2))) → (L.fs = [] ∨ ∃ pc' g' l' G, L.fs = ((10 : Int), pc', g', l', ()) :: G) → StepQ o s N k ((10 : Int), pc, (q, v, hh, t, w, x, e, y, ()), l, ()) r L o' := fun hnx hfs => by
    refine ⟨fun q2 h2 _ h0 hx => ?_, fun q2 v2 n2 w2 r32 l2 _ e2 => ?_, fun q2 pc2 v2 n2 t2 w2 r32 l2 e2 => ?_, fun p _ hp _ => ?_⟩
    · rw [hnx q2 h2, h0] at hx
      exact absurd rfl hx
    · exact nope (show (10 : Int) = 9 from (Prod.mk.inj e2).1) rfl
    · rcases hfs with e3 | ⟨pc', g', l', G, e3⟩
      · rw [e3] at e2; cases e2
      · rw [e3] at e2
        exact nope (show (10 : Int) = 9 from (Prod.mk.inj (List.cons.inj e2).1).1) rfl
    · rcases hp with ⟨F, f, e1, e2, _⟩ | ⟨f, U, e1, e2, _⟩
      · obtain ⟨_, e6⟩ := List.append_inj' (show [] ++ [((10 : Int), pc, (q, v, hh, t, w, x, e, y, ()), l, ())] = F ++ [f] from e1) rfl
        have e6 := (List.cons.inj e6).1
        rw [← e6] at e2
        rcases e2 with ⟨e, _⟩ | ⟨e, _⟩
        · exact nope (show (10 : Int) = 7 from e) rfl
        · exact nope (show (10 : Int) = 9 from e) rfl
      · rw [← (List.cons.inj e1).1] at e2
        exact nope (show (10 : Int) = 9 from e2) rfl
  have cas : ∀ {a u z : Int}, 0 ≤ a → a < 124 → ∀ q2, IsQ q2 → nx (casM s.1 a u z) (idxI (tlW s.1 q2)) = nx s.1 (idxI (tlW s.1 q2)) := fun {a u z} h0 h1 q2 h2 => by
    rcases cas_word (m := s.1) (a := a) (w := u) (v := z) h0 h1 hfit with ⟨_, _, e⟩ | ⟨_, _, e⟩
    · rw [e]; exact low h0 (by omega) q2 h2
    · rw [e]
  have hd32 : 32 + 2 * q = hdP q := rfl
  have tl33 : 33 + 2 * q = tlP q := rfl
  unfold lTake
  cases hI with
  | p1a _ u => obtain ⟨g, u, _⟩ := u; cases u
  | p9a _ u => obtain ⟨g, rest, u, _⟩ := u; cases u
  | p0 h1 _ => subst h1; rw [if_pos rfl]; exact all (fun _ _ => rfl) (.inr ⟨_, _, _, _, rfl⟩)
  | p1 h1 _ _ => subst h1; rw [if_neg (by decide), if_pos rfl]; exact all (fun _ _ => rfl) (.inr ⟨_, _, _, _, rfl⟩)
  | p2 h1 _ _ => subst h1; rw [if_neg (by decide), if_neg (by decide), if_pos rfl]; exact all (fun _ _ => rfl) (.inr ⟨_, _, _, _, rfl⟩)
  | p3 h1 _ _ _ _ =>
    subst h1
    rw [if_neg (by decide), if_neg (by decide), if_neg (by decide), if_pos rfl]
    split
    · exact all (fun _ _ => rfl) (.inr ⟨_, _, _, _, rfl⟩)
    · split <;> exact all (fun _ _ => rfl) (.inr ⟨_, _, _, _, rfl⟩)
  | p4 h1 _ _ =>
    subst h1
    rw [if_neg (by decide), if_neg (by decide), if_neg (by decide), if_neg (by decide), if_pos rfl]
    exact all (cas (by omega) (by omega)) (.inr ⟨_, _, _, _, rfl⟩)
  | p58 hp _ _ =>
    have hp4 : pc = 5 ∨ pc = 6 ∨ pc = 7 ∨ pc = 8 := by
      have key : ∀ x : Int, 5 ≤ x ∧ x ≤ 8 → x = 5 ∨ x = 6 ∨ x = 7 ∨ x = 8 := fun x hx => by omega
      exact key pc hp
    rcases hp4 with h1 | h1 | h1 | h1 <;> subst h1
    · have hs := slotP_is k 1
      rw [if_neg (by decide), if_neg (by decide), if_neg (by decide), if_neg (by decide), if_neg (by decide), if_pos rfl, slotP_place hk8 (by decide) (by decide), store_word (by omega) (by omega) hfit]
      exact all (low (by omega) (by omega)) (.inr ⟨_, _, _, _, rfl⟩)
    · rw [if_neg (by decide), if_neg (by decide), if_neg (by decide), if_neg (by decide), if_neg (by decide), if_neg (by decide), if_pos rfl]
      split <;> exact all (fun _ _ => rfl) (.inr ⟨_, _, _, _, rfl⟩)
    · rw [if_neg (by decide), if_neg (by decide), if_neg (by decide), if_neg (by decide), if_neg (by decide), if_neg (by decide), if_neg (by decide), if_pos rfl]
      exact all (fun _ _ => rfl) (.inr ⟨_, _, _, _, rfl⟩)
    · rw [if_neg (by decide), if_neg (by decide), if_neg (by decide), if_neg (by decide), if_neg (by decide), if_neg (by decide), if_neg (by decide), if_neg (by decide), if_pos rfl]
      split <;> exact all (cas (by omega) (by omega)) (.inr ⟨_, _, _, _, rfl⟩)
  | p9 h1 _ =>
    subst h1
    have hs := slotP_is k 0
    rw [if_neg (by decide), if_neg (by decide), if_neg (by decide), if_neg (by decide), if_neg (by decide), if_neg (by decide), if_neg (by decide), if_neg (by decide), if_neg (by decide), if_pos rfl, slotP_place hk8 (by decide) (by decide), store_word (by omega) (by omega) hfit]
    exact all (low (by omega) (by omega)) (.inr ⟨_, _, _, _, rfl⟩)
  | p10 h1 _ =>
    subst h1
    have hs := slotP_is k 1
    rw [if_neg (by decide), if_neg (by decide), if_neg (by decide), if_neg (by decide), if_neg (by decide), if_neg (by decide), if_neg (by decide), if_neg (by decide), if_neg (by decide), if_neg (by decide), if_pos rfl, slotP_place hk8 (by decide) (by decide), store_word (by omega) (by omega) hfit]
    exact all (low (by omega) (by omega)) (.inl rfl)
/-- A step of a core that is at an op. -/
theorem MqI.turnL (h : MqI T o s N) (g : LgI o s N) (hT : T < 1000000000) (hk : k < s.2.1.length) (hb : (cAt s.2.1 k).1 ≠ []) : ∃ o' N', MqI (T + 1) o' (msqS s k) N' ∧ LgI o' (msqS s k) N' := by
  obtain ⟨F, f, r, hc⟩ : ∃ F f r, cAt s.2.1 k = (F ++ [f], r) := by
    obtain ⟨F, f, e⟩ : ∃ F f, (cAt s.2.1 k).1 = F ++ [f] := by
      obtain ⟨F, f, e⟩ := (List.eq_nil_or_concat (cAt s.2.1 k).1).resolve_left hb
      exact ⟨F, f, by rw [e, List.concat_eq_append]⟩
    exact ⟨F, f, (cAt s.2.1 k).2, by rw [← e]⟩
  have hC := h.mm.cores
  have ht : topI s k = some f := by rw [topI_is (by omega) (by omega), hc]; exact List.getLast?_concat
  have hne : ∀ q, IsQ q → N q ≠ [] := fun q hq => (h.qs.q q hq).ne
  have hco := h.core k hk
  rw [hc] at hco
  by_cases h8 : 1 ≤ f.1 ∧ f.1 ≤ 8
  · have hno : ¬ (f.1 = 9 ∨ f.1 = 10) := fun e => by rcases e with e | e <;> rw [e] at h8 <;> exact absurd h8.2 (by decide)
    have e0 : msqS s k = alS s k := by
      rw [msqS_some ht]
      exact if_neg hno
    obtain ⟨o1, e, hg, _⟩ := h.toMsI.step hT hk hc h8
    obtain ⟨o', hm, gl⟩ := LgI.mm h.toMsI g hT hk hc h8
    rw [e0]
    refine ⟨o', N, ⟨hm, ?_⟩, gl⟩
    rw [e]
    intro q hq
    have hs : itemsQ (lMM s.2.1.length k s.1 f r).m (N q) = itemsQ s.1 (N q) := items_same fun p hp => (hg.nx (h.qs.inn q p hq hp).1).2
    show playI q [] (s.2.2.1 ++ (lMM s.2.1.length k s.1 f r).ev) = some (itemsQ (lMM s.2.1.length k s.1 f r).m (N q))
    rw [hs]
    rcases hg.log with e1 | e1
    · rw [e1, List.append_nil]; exact h.log q hq
    · rw [e1, playI_snoc (h.log q hq)]
      unfold playE
      split
      · rfl
      · rw [if_neg (show ¬ (9 : Int) = 1 by decide), if_neg (show ¬ (9 : Int) = 2 by decide), if_neg (show ¬ (9 : Int) = 3 by decide)]
  · have small : ∀ (f0 : Frm) (U : List Frm), F ++ [f] = f0 :: U → (∀ g ∈ U, 1 ≤ g.1 ∧ g.1 ≤ 8) → F = [] ∧ f = f0 ∧ U = [] := fun f0 U e hU => by
      by_cases c : U = []
      · subst c
        obtain ⟨a, b⟩ := one_of e
        exact ⟨a, b, rfl⟩
      · exfalso
        obtain ⟨U', _, e2⟩ := snoc_of e c
        exact h8 (hU f (by rw [e2]; simp))
    have key : ∃ (hop : f.1 = 9 ∨ f.1 = 10) (hF : F = []) (hq : 0 ≤ f.2.2.1.1 ∧ f.2.2.1.1 ≤ 7), ∃ o' N', MsI (T + 1) o' ((lQ k s.1 f r).into s k []) N' ∧ Eff k N s.1 N' (lQ k s.1 f r).m (lQ k s.1 f r).ev ∧ (∀ q p, IsQ q → p ∈ N q → vl (lQ k s.1 f r).m p = vl s.1 p) ∧ LgI o' ((lQ k s.1 f r).into s k []) N' := by
      cases hco with
      | idle e => exact absurd e (by simp)
      | @enq pc q v n t w r3 l U e hq hU hI =>
        obtain ⟨rfl, rfl, rfl⟩ := small _ U e hU
        obtain ⟨hq, o', N', hm, heff, hval, hw, hwh⟩ := h.toMsI.put hT hk hc
        have hq7 : 0 ≤ q ∧ q ≤ 7 := by rcases hq with e | e <;> omega
        exact ⟨.inl rfl, rfl, hq7, o', N', hm, heff, hval, LgI.after h.toMsI g hk hc (show ¬ (9 : Int) ≤ 8 by decide) hm hw hwh (h.toMsI.stepP g hT hk hc hm hwh) (congrArg List.length (show _ = s.1.2.1 from lPut_keepG (m := s.1)))⟩
      | @deq pc q v hh t w x e y l U e' hq hU hI =>
        obtain ⟨rfl, rfl, rfl⟩ := small _ U e' hU
        obtain ⟨hq, o', N', hm, heff, hval, hw, hwh⟩ := h.toMsI.take hT hk hc
        have hq7 : 0 ≤ q ∧ q ≤ 7 := by rcases hq with e | e <;> omega
        exact ⟨.inr rfl, rfl, hq7, o', N', hm, heff, hval, LgI.after h.toMsI g hk hc (show ¬ (10 : Int) ≤ 8 by decide) hm hw hwh (h.toMsI.stepT hk hc) (congrArg List.length (show _ = s.1.2.1 from lTake_keepG (m := s.1)))⟩
    obtain ⟨hop, hF, hq, o', N', hm, heff, hval, gl⟩ := key
    subst hF
    have e := msq_loc (k := (k : Int)) (by omega) (by omega) (by show 0 ≤ 38; decide) hc hop hq
    rw [e]
    exact ⟨o', N', ⟨hm, h.log.eff hne heff hval⟩, gl⟩
end
end Go.Proofs.YtpobngddiifdpaaGreat.V
