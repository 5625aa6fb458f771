/- The document's: a core goes on until it is done; the free list is walked. -/
import Derived.Test.YtjeiopkfdgllhaaR6
import Derived.Test.YtjeiopkfdgllhaaV29
set_option linter.unusedSimpArgs false
set_option linter.unusedVariables false
namespace Go.Proofs.Ytjeiopkfdgllhaa.V
open Go Go.RowKit Go.Proofs.Ytjeiopkfdgllhaa.Hz
set_option maxRecDepth 100000

theorem nodup_len : ∀ (n : Nat) (l : List Int), l.Nodup → (∀ p ∈ l, 0 ≤ p ∧ p < n) → l.length ≤ n
  | 0, l, _, h => by
    cases l with
    | nil => exact Nat.le_refl _
    | cons a r => have := h a (List.mem_cons_self ..); omega
  | n + 1, l, hn, h => by
    have ih := nodup_len n (l.erase (n : Int)) (hn.erase _) fun p hp => by
      have h1 := (hn.mem_erase_iff).1 hp
      have h2 := h p h1.2
      have h3 : p ≠ (n : Int) := h1.1
      omega
    by_cases c : (n : Int) ∈ l
    · rw [List.length_erase_of_mem c] at ih; omega
    · rw [List.erase_of_not_mem c] at ih; omega
/-- Where the walk is behind i nodes. -/
def walkP (l : List Int) (i : Nat) : Int := l.getD i 0
theorem Chain.drop {W : Li} : ∀ {l : List Int} {p : Int}, Chain W p l → ∀ i : Nat, i ≤ l.length → Chain W (walkP l i) (l.drop i)
  | [], p, h, i, hi => by
    have : i = 0 := by simpa using hi
    subst this
    rfl
  | q :: l, p, h, 0, _ => by
    show Chain W q (q :: l)
    exact ⟨rfl, h.2⟩
  | q :: l, p, h, i + 1, hi => Chain.drop h.2 i (by simpa using hi)
theorem Chain.next {W : Li} {l : List Int} {p : Int} (h : Chain W p l) {i : Nat} (hi : i < l.length) : nI W (lk (walkP l i)) = walkP l (i + 1) := by
  have h1 := Chain.drop h i (Nat.le_of_lt hi)
  have h2 := Chain.drop h (i + 1) hi
  rw [List.drop_eq_getElem_cons hi] at h1
  have e : walkP l i = l[i] := by unfold walkP; rw [List.getD_eq_getElem?_getD, List.getElem?_eq_getElem hi]; rfl
  have h3 := h1.2
  rw [e]
  cases hd : l.drop (i + 1) with
  | nil => rw [hd] at h2 h3; exact h3.trans h2.symm
  | cons a r => rw [hd] at h2 h3; exact h3.1.trans h2.1.symm
abbrev vLB (l : Li) (b : Bool) : SV := .tup [(false, [.sl tI l false]), (false, [.bool b])]
theorem s_refWalk (m : Me) (l : List Int) (h : FL m l) : Spec Try.prog 12 [vM m] (vLB l true) := by
  have hf := h.fits
  have hg : m.2.1.length ≤ 1000000 := Nat.le_trans hf.2 (by decide)
  have hlen : l.length ≤ 1000 := nodup_len 1000 l h.nodup fun p hp => by
    have := (h.mem p).1 hp
    have := hf.2
    omega
  obtain ⟨P, hP0, hP1, hP2, hP3⟩ : ∃ P : Nat → Int, P 0 = idxI (nI m.1 0) ∧ (∀ i, i < l.length → l.take (i + 1) = l.take i ++ [P i] ∧ P i ∈ l ∧ ∀ j : Nat, j < i → (l.take i).getD j 0 ≠ P i) ∧ (∀ i, i < l.length → nI m.1 (lk (P i)) = P (i + 1)) ∧ (∀ i, l.length ≤ i → P i = 0) := by
    refine ⟨walkP l, ?_, fun i hi => ?_, fun i hi => h.head.next hi, fun i hi => ?_⟩
    · have h1 := h.head.drop 0 (Nat.zero_le _)
      have h2 := h.head
      rw [List.drop_zero] at h1
      cases l with
      | nil => exact h1.trans h2.symm
      | cons a r => exact h1.1.trans h2.1.symm
    · have e : walkP l i = l[i] := by unfold walkP; rw [List.getD_eq_getElem?_getD, List.getElem?_eq_getElem hi]; rfl
      rw [e]
      refine ⟨List.take_succ_eq_append_getElem hi, List.getElem_mem _, fun j hj he => ?_⟩
      rw [List.getD_eq_getElem?_getD, List.getElem?_eq_getElem (by rw [List.length_take]; omega), List.getElem_take] at he
      exact List.pairwise_iff_getElem.1 h.nodup j i (by omega) hi hj he
    · unfold walkP
      rw [List.getD_eq_getElem?_getD, List.getElem?_eq_none hi]
      rfl
  obtain ⟨e1, e2⟩ := load_word (m := m) (p := 0) (by decide) (by decide) hf
  have hld := s_refLoad m 0 hg
  rw [e1, e2] at hld
  have hix := s_refIndex (nI m.1 0)
  rw [← hP0] at hix
  refine spec_introF true tab_ok 0 Try.func12 rfl (by kernel_rfl) rfl ?_
  conv => whnf
  first | refine .inr (.inl ⟨_, hld, ?_⟩) | refine .inl (.inr (.inl ⟨_, hld, ?_⟩))
  conv => whnf
  repeat (refine ⟨by first | omega | (simp only [Option.getD_none, Option.getD_some]; omega) | (simp; done) | (simp; omega), ?_⟩; conv => whnf)
  first | refine .inl ⟨_, hix, ?_⟩ | refine .inl (.inl ⟨_, hix, ?_⟩)
  conv => whnf
  repeat (refine ⟨by first | omega | (simp only [Option.getD_none, Option.getD_some]; omega) | (simp; done) | (simp; omega), ?_⟩; conv => whnf)
  refine ⟨[(4, 44, yInt, tI)], [1, 2, 3, 4, 7], [1, 44], ?_⟩
  apply Exists.intro
  conv => whnf
  refine loopK (fun i : Nat => l.length - i) (fun i => i ≤ l.length) (fun i => ⟨lay 54 0 [(1, pB 1), (2, .one (.emp tI)), (3, vB false), (4, .one (.row 44)), (7, vI (P i))], [(1, .cells yMem (cM m)), (44, .row yInt tI (l.take i))], []⟩) ?_ 0 rfl rfl (Nat.zero_le _)
  intro i ih hi hih
  conv => whnf
  refine dcase (fun hp => ?_) (fun hp => ?_)
  · have hi2 : i < l.length := Nat.lt_of_not_le fun e => hp (hP3 i e)
    obtain ⟨q1, q2, q3⟩ := hP1 i hi2
    obtain ⟨g1, g2, _⟩ := (h.mem _).1 q2
    obtain ⟨p, hpp⟩ : ∃ p, P i = p := ⟨_, rfl⟩
    have hnx := hP2 i hi2
    rw [hpp] at q1 q2 q3 g1 g2 hnx ⊢
    obtain ⟨e3, e4⟩ := load_link g1 g2 hf
    have hl2 := s_refLoad m (lk p) hg
    rw [e3, e4, hnx] at hl2
    have hAt : Spec Try.prog 33 [vI p, vI 0] (vI (lk p)) := by
      have := hf.2
      rw [← atI_link g1 (by omega)]
      exact s_refAt _ _
    conv => whnf
    refine dcase (fun hc => absurd hc (by omega)) (fun _ => ?_)
    conv => whnf
    refine dcase (fun hc => absurd g2 (Int.not_lt.2 hc)) (fun _ => ?_)
    conv => whnf
    have hti : (l.take i).length = i := by rw [List.length_take]; omega
    obtain ⟨X, hX⟩ : ∃ X, l.take i = X := ⟨_, rfl⟩
    rw [hX] at q1 q3 hti ⊢
    refine ⟨[], [1, 2, 3, 4, 7, 8], [1, 44], ?_⟩
    apply Exists.intro
    conv => whnf
    refine loopK (fun j : Nat => i - j) (fun j => j ≤ i) (fun j => ⟨lay 54 0 [(1, pB 1), (2, .one (.emp tI)), (3, vB false), (4, .one (.row 44)), (7, vI p), (8, vI (j : Int))], [(1, .cells yMem (cM m)), (44, .row yInt tI X)], []⟩) ?_ 0 rfl rfl (Nat.zero_le _)
    intro j ih2 hj hih2
    conv => whnf
    refine dcase (fun h3 => ?_) (fun h3 => ?_)
    · replace h3 : (j : Int) < X.length := h3
      conv => whnf
      refine ⟨⟨by omega, h3⟩, ?_⟩
      conv => whnf
      refine ⟨by omega, ?_⟩
      conv => whnf
      refine dcase (fun h4 => absurd h4 (q3 j (by omega))) (fun _ => ?_)
      conv => whnf
      intro z hz
      replace hz : z = ((j + 1 : Nat) : Int) := by rw [IntWalk.wrap64_in _ (by omega)] at hz; omega
      subst hz
      conv => whnf
      exact hih2 (j + 1) (by omega) (by omega)
    · conv => whnf
      refine ⟨?_, ?_⟩
      · exact Nat.le_trans (Nat.succ_le_succ (Nat.le_of_eq hti)) (le_most (by omega))
      conv => whnf
      refine ⟨p_hazelref04_Walk_13, g_hazelref04_Walk_13, by kernel_rfl, ?st1, ?_, ?_⟩
      rotate_left
      · conv => whnf
        repeat' (first | (refine .inl ⟨_, hAt, ?_⟩; conv => whnf) | (refine .inl (.inl ⟨_, hAt, ?_⟩); conv => whnf) | (refine .inr (.inl ⟨_, hl2, ?_⟩); conv => whnf) | (refine .inl (.inr (.inl ⟨_, hl2, ?_⟩)); conv => whnf) | (refine And.intro ?_ ?_ <;> conv => whnf) | exact rfl)
      rw [← q1]
      conv => whnf
      exact hih (i + 1) (by omega) (by omega)
  · replace hp : P i = 0 := Decidable.not_not.1 hp
    have hi2 : i = l.length := by
      rcases Nat.lt_or_ge i l.length with c | c
      · have := (h.mem _).1 (hP1 i c).2.1
        omega
      · omega
    subst hi2
    rw [List.take_length]
    conv => whnf
    first | exact .inl rfl | exact .inr rfl
end Go.Proofs.Ytjeiopkfdgllhaa.V
