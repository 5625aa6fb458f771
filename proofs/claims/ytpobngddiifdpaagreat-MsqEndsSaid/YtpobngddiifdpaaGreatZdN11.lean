/- The document's: is it the same? parts, new systems. -/
import Derived.Test.YtpobngddiifdpaaGreatZdN1
import Derived.Test.YtpobngddiifdpaaGreatZdV30
import Derived.Test.YtpobngddiifdpaaGreatZdN10
set_option linter.unusedSimpArgs false
set_option linter.unusedVariables false
namespace Go.Proofs.YtpobngddiifdpaaGreat.V
open Go Go.RowKit Go.Proofs.YtpobngddiifdpaaGreat.Hz
set_option maxRecDepth 100000

theorem places1_len (g : Li) (x : Int) : ∀ i, (places1 g x i).length ≤ i
  | 0 => Nat.le_refl _
  | i + 1 => by
    have h := places1_len g x i
    unfold places1
    split
    · rw [List.length_append]
      have : List.length [(i : Int)] = 1 := rfl
      omega
    · omega
theorem s_refPart (s : Sy) (x : Int) (hg : s.1.2.1.length ≤ 1000000) (h1 : 1 ≤ s.1.2.1.length) : Spec Tryz.prog 80 [vS s, vI x] (vL (places1 s.1.2.1 x s.1.2.1.length)) := by
  refine spec_introF true tab_ok 0 Tryz.func80 rfl (by kernel_rfl) rfl ?_
  conv => whnf
  repeat (refine ⟨by first | omega | (simp only [Option.getD_none, Option.getD_some]; omega) | (simp; done) | (simp; omega), ?_⟩; conv => whnf)
  refine ⟨[(5, 26, yInt, tI)], [1, 2, 4, 5, 6], [2, 26], ?_⟩
  apply Exists.intro
  conv => whnf
  refine loopK (fun i : Int => ((s.1.2.1.length : Int) - i).toNat) (fun i => 1 ≤ i ∧ i ≤ s.1.2.1.length) (fun i => ⟨lay 28 0 [(1, vI x), (2, pB 2), (4, .one (.emp tI)), (5, .one (.row 26)), (6, vI i)], [(2, .cells ySys (cS s)), (26, .row yInt tI (places1 s.1.2.1 x i.toNat))], []⟩) ?_ 1 rfl rfl ⟨Int.le_refl _, by omega⟩
  intro i ih ⟨hi1, hi2⟩ hih
  have hlen := places1_len s.1.2.1 x i.toNat
  have e1 : (i + 1).toNat = i.toNat + 1 := by omega
  have ei : ((i.toNat : Nat) : Int) = i := by omega
  conv => whnf
  repeat (refine ⟨by first | omega | (simp only [Option.getD_none, Option.getD_some]; omega) | (simp; done) | (simp; omega), ?_⟩; conv => whnf)
  refine dcase (fun h3 => ?_) (fun h3 => ?_)
  · have h3 : i < s.1.2.1.length := h3
    conv => whnf
    repeat (refine ⟨by first | omega | (simp only [Option.getD_none, Option.getD_some]; omega) | (simp; done) | (simp; omega), ?_⟩; conv => whnf)
    refine dcase (fun h4 => ?_) (fun h4 => ?_)
    · have hp : places1 s.1.2.1 x (i.toNat + 1) = places1 s.1.2.1 x i.toNat ++ [i] := by
        show (if i.toNat ≠ 0 ∧ nI s.1.2.1 ((i.toNat : Nat) : Int) = x then places1 s.1.2.1 x i.toNat ++ [((i.toNat : Nat) : Int)] else _) = _
        rw [ei]
        exact if_pos ⟨by omega, h4⟩
      conv => whnf
      repeat (refine ⟨by first | omega | (simp only [Option.getD_none, Option.getD_some]; omega) | (simp; done) | (simp; omega), ?_⟩; conv => whnf)
      refine ⟨Nat.le_trans (Nat.succ_le_succ hlen) (le_most (by omega)), ?_⟩
      conv => whnf
      repeat (refine ⟨by first | omega | (simp only [Option.getD_none, Option.getD_some]; omega) | (simp; done) | (simp; omega), ?_⟩; conv => whnf)
      intro z hz
      rw [IntWalk.wrap64_in _ (by omega)] at hz
      have ez : z.toNat = i.toNat + 1 := by omega
      have h := hih z ⟨by omega, by omega⟩ (by omega)
      rw [ez, hp] at h
      conv => whnf
      repeat (refine ⟨by first | omega | (simp only [Option.getD_none, Option.getD_some]; omega) | (simp; done) | (simp; omega), ?_⟩; conv => whnf)
      exact h
    · have hp : places1 s.1.2.1 x (i.toNat + 1) = places1 s.1.2.1 x i.toNat := by
        show (if i.toNat ≠ 0 ∧ nI s.1.2.1 ((i.toNat : Nat) : Int) = x then places1 s.1.2.1 x i.toNat ++ [((i.toNat : Nat) : Int)] else _) = _
        rw [ei]
        exact if_neg (fun e => h4 e.2)
      conv => whnf
      repeat (refine ⟨by first | omega | (simp only [Option.getD_none, Option.getD_some]; omega) | (simp; done) | (simp; omega), ?_⟩; conv => whnf)
      intro z hz
      rw [IntWalk.wrap64_in _ (by omega)] at hz
      have ez : z.toNat = i.toNat + 1 := by omega
      have h := hih z ⟨by omega, by omega⟩ (by omega)
      rw [ez, hp] at h
      conv => whnf
      repeat (refine ⟨by first | omega | (simp only [Option.getD_none, Option.getD_some]; omega) | (simp; done) | (simp; omega), ?_⟩; conv => whnf)
      exact h
  · have h3 : ¬ i < s.1.2.1.length := h3
    have ei2 : s.1.2.1.length = i.toNat := by omega
    rw [ei2]
    conv => whnf
    repeat (refine ⟨by first | omega | (simp only [Option.getD_none, Option.getD_some]; omega) | (simp; done) | (simp; omega), ?_⟩; conv => whnf)
    first | exact .inl rfl | exact .inr rfl
theorem s_refParts (s : Sy) (hg : s.1.2.1.length ≤ 1000000) (h1 : 1 ≤ s.1.2.1.length) : Spec Tryz.prog 35 [vS s] (vLLL (places1 s.1.2.1 0 s.1.2.1.length) (places1 s.1.2.1 1 s.1.2.1.length) (places1 s.1.2.1 2 s.1.2.1.length)) := by
  refine spec_introF false tab_ok 0 Tryz.func35 rfl (by kernel_rfl) rfl ?_
  conv => whnf
  repeat (refine ⟨by first | omega | (simp only [Option.getD_none, Option.getD_some]; omega) | (simp; done) | (simp; omega), ?_⟩; conv => whnf)
  refine ⟨p_hazelref07_Parts_1, g_hazelref07_Parts_1, by kernel_rfl, ?st4, ?_, ?_⟩
  rotate_left
  · skip
    conv => whnf
    repeat (refine ⟨by first | omega | (simp only [Option.getD_none, Option.getD_some]; omega) | (simp; done) | (simp; omega), ?_⟩; conv => whnf)
    repeat' (first | (refine ⟨by first | omega | (simp only [Option.getD_none, Option.getD_some]; omega) | (simp; done) | (simp; omega), ?_⟩; conv => whnf) | (refine .inr (.inl ⟨_, s_refPart s 0 hg h1, ?_⟩); conv => whnf) | (refine .inl (.inr (.inl ⟨_, s_refPart s 0 hg h1, ?_⟩)); conv => whnf) | (refine .inr (.inl ⟨_, s_refPart s 1 hg h1, ?_⟩); conv => whnf) | (refine .inl (.inr (.inl ⟨_, s_refPart s 1 hg h1, ?_⟩)); conv => whnf) | (refine .inr (.inl ⟨_, s_refPart s 2 hg h1, ?_⟩); conv => whnf) | (refine .inl (.inr (.inl ⟨_, s_refPart s 2 hg h1, ?_⟩)); conv => whnf) | (refine And.intro ?_ ?_ <;> conv => whnf) | exact rfl)
  conv => whnf
  repeat (refine ⟨by first | omega | (simp only [Option.getD_none, Option.getD_some]; omega) | (simp; done) | (simp; omega), ?_⟩; conv => whnf)
  first | exact .inl rfl | exact .inr rfl
/-! ### New systems, of arguments that may not be, too -/
end Go.Proofs.YtpobngddiifdpaaGreat.V

set_option linter.unusedSimpArgs false
set_option linter.unusedVariables false
namespace Go.Proofs.YtpobngddiifdpaaGreat.V
open Go Go.RowKit Go.Proofs.YtpobngddiifdpaaGreat.Hz
set_option maxRecDepth 100000

theorem nodup_len : ∀ (n : Nat) (l : List Int), l.Nodup → (∀ p ∈ l, 0 ≤ p ∧ p < n) → l.length ≤ n
  | 0, l, _, h => by
    cases l with
    | nil => exact Nat.le_refl _
    | cons a r => have := h a (List.mem_cons_self ..); omega
  | n + 1, l, hn, h => by
    have ih := nodup_len n (l.erase (n : Int)) (hn.erase _) fun p hp => by
      have h1 := (hn.mem_erase_iff).1 hp
      have h2 := h p h1.2
      have h3 : p ≠ (n : Int) := h1.1
      omega
    by_cases c : (n : Int) ∈ l
    · rw [List.length_erase_of_mem c] at ih; omega
    · rw [List.erase_of_not_mem c] at ih; omega
/-- Where the walk is behind i nodes. -/
def walkP (l : List Int) (i : Nat) : Int := l.getD i 0
theorem Chain.drop {W : Li} : ∀ {l : List Int} {p : Int}, Chain W p l → ∀ i : Nat, i ≤ l.length → Chain W (walkP l i) (l.drop i)
  | [], p, h, i, hi => by
    have : i = 0 := by simpa using hi
    subst this
    rfl
  | q :: l, p, h, 0, _ => by
    show Chain W q (q :: l)
    exact ⟨rfl, h.2⟩
  | q :: l, p, h, i + 1, hi => Chain.drop h.2 i (by simpa using hi)
theorem Chain.next {W : Li} {l : List Int} {p : Int} (h : Chain W p l) {i : Nat} (hi : i < l.length) : nI W (lk (walkP l i)) = walkP l (i + 1) := by
  have h1 := Chain.drop h i (Nat.le_of_lt hi)
  have h2 := Chain.drop h (i + 1) hi
  rw [List.drop_eq_getElem_cons hi] at h1
  have e : walkP l i = l[i] := by unfold walkP; rw [List.getD_eq_getElem?_getD, List.getElem?_eq_getElem hi]; rfl
  have h3 := h1.2
  rw [e]
  cases hd : l.drop (i + 1) with
  | nil => rw [hd] at h2 h3; exact h3.trans h2.symm
  | cons a r => rw [hd] at h2 h3; exact h3.1.trans h2.1.symm
abbrev vLB (l : Li) (b : Bool) : SV := .tup [(false, [.sl tI l false]), (false, [.bool b])]
theorem s_refWalk (m : Me) (l : List Int) (h : FL m l) : Spec Tryz.prog 36 [vM m] (vLB l true) := by
  have hf := h.fits
  have hg : m.2.1.length ≤ 1000000 := Nat.le_trans hf.2 (by decide)
  have hlen : l.length ≤ 1000 := nodup_len 1000 l h.nodup fun p hp => by
    have := (h.mem p).1 hp
    have := hf.2
    omega
  obtain ⟨P, hP0, hP1, hP2, hP3⟩ : ∃ P : Nat → Int, P 0 = idxI (nI m.1 0) ∧ (∀ i, i < l.length → l.take (i + 1) = l.take i ++ [P i] ∧ P i ∈ l ∧ ∀ j : Nat, j < i → (l.take i).getD j 0 ≠ P i) ∧ (∀ i, i < l.length → nI m.1 (lk (P i)) = P (i + 1)) ∧ (∀ i, l.length ≤ i → P i = 0) := by
    refine ⟨walkP l, ?_, fun i hi => ?_, fun i hi => h.head.next hi, fun i hi => ?_⟩
    · have h1 := h.head.drop 0 (Nat.zero_le _)
      have h2 := h.head
      rw [List.drop_zero] at h1
      cases l with
      | nil => exact h1.trans h2.symm
      | cons a r => exact h1.1.trans h2.1.symm
    · have e : walkP l i = l[i] := by unfold walkP; rw [List.getD_eq_getElem?_getD, List.getElem?_eq_getElem hi]; rfl
      rw [e]
      refine ⟨List.take_succ_eq_append_getElem hi, List.getElem_mem _, fun j hj he => ?_⟩
      rw [List.getD_eq_getElem?_getD, List.getElem?_eq_getElem (by rw [List.length_take]; omega), List.getElem_take] at he
      exact List.pairwise_iff_getElem.1 h.nodup j i (by omega) hi hj he
    · unfold walkP
      rw [List.getD_eq_getElem?_getD, List.getElem?_eq_none hi]
      rfl
  obtain ⟨e1, e2⟩ := load_word (m := m) (p := 0) (by decide) (by decide) hf
  have hld := s_refLoad m 0 hg
  rw [e1, e2] at hld
  have hix := s_refIndex (nI m.1 0)
  rw [← hP0] at hix
  refine spec_introF true tab_ok 0 Tryz.func36 rfl (by kernel_rfl) rfl ?_
  conv => whnf
  first | refine .inr (.inl ⟨_, hld, ?_⟩) | refine .inl (.inr (.inl ⟨_, hld, ?_⟩))
  conv => whnf
  repeat (refine ⟨by first | omega | (simp only [Option.getD_none, Option.getD_some]; omega) | (simp; done) | (simp; omega), ?_⟩; conv => whnf)
  first | refine .inl ⟨_, hix, ?_⟩ | refine .inl (.inl ⟨_, hix, ?_⟩)
  conv => whnf
  repeat (refine ⟨by first | omega | (simp only [Option.getD_none, Option.getD_some]; omega) | (simp; done) | (simp; omega), ?_⟩; conv => whnf)
  refine ⟨[(4, 44, yInt, tI)], [1, 2, 3, 4, 7], [1, 44], ?_⟩
  apply Exists.intro
  conv => whnf
  refine loopK (fun i : Nat => l.length - i) (fun i => i ≤ l.length) (fun i => ⟨lay 54 0 [(1, pB 1), (2, .one (.emp tI)), (3, vB false), (4, .one (.row 44)), (7, vI (P i))], [(1, .cells yMem (cM m)), (44, .row yInt tI (l.take i))], []⟩) ?_ 0 rfl rfl (Nat.zero_le _)
  intro i ih hi hih
  conv => whnf
  refine dcase (fun hp => ?_) (fun hp => ?_)
  · have hi2 : i < l.length := Nat.lt_of_not_le fun e => hp (hP3 i e)
    obtain ⟨q1, q2, q3⟩ := hP1 i hi2
    obtain ⟨g1, g2, _⟩ := (h.mem _).1 q2
    obtain ⟨p, hpp⟩ : ∃ p, P i = p := ⟨_, rfl⟩
    have hnx := hP2 i hi2
    rw [hpp] at q1 q2 q3 g1 g2 hnx ⊢
    obtain ⟨e3, e4⟩ := load_link g1 g2 hf
    have hl2 := s_refLoad m (lk p) hg
    rw [e3, e4, hnx] at hl2
    have hAt : Spec Tryz.prog 34 [vI p, vI 0] (vI (lk p)) := by
      have := hf.2
      rw [← atI_link g1 (by omega)]
      exact s_refAt _ _
    conv => whnf
    refine dcase (fun hc => absurd hc (by omega)) (fun _ => ?_)
    conv => whnf
    refine dcase (fun hc => absurd g2 (Int.not_lt.2 hc)) (fun _ => ?_)
    conv => whnf
    have hti : (l.take i).length = i := by rw [List.length_take]; omega
    obtain ⟨X, hX⟩ : ∃ X, l.take i = X := ⟨_, rfl⟩
    rw [hX] at q1 q3 hti ⊢
    refine ⟨[], [1, 2, 3, 4, 7, 8], [1, 44], ?_⟩
    apply Exists.intro
    conv => whnf
    refine loopK (fun j : Nat => i - j) (fun j => j ≤ i) (fun j => ⟨lay 54 0 [(1, pB 1), (2, .one (.emp tI)), (3, vB false), (4, .one (.row 44)), (7, vI p), (8, vI (j : Int))], [(1, .cells yMem (cM m)), (44, .row yInt tI X)], []⟩) ?_ 0 rfl rfl (Nat.zero_le _)
    intro j ih2 hj hih2
    conv => whnf
    refine dcase (fun h3 => ?_) (fun h3 => ?_)
    · replace h3 : (j : Int) < X.length := h3
      conv => whnf
      refine ⟨⟨by omega, h3⟩, ?_⟩
      conv => whnf
      refine ⟨by omega, ?_⟩
      conv => whnf
      refine dcase (fun h4 => absurd h4 (q3 j (by omega))) (fun _ => ?_)
      conv => whnf
      intro z hz
      replace hz : z = ((j + 1 : Nat) : Int) := by rw [IntWalk.wrap64_in _ (by omega)] at hz; omega
      subst hz
      conv => whnf
      exact hih2 (j + 1) (by omega) (by omega)
    · conv => whnf
      refine ⟨?_, ?_⟩
      · exact Nat.le_trans (Nat.succ_le_succ (Nat.le_of_eq hti)) (le_most (by omega))
      conv => whnf
      refine ⟨p_hazelref04_Walk_13, g_hazelref04_Walk_13, by kernel_rfl, ?st1, ?_, ?_⟩
      rotate_left
      · conv => whnf
        repeat' (first | (refine .inl ⟨_, hAt, ?_⟩; conv => whnf) | (refine .inl (.inl ⟨_, hAt, ?_⟩); conv => whnf) | (refine .inr (.inl ⟨_, hl2, ?_⟩); conv => whnf) | (refine .inl (.inr (.inl ⟨_, hl2, ?_⟩)); conv => whnf) | (refine And.intro ?_ ?_ <;> conv => whnf) | exact rfl)
      rw [← q1]
      conv => whnf
      exact hih (i + 1) (by omega) (by omega)
  · replace hp : P i = 0 := Decidable.not_not.1 hp
    have hi2 : i = l.length := by
      rcases Nat.lt_or_ge i l.length with c | c
      · have := (h.mem _).1 (hP1 i c).2.1
        omega
      · omega
    subst hi2
    rw [List.take_length]
    conv => whnf
    first | exact .inl rfl | exact .inr rfl
end Go.Proofs.YtpobngddiifdpaaGreat.V

set_option linter.unusedSimpArgs false
set_option linter.unusedVariables false
namespace Go.Proofs.YtpobngddiifdpaaGreat.V
open Go Go.RowKit Go.Proofs.YtpobngddiifdpaaGreat.Hz
set_option maxRecDepth 100000

/-- A new queue's memory. -/
def mkM (m : Me) (q p : Int) : Me := setW (setW (setW (popM m p) (lk p + 1) (nextI (nI m.1 (lk p + 1)) 0 0)) (hdP q) (2 * p)) (tlP q) (2 * p)
section
variable {m : Me} {q p : Int} {l : List Int}
theorem popM_at {a : Int} (h0 : 0 < a) : nI (popM m p).1 a = nI m.1 a := by
  have := nI_set (l := m.1) (i := 0) (j := a) (v := nextI (nI m.1 0) (nI m.1 (lk p)) 0) (by decide) (by omega)
  rw [if_neg (by omega)] at this
  exact this
theorem mkM_is (h : FL m (p :: l)) (hq : IsQ q) (ht : tagI (nI m.1 0) ≤ 1000) : FL (mkM m q p) l ∧ (mkM m q p).2.1 = List.set (α := Int) m.2.1 p.toNat 1 ∧ hdW (mkM m q p) q = 2 * p ∧ tlW (mkM m q p) q = 2 * p ∧ idxI (nx (mkM m q p) p) = 0 ∧ tagI (nI (mkM m q p).1 0) = tagI (nI m.1 0) + 1 ∧
    (∀ a, 0 < a → a ≠ hdP q → a ≠ tlP q → a ≠ lk p + 1 → nI (mkM m q p).1 a = nI m.1 a) := by
  have hpm := (h.mem p).1 (List.mem_cons_self ..)
  have hsp := sp_lt hq
  have hlk := lk_is p
  have hf := h.popped.fits
  have hlen : (popM m p).1.length = m.1.length := List.length_set
  have hf0 := h.fits
  have h1 := hf0.1
  have h2 := hf0.2
  have hlr := Chain.range (n := m.2.1.length) h.head.2 (fun q hq => by have := (h.mem q).1 (List.mem_cons_of_mem _ hq); omega) (by omega)
  have rest : ∀ a, 0 ≤ a → a ≠ hdP q → a ≠ tlP q → a ≠ lk p + 1 → nI (mkM m q p).1 a = nI (popM m p).1 a := fun a h0 h1 h2 h3 => by
    unfold mkM
    rw [setW_ne (by omega) h0 (fun e => h2 e.symm), setW_ne (by omega) h0 (fun e => h1 e.symm), setW_ne (by omega) h0 (fun e => h3 e.symm)]
  have e0 : nI (popM m p).1 0 = nextI (nI m.1 0) (nI m.1 (lk p)) 0 := by
    have := nI_set (l := m.1) (i := 0) (j := 0) (v := nextI (nI m.1 0) (nI m.1 (lk p)) 0) (by decide) (by decide)
    rw [if_pos ⟨rfl, by omega⟩] at this
    exact this
  refine ⟨?_, rfl, ?_, ?_, ?_, ?_, fun a h0 h1 h2 h3 => (rest a (by omega) h1 h2 h3).trans (popM_at h0)⟩
  · unfold mkM
    exact ((h.popped.setW (by omega) fun x hx => by have := lk_is x; omega).setW (by omega) fun x hx => by have := (h.popped.mem x).1 hx; have := lk_is x; omega).setW (by omega) fun x hx => by have := (h.popped.mem x).1 hx; have := lk_is x; omega
  · unfold mkM hdW
    rw [setW_ne (by omega) (by omega) (fun e => hsp.2.2.2.2 e.symm)]
    refine setW_self (by omega) ?_
    show hdP q < ((List.set (α := Int) (popM m p).1 _ _).length : Int)
    rw [List.length_set, hlen]; omega
  · unfold mkM tlW
    refine setW_self (by omega) ?_
    show tlP q < ((List.set (α := Int) (List.set (α := Int) (popM m p).1 _ _) _ _).length : Int)
    rw [List.length_set, List.length_set, hlen]; omega
  · unfold mkM nx
    rw [setW_ne (by omega) (by omega) (by omega), setW_ne (by omega) (by omega) (by omega), setW_self (by omega) (by rw [hlen]; omega)]
    exact idx_next (by decide) (by decide)
  · rw [rest 0 (by decide) (by omega) (by omega) (by omega), e0, tag_next hlr.1 (by omega)]
    have : 0 ≤ tagI (nI m.1 0) := by unfold tagI; omega
    omega
end
/-- Two queues on a new system. -/
def newQ (c n : Int) : Sy := (mkM (mkM (newF c n).1 0 1) 1 2, (newF c n).2)
def ownQ : OM := fun p => if p = 1 ∨ p = 2 then .shared else .free
def nodesQ : NQ := fun q => if q = 0 then [1] else [2]
theorem up_two {n : Nat} (h : 2 ≤ n) : ∃ l, up n 1 = 1 :: 2 :: l := by
  obtain ⟨k, rfl⟩ : ∃ k, n = k + 2 := ⟨n - 2, by omega⟩
  exact ⟨up k 3, rfl⟩
theorem newQ_is {c n : Nat} (h1 : 2 ≤ n) (h2 : n ≤ 200) : ∃ l, up n 1 = 1 :: 2 :: l ∧ FL (newF (c : Int) (n : Int)).1 (1 :: 2 :: l) ∧ FL (mkM (newF (c : Int) (n : Int)).1 0 1) (2 :: l) ∧ FL (newQ (c : Int) (n : Int)).1 l ∧ (newQ (c : Int) (n : Int)).1.2.1.length = n + 1 := by
  obtain ⟨l, hl⟩ := up_two h1
  have hfl : FL (newF (c : Int) (n : Int)).1 (up n 1) := FL.filled (by omega) h2
  rw [hl] at hfl
  have ht0 : tagI (nI (newF (c : Int) (n : Int)).1.1 0) = 0 := by rw [newF_head (by omega) h2]; decide
  obtain ⟨a1, a2, _, _, _, a6, _⟩ := mkM_is (q := 0) hfl (.inl rfl) (by omega)
  obtain ⟨b1, b2, _⟩ := mkM_is (q := 1) a1 (.inr rfl) (by omega)
  refine ⟨l, hl, hfl, a1, b1, ?_⟩
  show (mkM (mkM (newF (c : Int) (n : Int)).1 0 1) 1 2).2.1.length = _
  rw [b2, List.length_set, a2, List.length_set]
  exact newF_glen (by omega) h2
theorem MqI.start {c n : Nat} (h1 : 2 ≤ n) (h2 : n ≤ 200) (c1 : 1 ≤ c) (c8 : c ≤ 8) : MqI 2 ownQ (newQ (c : Int) (n : Int)) nodesQ := by
  obtain ⟨l, hl, hfl, hfl1, hfl2, hglen⟩ := newQ_is (c := c) h1 h2
  have ht0 : tagI (nI (newF (c : Int) (n : Int)).1.1 0) = 0 := by rw [newF_head (by omega) h2]; decide
  obtain ⟨_, a2, a3, a4, a5, a6, a7⟩ := mkM_is (q := 0) hfl (.inl rfl) (by omega)
  obtain ⟨_, b2, b3, b4, b5, b6, b7⟩ := mkM_is (q := 1) hfl1 (.inr rfl) (by omega)
  have hg0 := newF_glen (c := (c : Int)) (n := n) (by omega) h2
  have hlc : (newQ (c : Int) (n : Int)).2.1.length = c := by
    show (List.replicate (c : Int).toNat _).length = c
    rw [List.length_replicate, Int.toNat_natCast]
  have hG : ∀ p, InN (newQ (c : Int) (n : Int)).1 p → nI (newQ (c : Int) (n : Int)).1.2.1 p = if p = 1 ∨ p = 2 then 1 else 0 := fun p hp => by
    have hp1 := hp.1
    have hp2 := hp.2
    rw [hglen] at hp2
    show nI (mkM (mkM (newF (c : Int) (n : Int)).1 0 1) 1 2).2.1 p = _
    rw [b2, nI_set (by decide) (by omega), a2, nI_set (by decide) (by omega), List.length_set, hg0]
    by_cases e2 : p = 2
    · subst e2
      rw [if_pos ⟨rfl, by omega⟩, if_pos (.inr rfl)]
    · rw [if_neg (fun e => e2 e.1.symm)]
      by_cases e1 : p = 1
      · subst e1
        rw [if_pos ⟨rfl, by omega⟩, if_pos (.inl rfl)]
      · rw [if_neg (fun e => e1 e.1.symm), if_neg (fun e => e.elim e1 e2)]
        have := (hfl.mem p).1 (by rw [← hl]; exact (up_mem9 n 1 p).2 ⟨hp1, by omega⟩)
        exact this.2.2
  have hw0 : hdW (newQ (c : Int) (n : Int)).1 0 = 2 ∧ tlW (newQ (c : Int) (n : Int)).1 0 = 2 := by
    constructor
    · exact (b7 (hdP 0) (by decide) (by decide) (by decide) (by decide)).trans a3
    · exact (b7 (tlP 0) (by decide) (by decide) (by decide) (by decide)).trans a4
  have hw1 : hdW (newQ (c : Int) (n : Int)).1 1 = 4 ∧ tlW (newQ (c : Int) (n : Int)).1 1 = 4 := ⟨b3, b4⟩
  have hn1 : idxI (nx (newQ (c : Int) (n : Int)).1 1) = 0 := by
    have : nx (newQ (c : Int) (n : Int)).1 1 = nx (mkM (newF (c : Int) (n : Int)).1 0 1) 1 := b7 _ (by decide) (by decide) (by decide) (by decide)
    rw [this]; exact a5
  have hn2 : idxI (nx (newQ (c : Int) (n : Int)).1 2) = 0 := b5
  have hin : ∀ p : Int, p = 1 ∨ p = 2 → InN (newQ (c : Int) (n : Int)).1 p := fun p hp => by
    unfold InN
    rw [hglen]
    omega
  have hcA : ∀ k : Nat, cAt (newQ (c : Int) (n : Int)).2.1 k = dflt tCore := fun k => newF_cor (c := (c : Int)) (n := (n : Int))
  refine ⟨⟨⟨⟨l, hfl2⟩, by rw [hglen]; omega, by rw [hlc]; omega, ?_, fun p hp => ?_, fun k hk => ?_⟩, ?_, fun q hq => ?_, fun k hk => ?_⟩, fun q hq => ?_⟩
  · show tagI (nI (mkM (mkM (newF (c : Int) (n : Int)).1 0 1) 1 2).1 0) ≤ 2
    rw [b6, a6]; omega
  · rw [hG p hp]
    unfold ownQ
    split <;> rfl
  · rw [hcA k]
    refine ⟨trivial, List.nodup_nil, fun p => ⟨fun h => (nomatch h), fun h => ?_⟩, .inl (Nat.zero_le _), fun p x _ h => ?_⟩
    · have := h.2
      unfold ownQ at this
      split at this <;> cases this
    · unfold ownQ at h
      split at h <;> cases h
  · refine ⟨fun q hq => ?_, fun q p hq hp => ?_, fun p hp e => ?_, fun p hp hp2 => ?_, fun p c hp e => ?_⟩
    · rcases hq with e | e <;> subst e
      · refine ⟨?_, by show [(1 : Int)].Nodup; simp, [], .inl ?_⟩
        · rw [hw0.1]; exact ⟨by decide, hn1⟩
        · rw [hw0.2]; rfl
      · refine ⟨?_, by show [(2 : Int)].Nodup; simp, [], .inl ?_⟩
        · rw [hw1.1]; exact ⟨by decide, hn2⟩
        · rw [hw1.2]; rfl
    · rcases hq with e | e <;> subst e
      · rw [show p = 1 from List.mem_singleton.1 (show p ∈ [(1 : Int)] from hp)]
        exact ⟨hin 1 (.inl rfl), rfl⟩
      · rw [show p = 2 from List.mem_singleton.1 (show p ∈ [(2 : Int)] from hp)]
        exact ⟨hin 2 (.inr rfl), rfl⟩
    · unfold ownQ at e
      split at e
      · rename_i h
        rcases h with h | h <;> rw [h]
        · exact ⟨0, .inl rfl, List.mem_singleton.2 rfl⟩
        · exact ⟨1, .inr rfl, List.mem_singleton.2 rfl⟩
      · cases e
    · rw [show p = 1 from List.mem_singleton.1 (show p ∈ [(1 : Int)] from hp)] at hp2
      exact nope (show (1 : Int) = 2 from List.mem_singleton.1 (show (1 : Int) ∈ [(2 : Int)] from hp2)) rfl
    · unfold ownQ at e
      split at e <;> rcases e with e | e <;> cases e
  · rcases hq with e | e <;> subst e
    · rw [hw0.1, hw0.2]; decide
    · rw [hw1.1, hw1.2]; decide
  · rw [hcA k]
    exact .idle rfl
  · show playI q [] [] = _
    rcases hq with e | e <;> subst e <;> rfl
end Go.Proofs.YtpobngddiifdpaaGreat.V
