/- The list of free nodes of any memory, walked by the program and by the document; the items of a queue, the document. -/
import Derived.Test.YtpobngddiifdpaaGreatZbT0
import Derived.Test.YtpobngddiifdpaaGreatZbV14
import Derived.Test.YtpobngddiifdpaaGreatZbQ6
import Derived.Test.YtpobngddiifdpaaGreatZbR2
import Derived.Test.YtpobngddiifdpaaGreatZbQ1
set_option linter.unusedSimpArgs false
set_option linter.unusedVariables false
namespace Go.Proofs.YtpobngddiifdpaaGreat.V
open Go Go.RowKit Go.Proofs.YtpobngddiifdpaaGreat.Hz
set_option maxRecDepth 100000

/-- The free nodes from one on: so many at most, behind those. -/
def walkF (m : Me) : Nat → Int → Li → Option Li
  | 0, _, _ => none
  | f + 1, p, out =>
    if p = 0 then some out
    else if p < 0 ∨ (m.2.1.length : Int) ≤ p ∨ p ∈ out then none
    else walkF m f (loadI m (atI p 0)) (out ++ [p])
def walkI (m : Me) : Option Li := walkF m (m.2.1.length + 1) (idxI (loadI m 0)) []
theorem walkF_mem {m : Me} : ∀ {f : Nat} {p : Int} {out l : Li}, walkF m f p out = some l → (∀ x ∈ out, 1 ≤ x ∧ x < (m.2.1.length : Int)) → ∀ x ∈ l, 1 ≤ x ∧ x < (m.2.1.length : Int)
  | 0, _, _, _, h, _ => nomatch h
  | f + 1, p, out, l, h, ho => by
    unfold walkF at h
    by_cases c : p = 0
    · rw [if_pos c] at h; rw [← Option.some.inj h]; exact ho
    rw [if_neg c] at h
    by_cases c2 : p < 0 ∨ (m.2.1.length : Int) ≤ p ∨ p ∈ out
    · rw [if_pos c2] at h; cases h
    rw [if_neg c2] at h
    refine walkF_mem h fun x hx => ?_
    rcases List.mem_append.1 hx with hx | hx
    · exact ho x hx
    · rw [List.mem_singleton.1 hx]
      have a : ¬ p < 0 := fun e => c2 (.inl e)
      have b : ¬ (m.2.1.length : Int) ≤ p := fun e => c2 (.inr (.inl e))
      have : 1 ≤ p ∧ p < (m.2.1.length : Int) := by omega
      exact this
theorem walkI_mem {m : Me} {l : Li} (h : walkI m = some l) : ∀ x ∈ l, 1 ≤ x ∧ x < (m.2.1.length : Int) := walkF_mem h fun x hx => nomatch hx
theorem s_sWalkI (m : Me) (hf : Fits m) : Spec Tryz.prog 55 [vM m] (vItems (walkI m)) := by
  have hfl := hf.2
  have hld := s_mLoad m 0 hf
  have hix := s_Index (loadI m 0)
  obtain ⟨R, hR⟩ : ∃ R, walkI m = R := ⟨_, rfl⟩
  unfold walkI at hR
  obtain ⟨p0, hp0⟩ : ∃ p0, idxI (loadI m 0) = p0 := ⟨_, rfl⟩
  rw [hp0] at hix hR
  rw [show walkI m = R from by unfold walkI; rw [hp0]; exact hR]
  obtain ⟨m1, w1, h1⟩ : ∃ m1 w1, (loadM m 0, loadI m 0) = (m1, w1) := ⟨_, _, rfl⟩
  obtain ⟨h2, h3⟩ := Prod.mk.inj h1
  rw [h2, h3] at hld
  rw [h3] at hix
  refine spec_introF true tab_ok 0 Tryz.func55 rfl (by kernel_rfl) rfl ?_
  conv => whnf
  repeat (refine ⟨by first | omega | (simp only [Option.getD_none, Option.getD_some]; omega) | (simp; done) | (simp; omega), ?_⟩; conv => whnf)
  first | refine .inr (.inl ⟨_, hld, ?_⟩) | refine .inl (.inr (.inl ⟨_, hld, ?_⟩))
  conv => whnf
  repeat (refine ⟨by first | omega | (simp only [Option.getD_none, Option.getD_some]; omega) | (simp; done) | (simp; omega), ?_⟩; conv => whnf)
  first | refine .inl ⟨_, hix, ?_⟩ | refine .inl (.inl ⟨_, hix, ?_⟩)
  conv => whnf
  repeat (refine ⟨by first | omega | (simp only [Option.getD_none, Option.getD_some]; omega) | (simp; done) | (simp; omega), ?_⟩; conv => whnf)
  refine ⟨[(4, 41, yInt, tI)], [1, 2, 3, 4, 5, 8], [1, 9, 41], ?_⟩
  apply Exists.intro
  conv => whnf
  refine loopK (fun y : Nat × Int × Li => y.1) (fun y => walkF m y.1 y.2.1 y.2.2 = R ∧ y.2.2.length + y.1 = m.2.1.length + 1 ∧ (∀ x : Int, x ∈ y.2.2 → 1 ≤ x ∧ x < (m.2.1.length : Int)) ∧ y.2.2.Nodup) (fun y => ⟨lay 49 0 [(1, pB 1), (2, .one (.emp tI)), (3, vB false), (4, .one (.row 41)), (5, .one (.map 9)), (8, vI y.2.1)], [(1, .cells yMem (cM m)), (9, .bmap y.2.2), (41, .row yInt tI y.2.2)], []⟩) ?_ (m.2.1.length + 1, p0, []) rfl rfl ⟨hR, by simp, (fun x h => nomatch h), List.nodup_nil⟩
  intro ⟨f, p, out⟩ ih ⟨hr, hlen, hmem, hnd⟩ hih
  simp only at hr hlen hmem hnd hih
  have hl1 : out.length ≤ m.2.1.length := nodup_len _ out hnd fun x hx => by
    have := hmem x hx
    omega
  obtain ⟨f, rfl⟩ : ∃ f', f = f' + 1 := ⟨f - 1, by omega⟩
  unfold walkF at hr
  dsimp only
  conv => whnf
  refine dcase (fun hp => ?_) (fun hp => ?_)
  · replace hp : p = 0 := hp
    rw [if_pos hp] at hr
    subst hr
    conv => whnf
    first | exact .inl rfl | exact .inr rfl
  replace hp : ¬ p = 0 := hp
  rw [if_neg hp] at hr
  conv => whnf
  refine dcase (fun c1 => ?_) (fun c1 => ?_)
  · replace c1 : p < 0 := c1
    rw [if_pos (.inl c1)] at hr
    subst hr
    conv => whnf
    first | exact .inl rfl | exact .inr rfl
  replace c1 : ¬ p < 0 := c1
  conv => whnf
  refine dcase (fun c2 => ?_) (fun c2 => ?_)
  · replace c2 : (m.2.1.length : Int) ≤ p := c2
    rw [if_pos (.inr (.inl c2))] at hr
    subst hr
    conv => whnf
    first | exact .inl rfl | exact .inr rfl
  replace c2 : ¬ (m.2.1.length : Int) ≤ p := c2
  conv => whnf
  refine dcase (fun c3 => ?_) (fun c3 => ?_)
  · replace c3 : p ∈ out := c3
    rw [if_pos (.inr (.inr c3))] at hr
    subst hr
    conv => whnf
    first | exact .inl rfl | exact .inr rfl
  replace c3 : ¬ p ∈ out := c3
  rw [if_neg (fun h => h.elim c1 fun h => h.elim c2 c3)] at hr
  have hAt := s_mAt p 0
  have hl2 := s_mLoad m (atI p 0) hf
  have hnd2 : (out ++ [p]).Nodup := List.nodup_append.2 ⟨hnd, by simp, fun a ha b hb e => c3 (by rw [← List.mem_singleton.1 hb, ← e]; exact ha)⟩
  have hmem2 : ∀ x : Int, x ∈ out ++ [p] → 1 ≤ x ∧ x < (m.2.1.length : Int) := fun x hx => by
    rcases List.mem_append.1 hx with h | h
    · exact hmem x h
    · rw [List.mem_singleton.1 h]; omega
  have hl3 : (out ++ [p]).length = out.length + 1 := by rw [List.length_append]; rfl
  have hnx := hih (f, loadI m (atI p 0), out ++ [p]) ⟨hr, by show (out ++ [p]).length + f = _; omega, hmem2, hnd2⟩ (Nat.lt_succ_self _)
  conv => whnf
  refine ⟨Nat.le_trans (Nat.succ_le_succ hl1) (le_most (by omega)), ?_⟩
  conv => whnf
  refine ⟨c3, ?_⟩
  conv => whnf
  refine ⟨p_stack_Walk_10, g_stack_Walk_10, by kernel_rfl, ?st1, ?_, ?_⟩
  rotate_left
  · conv => whnf
    repeat' (first | (refine .inl ⟨_, hAt, ?_⟩; conv => whnf) | (refine .inl (.inl ⟨_, hAt, ?_⟩); conv => whnf) | (refine .inr (.inl ⟨_, hl2, ?_⟩); conv => whnf) | (refine .inl (.inr (.inl ⟨_, hl2, ?_⟩)); conv => whnf) | (refine And.intro ?_ ?_ <;> conv => whnf) | exact rfl)
  conv => whnf
  exact hnx
theorem s_refWalkI (m : Me) (hf : Fits m) : Spec Tryz.prog 36 [vM m] (vItems (walkI m)) := by
  have hfl := hf.2
  have hg : m.2.1.length ≤ 1000000 := Nat.le_trans hf.2 (by decide)
  have hld := s_refLoad m 0 hg
  have hix := s_refIndex (loadI m 0)
  obtain ⟨R, hR⟩ : ∃ R, walkI m = R := ⟨_, rfl⟩
  unfold walkI at hR
  obtain ⟨p0, hp0⟩ : ∃ p0, idxI (loadI m 0) = p0 := ⟨_, rfl⟩
  rw [hp0] at hix hR
  rw [show walkI m = R from by unfold walkI; rw [hp0]; exact hR]
  obtain ⟨m1, w1, h1⟩ : ∃ m1 w1, (loadM m 0, loadI m 0) = (m1, w1) := ⟨_, _, rfl⟩
  obtain ⟨h2, h3⟩ := Prod.mk.inj h1
  rw [h2, h3] at hld
  rw [h3] at hix
  refine spec_introF true tab_ok 0 Tryz.func36 rfl (by kernel_rfl) rfl ?_
  conv => whnf
  first | refine .inr (.inl ⟨_, hld, ?_⟩) | refine .inl (.inr (.inl ⟨_, hld, ?_⟩))
  conv => whnf
  repeat (refine ⟨by first | omega | (simp only [Option.getD_none, Option.getD_some]; omega) | (simp; done) | (simp; omega), ?_⟩; conv => whnf)
  first | refine .inl ⟨_, hix, ?_⟩ | refine .inl (.inl ⟨_, hix, ?_⟩)
  conv => whnf
  repeat (refine ⟨by first | omega | (simp only [Option.getD_none, Option.getD_some]; omega) | (simp; done) | (simp; omega), ?_⟩; conv => whnf)
  refine ⟨[(4, 44, yInt, tI)], [1, 2, 3, 4, 7], [1, 44], ?_⟩
  apply Exists.intro
  conv => whnf
  refine loopK (fun y : Nat × Int × Li => y.1) (fun y => walkF m y.1 y.2.1 y.2.2 = R ∧ y.2.2.length + y.1 = m.2.1.length + 1 ∧ (∀ x : Int, x ∈ y.2.2 → 1 ≤ x ∧ x < (m.2.1.length : Int)) ∧ y.2.2.Nodup) (fun y => ⟨lay 54 0 [(1, pB 1), (2, .one (.emp tI)), (3, vB false), (4, .one (.row 44)), (7, vI y.2.1)], [(1, .cells yMem (cM m)), (44, .row yInt tI y.2.2)], []⟩) ?_ (m.2.1.length + 1, p0, []) rfl rfl ⟨hR, by simp, (fun x h => nomatch h), List.nodup_nil⟩
  intro ⟨f, p, out⟩ ih ⟨hr, hlen, hmem, hnd⟩ hih
  simp only at hr hlen hmem hnd hih
  have hl1 : out.length ≤ m.2.1.length := nodup_len _ out hnd fun x hx => by
    have := hmem x hx
    omega
  obtain ⟨f, rfl⟩ : ∃ f', f = f' + 1 := ⟨f - 1, by omega⟩
  unfold walkF at hr
  dsimp only
  conv => whnf
  refine dcase (fun hp => ?_) (fun hp => ?_)
  · replace hp : p ≠ 0 := hp
    rw [if_neg hp] at hr
    conv => whnf
    refine dcase (fun c1 => ?_) (fun c1 => ?_)
    · replace c1 : p < 0 := c1
      rw [if_pos (.inl c1)] at hr
      subst hr
      conv => whnf
      first | exact .inl rfl | exact .inr rfl
    replace c1 : ¬ p < 0 := c1
    conv => whnf
    refine dcase (fun c2 => ?_) (fun c2 => ?_)
    · replace c2 : (m.2.1.length : Int) ≤ p := c2
      rw [if_pos (.inr (.inl c2))] at hr
      subst hr
      conv => whnf
      first | exact .inl rfl | exact .inr rfl
    replace c2 : ¬ (m.2.1.length : Int) ≤ p := c2
    conv => whnf
    refine ⟨[], [1, 2, 3, 4, 7, 8], [1, 44], ?_⟩
    apply Exists.intro
    conv => whnf
    refine loopK (fun j : Nat => out.length - j) (fun j => j ≤ out.length ∧ ∀ i : Nat, i < j → out.getD i 0 ≠ p) (fun j => ⟨lay 54 0 [(1, pB 1), (2, .one (.emp tI)), (3, vB false), (4, .one (.row 44)), (7, vI p), (8, vI (j : Int))], [(1, .cells yMem (cM m)), (44, .row yInt tI out)], []⟩) ?_ 0 rfl rfl ⟨Nat.zero_le _, fun i hi => absurd hi (Nat.not_lt_zero _)⟩
    intro j ih2 ⟨hj, hjp⟩ hih2
    conv => whnf
    refine dcase (fun h3 => ?_) (fun h3 => ?_)
    · replace h3 : (j : Int) < out.length := h3
      conv => whnf
      refine ⟨⟨by omega, h3⟩, ?_⟩
      conv => whnf
      refine ⟨by omega, ?_⟩
      conv => whnf
      refine dcase (fun h4 => ?_) (fun h4 => ?_)
      · replace h4 : out.getD ((j : Int)).toNat 0 = p := h4
        rw [Int.toNat_natCast] at h4
        have c3 : p ∈ out := by
          have h5 : j < out.length := by omega
          rw [List.getD_eq_getElem?_getD, List.getElem?_eq_getElem h5] at h4
          rw [← show out[j] = p from h4]
          exact List.getElem_mem h5
        rw [if_pos (.inr (.inr c3))] at hr
        subst hr
        conv => whnf
        first | exact .inl rfl | exact .inr rfl
      · replace h4 : ¬ out.getD ((j : Int)).toNat 0 = p := h4
        rw [Int.toNat_natCast] at h4
        conv => whnf
        intro z hz
        replace hz : z = ((j + 1 : Nat) : Int) := by rw [IntWalk.wrap64_in _ (by omega)] at hz; omega
        subst hz
        conv => whnf
        exact hih2 (j + 1) ⟨by omega, fun i hi => by
          rcases Nat.lt_or_ge i j with h | h
          · exact hjp i h
          · have : i = j := by omega
            rw [this]; exact h4⟩ (by omega)
    · replace h3 : ¬ (j : Int) < out.length := h3
      have c3 : ¬ p ∈ out := fun hm => by
        obtain ⟨i, hi, he⟩ := List.getElem_of_mem hm
        refine hjp i (by omega) ?_
        rw [List.getD_eq_getElem?_getD, List.getElem?_eq_getElem hi, he]; rfl
      rw [if_neg (fun h => h.elim c1 fun h => h.elim c2 c3)] at hr
      have hAt := s_refAt p 0
      have hl2 := s_refLoad m (atI p 0) hg
      have hnd2 : (out ++ [p]).Nodup := List.nodup_append.2 ⟨hnd, by simp, fun a ha b hb e => c3 (by rw [← List.mem_singleton.1 hb, ← e]; exact ha)⟩
      have hmem2 : ∀ x : Int, x ∈ out ++ [p] → 1 ≤ x ∧ x < (m.2.1.length : Int) := fun x hx => by
        rcases List.mem_append.1 hx with h | h
        · exact hmem x h
        · rw [List.mem_singleton.1 h]; omega
      have hl3 : (out ++ [p]).length = out.length + 1 := by rw [List.length_append]; rfl
      have hnx := hih (f, loadI m (atI p 0), out ++ [p]) ⟨hr, by show (out ++ [p]).length + f = _; omega, hmem2, hnd2⟩ (Nat.lt_succ_self _)
      conv => whnf
      refine ⟨Nat.le_trans (Nat.succ_le_succ hl1) (le_most (by omega)), ?_⟩
      conv => whnf
      refine ⟨p_hazelref04_Walk_13, g_hazelref04_Walk_13, by kernel_rfl, ?st2, ?_, ?_⟩
      rotate_left
      · conv => whnf
        repeat' (first | (refine .inl ⟨_, hAt, ?_⟩; conv => whnf) | (refine .inl (.inl ⟨_, hAt, ?_⟩); conv => whnf) | (refine .inr (.inl ⟨_, hl2, ?_⟩); conv => whnf) | (refine .inl (.inr (.inl ⟨_, hl2, ?_⟩)); conv => whnf) | (refine And.intro ?_ ?_ <;> conv => whnf) | exact rfl)
      conv => whnf
      exact hnx
  · replace hp : ¬ p ≠ 0 := hp
    rw [if_pos (Classical.not_not.1 hp)] at hr
    subst hr
    conv => whnf
    first | exact .inl rfl | exact .inr rfl
end Go.Proofs.YtpobngddiifdpaaGreat.V

set_option linter.unusedSimpArgs false
set_option linter.unusedVariables false
namespace Go.Proofs.YtpobngddiifdpaaGreat.V
open Go Go.RowKit Go.Proofs.YtpobngddiifdpaaGreat.Hz
set_option maxRecDepth 100000

/-- The items from a node on, as the document goes. -/
def itemsD (m : Me) : Nat → Int → Li → Li → Option Li
  | 0, _, _, _ => none
  | f + 1, p, had, out =>
    if p = 0 then (if had = [] then none else some out)
    else if 1 ≤ p ∧ p < m.2.1.length ∧ p ∉ had then itemsD m f (idxI (nI m.1 (atI p 1))) (had ++ [p]) (if had = [] then out else out ++ [nI m.1 (atI p 3)])
    else none
theorem itemsD_is {m : Me} : ∀ {f : Nat} {p : Int} {had out : Li}, p ≠ 0 ∨ had = [] → itemsD m (f + 1) p had out = itemsF m f p had out
  | 0, p, had, out, h => by
    show (if p = 0 then (if had = [] then none else some out) else if 1 ≤ p ∧ p < m.2.1.length ∧ p ∉ had then none else none) = none
    by_cases c : p = 0
    · rw [if_pos c, if_pos (h.resolve_left (fun h => h c))]
    · rw [if_neg c]; split <;> rfl
  | f + 1, p, had, out, h => by
    unfold itemsD itemsF
    by_cases c : p = 0
    · rw [if_pos c, if_pos (h.resolve_left (fun h => h c)), if_neg (fun h => absurd h.1 (by omega))]
    rw [if_neg c]
    by_cases c2 : 1 ≤ p ∧ p < m.2.1.length ∧ p ∉ had
    · rw [if_pos c2, if_pos c2]
      by_cases c3 : idxI (nI m.1 (atI p 1)) = 0
      · rw [if_pos c3, c3]
        unfold itemsD
        rw [if_pos rfl, if_neg (by simp)]
      · rw [if_neg c3]
        exact itemsD_is (.inl c3)
    · rw [if_neg c2, if_neg c2]
theorem itemsI_D (m : Me) (q : Int) : itemsI m q = itemsD m (m.2.1.length + 2) (idxI (nI m.1 (32 + 2 * q))) [] [] := (itemsD_is (.inr rfl)).symm
theorem s_refItems (s : Sy) (q : Int) (h0 : 0 ≤ q) (h1 : q ≤ 7) (hg : 1 ≤ s.1.2.1.length) (hg2 : s.1.2.1.length ≤ 1000) (hw : s.1.1.length = 128 + 4 * (s.1.2.1.length - 1)) : Spec Tryz.prog 20 [vS s, vI q] (vItems (itemsI s.1 q)) := by
  have hSp := s_Spot8 q h0 h1
  have hin : (0 : Int) ≤ 32 + 2 * q ∧ 32 + 2 * q < (s.1.1.length : Int) := by omega
  have hix := s_refIndex (nI s.1.1 (32 + 2 * q))
  rw [itemsI_D]
  obtain ⟨p0, hp0⟩ : ∃ p0, idxI (nI s.1.1 (32 + 2 * q)) = p0 := ⟨_, rfl⟩
  rw [hp0] at hix ⊢
  have hp00 : 0 ≤ p0 := by rw [← hp0]; unfold idxI; omega
  obtain ⟨R, hR⟩ : ∃ R, itemsD s.1 (s.1.2.1.length + 2) p0 [] [] = R := ⟨_, rfl⟩
  rw [hR]
  refine spec_introF true tab_ok 0 Tryz.func20 rfl (by kernel_rfl) rfl ?_
  conv => whnf
  repeat (refine ⟨by first | omega | (simp only [Option.getD_none, Option.getD_some]; omega) | (simp; done) | (simp; omega), ?_⟩; conv => whnf)
  refine dcase (fun h => absurd (show q < 0 from h) (by omega)) (fun _ => ?_)
  conv => whnf
  repeat (refine ⟨by first | omega | (simp only [Option.getD_none, Option.getD_some]; omega) | (simp; done) | (simp; omega), ?_⟩; conv => whnf)
  refine dcase (fun h => absurd (show (7 : Int) < q from h) (by omega)) (fun _ => ?_)
  conv => whnf
  repeat (refine ⟨by first | omega | (simp only [Option.getD_none, Option.getD_some]; omega) | (simp; done) | (simp; omega), ?_⟩; conv => whnf)
  refine ⟨p_hazelref08_Items_4, g_hazelref08_Items_4, by kernel_rfl, ?st1, ?_, ?_⟩
  rotate_left
  · conv => whnf
    repeat' (first | (refine .inl ⟨_, hSp, ?_⟩; conv => whnf) | (refine .inl (.inl ⟨_, hSp, ?_⟩); conv => whnf) | (refine ⟨hin, ?_⟩; conv => whnf) | (refine .inl ⟨_, hix, ?_⟩; conv => whnf) | (refine .inl (.inl ⟨_, hix, ?_⟩); conv => whnf) | (refine And.intro ?_ ?_ <;> conv => whnf) | exact rfl)
  repeat (refine ⟨by first | omega | (simp only [Option.getD_none, Option.getD_some]; omega) | (simp; done) | (simp; omega), ?_⟩; conv => whnf)
  refine ⟨[(6, 48, yInt, tI), (8, 52, yInt, tI)], [2, 4, 5, 6, 7, 8], [2, 48, 52], ?_⟩
  apply Exists.intro
  conv => whnf
  refine loopK (fun y : Nat × Int × Li × Li => y.1) (fun y => itemsD s.1 y.1 y.2.1 y.2.2.1 y.2.2.2 = R ∧ y.2.2.1.length + y.1 = s.1.2.1.length + 2 ∧ (∀ x : Int, x ∈ y.2.2.1 → 1 ≤ x ∧ x < (s.1.2.1.length : Int)) ∧ y.2.2.1.Nodup ∧ y.2.2.2.length ≤ y.2.2.1.length ∧ 0 ≤ y.2.1) (fun y => ⟨lay 69 0 [(2, pB 2), (4, .one (.emp tI)), (5, vB false), (6, .one (.row 48)), (7, vI y.2.1), (8, .one (.row 52))], [(2, .cells ySys (cS s)), (48, .row yInt tI y.2.2.2), (52, .row yInt tI y.2.2.1)], []⟩) ?_ (s.1.2.1.length + 2, p0, [], []) rfl rfl ⟨hR, by simp, (fun x h => nomatch h), List.nodup_nil, Nat.le_refl _, hp00⟩
  intro ⟨f, p, had, out⟩ ih ⟨hr, hlen, hmem, hnd, hol, hp⟩ hih
  simp only at hr hlen hmem hnd hol hih hp
  have hl1 : had.length ≤ s.1.2.1.length := nodup_len _ had hnd fun x hx => by
    have := hmem x hx
    omega
  obtain ⟨f, rfl⟩ : ∃ f', f = f' + 1 := ⟨f - 1, by omega⟩
  unfold itemsD at hr
  have hIn := s_refIn had p (by omega)
  dsimp only
  conv => whnf
  refine dcase (fun c1 => ?_) (fun c1 => ?_)
  · replace c1 : 0 < p := c1
    rw [if_neg (show ¬ p = 0 by omega)] at hr
    conv => whnf
    refine dcase (fun c2 => ?_) (fun c2 => ?_)
    · replace c2 : p < (s.1.2.1.length : Int) := c2
      conv => whnf
      first | refine .inl ⟨_, hIn, ?_⟩ | refine .inl (.inl ⟨_, hIn, ?_⟩)
      conv => whnf
      repeat (refine ⟨by first | omega | (simp only [Option.getD_none, Option.getD_some]; omega) | (simp; done) | (simp; omega), ?_⟩; conv => whnf)
      by_cases c3 : p ∈ had
      · rw [memB_yes c3]
        rw [if_neg (fun h => absurd c3 h.2.2)] at hr
        subst hr
        conv => whnf
        first | exact .inl rfl | exact .inr rfl
      rw [memB_no c3]
      rw [if_pos ⟨by omega, c2, c3⟩] at hr
      have ha1 : atI p 1 = 128 + 4 * (p - 1) + 1 := atI_is (by omega) (by omega) (by decide) (by decide)
      have ha3 : atI p 3 = 128 + 4 * (p - 1) + 3 := atI_is (by omega) (by omega) (by decide) (by decide)
      have hi1 : (0 : Int) ≤ atI p 1 ∧ atI p 1 < (s.1.1.length : Int) := by rw [ha1]; omega
      have hi3 : (0 : Int) ≤ atI p 3 ∧ atI p 3 < (s.1.1.length : Int) := by rw [ha3]; omega
      have hA1 := s_refAt p 1
      have hA3 := s_refAt p 3
      have hx1 := s_refIndex (nI s.1.1 (atI p 1))
      obtain ⟨nxt, hnx⟩ : ∃ nxt, idxI (nI s.1.1 (atI p 1)) = nxt := ⟨_, rfl⟩
      have hnx0 : 0 ≤ nxt := by rw [← hnx]; unfold idxI; omega
      rw [hnx] at hx1 hr
      have hnd2 : (had ++ [p]).Nodup := List.nodup_append.2 ⟨hnd, by simp, fun a ha b hb e => c3 (by rw [← List.mem_singleton.1 hb, ← e]; exact ha)⟩
      have hmem2 : ∀ x : Int, x ∈ had ++ [p] → 1 ≤ x ∧ x < (s.1.2.1.length : Int) := fun x hx => by
        rcases List.mem_append.1 hx with h | h
        · exact hmem x h
        · rw [List.mem_singleton.1 h]; exact ⟨by omega, c2⟩
      have hl2 : (had ++ [p]).length = had.length + 1 := by rw [List.length_append]; rfl
      conv => whnf
      refine dcase (fun c4 => ?_) (fun c4 => ?_)
      · replace c4 : (0 : Int) < (had.length : Int) := c4
        rw [if_neg (show ¬ had = [] from fun e => by rw [e] at c4; exact absurd c4 (by decide))] at hr
        obtain ⟨v, hv⟩ : ∃ v, nI s.1.1 (atI p 3) = v := ⟨_, rfl⟩
        have hv2 : List.getD s.1.1 (atI p 3).toNat (dflt tI) = v := hv
        rw [hv] at hr
        have hol2 : (out ++ [v]).length = out.length + 1 := by rw [List.length_append]; rfl
        have hih2 := hih (f, nxt, had ++ [p], out ++ [v]) ⟨hr, by show (had ++ [p]).length + f = _; omega, hmem2, hnd2, by show (out ++ [v]).length ≤ (had ++ [p]).length; omega, hnx0⟩ (Nat.lt_succ_self _)
        have hobl : (out.length + [List.getD s.1.1 (atI p 3).toNat (dflt tI)].length).le mostElems := le_most (by show out.length + 1 ≤ _; omega)
        conv => whnf
        refine ⟨p_hazelref08_Items_10, g_hazelref08_Items_10, by kernel_rfl, ?st2, ?_, ?_⟩
        rotate_left
        · conv => whnf
          repeat' (first | (refine .inl ⟨_, hA3, ?_⟩; conv => whnf) | (refine .inl (.inl ⟨_, hA3, ?_⟩); conv => whnf) | (refine ⟨hi3, ?_⟩; conv => whnf) | (refine ⟨hobl, ?_⟩; conv => whnf) | (refine And.intro ?_ ?_ <;> conv => whnf) | exact rfl)
        rw [hv2]
        conv => whnf
        refine ⟨le_most (by show had.length + 1 ≤ _; omega), ?_⟩
        conv => whnf
        refine ⟨p_hazelref08_Items_12, g_hazelref08_Items_12, by kernel_rfl, ?st3, ?_, ?_⟩
        rotate_left
        · conv => whnf
          repeat' (first | (refine .inl ⟨_, hA1, ?_⟩; conv => whnf) | (refine .inl (.inl ⟨_, hA1, ?_⟩); conv => whnf) | (refine ⟨hi1, ?_⟩; conv => whnf) | (refine .inl ⟨_, hx1, ?_⟩; conv => whnf) | (refine .inl (.inl ⟨_, hx1, ?_⟩); conv => whnf) | (refine And.intro ?_ ?_ <;> conv => whnf) | exact rfl)
        conv => whnf
        exact hih2
      · have c4 : had = [] := by
          replace c4 : ¬ (0 : Int) < (had.length : Int) := c4
          exact List.length_eq_zero_iff.1 (by omega)
        rw [if_pos c4] at hr
        have hih2 := hih (f, nxt, had ++ [p], out) ⟨hr, by show (had ++ [p]).length + f = _; omega, hmem2, hnd2, by show out.length ≤ (had ++ [p]).length; omega, hnx0⟩ (Nat.lt_succ_self _)
        conv => whnf
        refine ⟨le_most (by show had.length + 1 ≤ _; omega), ?_⟩
        conv => whnf
        refine ⟨p_hazelref08_Items_12, g_hazelref08_Items_12, by kernel_rfl, ?st4, ?_, ?_⟩
        rotate_left
        · conv => whnf
          repeat' (first | (refine .inl ⟨_, hA1, ?_⟩; conv => whnf) | (refine .inl (.inl ⟨_, hA1, ?_⟩); conv => whnf) | (refine ⟨hi1, ?_⟩; conv => whnf) | (refine .inl ⟨_, hx1, ?_⟩; conv => whnf) | (refine .inl (.inl ⟨_, hx1, ?_⟩); conv => whnf) | (refine And.intro ?_ ?_ <;> conv => whnf) | exact rfl)
        conv => whnf
        exact hih2
    · replace c2 : ¬ p < (s.1.2.1.length : Int) := c2
      rw [if_neg (fun h => c2 h.2.1)] at hr
      subst hr
      conv => whnf
      refine dcase (fun _ => ?_) (fun h => absurd (show p ≠ 0 by omega) h)
      conv => whnf
      first | exact .inl rfl | exact .inr rfl
  · have c1 : p = 0 := by
      replace c1 : ¬ 0 < p := c1
      omega
    rw [if_pos c1] at hr
    conv => whnf
    refine dcase (fun h => absurd c1 h) (fun _ => ?_)
    conv => whnf
    refine dcase (fun c4 => ?_) (fun c4 => ?_)
    · replace c4 : ((had.length : Nat) : Int) = 0 := c4
      rw [if_pos (List.length_eq_zero_iff.1 (by omega))] at hr
      subst hr
      conv => whnf
      first | exact .inl rfl | exact .inr rfl
    · replace c4 : ¬ ((had.length : Nat) : Int) = 0 := c4
      rw [if_neg (fun e => c4 (by rw [e]; rfl))] at hr
      subst hr
      conv => whnf
      first | exact .inl rfl | exact .inr rfl
end Go.Proofs.YtpobngddiifdpaaGreat.V
