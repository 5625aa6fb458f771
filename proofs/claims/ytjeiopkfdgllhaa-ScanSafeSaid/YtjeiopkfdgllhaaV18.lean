/- Layer 7 of the program: the parts. -/
import Derived.Test.YtjeiopkfdgllhaaV16
set_option linter.unusedSimpArgs false
set_option linter.unusedVariables false
namespace Go.Proofs.Ytjeiopkfdgllhaa.V
open Go Go.RowKit Go.Proofs.Ytjeiopkfdgllhaa.Hz
set_option maxRecDepth 100000

theorem loopKs {α : Type} {BODY : (St → Prop) → St → Prop} {sk : List (List SV)} (μ : α → Nat) (Inv : α → Prop) (σ : List (List SV) → α → St) (hs : ∀ a ih, Inv a → (∀ b, Inv b → μ b < μ a → ih (σ sk b)) → BODY ih (σ sk a)) (a : α) {n : Nat} {st : St} (hn : n = μ a + 1) (e : st = σ sk a) (h0 : Inv a) :
    VHold (vLoop BODY n st) := loopK μ Inv (σ sk) hs a hn e h0
/-- The places among the first i that hold x. -/
def placesN (g : Li) (x : Int) : Nat → Li
  | 0 => []
  | i + 1 => if nI g i = x then placesN g x i ++ [(i : Int)] else placesN g x i
theorem placesN_len (g : Li) (x : Int) : ∀ i, (placesN g x i).length ≤ i
  | 0 => Nat.le_refl _
  | i + 1 => by
    have h := placesN_len g x i
    unfold placesN
    split
    · rw [List.length_append]
      have : List.length [(i : Int)] = 1 := rfl
      omega
    · omega
abbrev vLLL (a b c : Li) : SV := .tup [(false, [.sl tI a false]), (false, [.sl tI b false]), (false, [.sl tI c false])]
theorem s_Parts (s : Sy) (hg : s.1.2.1.length ≤ 1000000) (h1 : 1 ≤ (placesN s.1.2.1 0 s.1.2.1.length).length) : Spec Try.prog 25 [vS s] (vLLL ((placesN s.1.2.1 0 s.1.2.1.length).drop 1) (placesN s.1.2.1 1 s.1.2.1.length) (placesN s.1.2.1 2 s.1.2.1.length)) := by
  refine spec_introF false tab_ok 4 Try.func25 rfl (by kernel_rfl) rfl ?_
  conv => whnf
  refine ⟨p_alloc_Parts_2, [1], by kernel_rfl, ?st1, ?_, ?_⟩
  rotate_left
  · conv => whnf
    refine .inr ⟨_, _, 100, Try.func44, ⟨by kernel_rfl, rfl⟩, ?_⟩
    conv => whnf
    refine .inr ⟨_, _, 200, Try.func45, ⟨by kernel_rfl, rfl⟩, ?_⟩
    conv => whnf
    refine ⟨[(5, 221, yInt, tI)], [1, 5, 8, 9, 10], [1, 102, 221], ?_⟩
    apply Exists.intro
    conv => whnf
    refine loopKs (fun i : Int => ((s.1.2.1.length : Int) - i).toNat) (fun i => 0 ≤ i ∧ i ≤ s.1.2.1.length) (fun stk i => ⟨lay 24 0 [(1, .one (.fn 46 [(102, 0)])), (5, .one (.row 221)), (8, vL s.1.2.1), (9, vI s.1.2.1.length), (10, vI i)], [(1, .cells ySys (cS s)), (102, .cells yInt [.int .i64 0]), (221, .row yInt tI (placesN s.1.2.1 0 i.toNat))], stk⟩) ?_ 0 rfl rfl ⟨by omega, by omega⟩
    intro i ih ⟨hi1, hi2⟩ hih
    conv => whnf
    refine dcase (fun h => ?_) (fun h => ?_)
    · have h3 : i < s.1.2.1.length := h
      have e2 : wrap64 (i + 1) = i + 1 := IntWalk.wrap64_in _ (by omega)
      have e3 : (i + 1).toNat = i.toNat + 1 := by omega
      have ei : ((i.toNat : Nat) : Int) = i := by omega
      have hl := placesN_len s.1.2.1 0 i.toNat
      conv => whnf
      repeat (refine ⟨by first | omega | (simp only [Option.getD_none, Option.getD_some]; omega) | (simp; done) | (simp; omega), ?_⟩; conv => whnf)
      refine .inr ⟨_, _, 300, Try.func46, ⟨by kernel_rfl, rfl⟩, ?_⟩
      conv => whnf
      refine dcase (fun h4 => ?_) (fun h4 => ?_)
      · have h5 : nI s.1.2.1 i.toNat = 0 := by rw [ei]; exact h4
        have h6 := hih (i + 1) ⟨by omega, by omega⟩ (by omega)
        rw [e3, show placesN s.1.2.1 0 (i.toNat + 1) = placesN s.1.2.1 0 i.toNat ++ [((i.toNat : Nat) : Int)] from if_pos h5, ei] at h6
        conv => whnf
        refine ⟨le_most (by show _ + 1 ≤ _; omega), ?_⟩
        conv => whnf
        erw [e2]
        exact h6
      · have h5 : ¬ nI s.1.2.1 i.toNat = 0 := by rw [ei]; exact h4
        have h6 := hih (i + 1) ⟨by omega, by omega⟩ (by omega)
        rw [e3, show placesN s.1.2.1 0 (i.toNat + 1) = placesN s.1.2.1 0 i.toNat from if_neg h5] at h6
        conv => whnf
        erw [e2]
        exact h6
    have h3 : ¬ i < s.1.2.1.length := h
    rw [show i.toNat = s.1.2.1.length by omega]
    conv => whnf
    refine ⟨⟨by decide, by simp only [Option.getD_some]; omega⟩, ?_⟩
    conv => whnf
    refine .inr ⟨_, _, 400, Try.func44, ⟨by kernel_rfl, rfl⟩, ?_⟩
    conv => whnf
    refine .inr ⟨_, _, 500, Try.func45, ⟨by kernel_rfl, rfl⟩, ?_⟩
    conv => whnf
    refine ⟨[(5, 521, yInt, tI)], [1, 5, 8, 9, 10], [1, 402, 521], ?_⟩
    apply Exists.intro
    conv => whnf
    refine loopKs (fun i : Int => ((s.1.2.1.length : Int) - i).toNat) (fun i => 0 ≤ i ∧ i ≤ s.1.2.1.length) (fun stk i => ⟨lay 24 0 [(1, .one (.fn 46 [(402, 0)])), (5, .one (.row 521)), (8, vL s.1.2.1), (9, vI s.1.2.1.length), (10, vI i)], [(1, .cells ySys (cS s)), (402, .cells yInt [.int .i64 1]), (521, .row yInt tI (placesN s.1.2.1 1 i.toNat))], stk⟩) ?_ 0 rfl rfl ⟨by omega, by omega⟩
    intro i ih ⟨hi1, hi2⟩ hih
    conv => whnf
    refine dcase (fun h => ?_) (fun h => ?_)
    · have h3 : i < s.1.2.1.length := h
      have e2 : wrap64 (i + 1) = i + 1 := IntWalk.wrap64_in _ (by omega)
      have e3 : (i + 1).toNat = i.toNat + 1 := by omega
      have ei : ((i.toNat : Nat) : Int) = i := by omega
      have hl := placesN_len s.1.2.1 1 i.toNat
      conv => whnf
      repeat (refine ⟨by first | omega | (simp only [Option.getD_none, Option.getD_some]; omega) | (simp; done) | (simp; omega), ?_⟩; conv => whnf)
      refine .inr ⟨_, _, 600, Try.func46, ⟨by kernel_rfl, rfl⟩, ?_⟩
      conv => whnf
      refine dcase (fun h4 => ?_) (fun h4 => ?_)
      · have h5 : nI s.1.2.1 i.toNat = 1 := by rw [ei]; exact h4
        have h6 := hih (i + 1) ⟨by omega, by omega⟩ (by omega)
        rw [e3, show placesN s.1.2.1 1 (i.toNat + 1) = placesN s.1.2.1 1 i.toNat ++ [((i.toNat : Nat) : Int)] from if_pos h5, ei] at h6
        conv => whnf
        refine ⟨le_most (by show _ + 1 ≤ _; omega), ?_⟩
        conv => whnf
        erw [e2]
        exact h6
      · have h5 : ¬ nI s.1.2.1 i.toNat = 1 := by rw [ei]; exact h4
        have h6 := hih (i + 1) ⟨by omega, by omega⟩ (by omega)
        rw [e3, show placesN s.1.2.1 1 (i.toNat + 1) = placesN s.1.2.1 1 i.toNat from if_neg h5] at h6
        conv => whnf
        erw [e2]
        exact h6
    have h3 : ¬ i < s.1.2.1.length := h
    rw [show i.toNat = s.1.2.1.length by omega]
    conv => whnf
    refine .inr ⟨_, _, 700, Try.func44, ⟨by kernel_rfl, rfl⟩, ?_⟩
    conv => whnf
    refine .inr ⟨_, _, 800, Try.func45, ⟨by kernel_rfl, rfl⟩, ?_⟩
    conv => whnf
    refine ⟨[(5, 821, yInt, tI)], [1, 5, 8, 9, 10], [1, 521, 702, 821], ?_⟩
    apply Exists.intro
    conv => whnf
    refine loopKs (fun i : Int => ((s.1.2.1.length : Int) - i).toNat) (fun i => 0 ≤ i ∧ i ≤ s.1.2.1.length) (fun stk i => ⟨lay 24 0 [(1, .one (.fn 46 [(702, 0)])), (5, .one (.row 821)), (8, vL s.1.2.1), (9, vI s.1.2.1.length), (10, vI i)], [(1, .cells ySys (cS s)), (521, .row yInt tI (placesN s.1.2.1 1 s.1.2.1.length)), (702, .cells yInt [.int .i64 2]), (821, .row yInt tI (placesN s.1.2.1 2 i.toNat))], stk⟩) ?_ 0 rfl rfl ⟨by omega, by omega⟩
    intro i ih ⟨hi1, hi2⟩ hih
    conv => whnf
    refine dcase (fun h => ?_) (fun h => ?_)
    · have h3 : i < s.1.2.1.length := h
      have e2 : wrap64 (i + 1) = i + 1 := IntWalk.wrap64_in _ (by omega)
      have e3 : (i + 1).toNat = i.toNat + 1 := by omega
      have ei : ((i.toNat : Nat) : Int) = i := by omega
      have hl := placesN_len s.1.2.1 2 i.toNat
      conv => whnf
      repeat (refine ⟨by first | omega | (simp only [Option.getD_none, Option.getD_some]; omega) | (simp; done) | (simp; omega), ?_⟩; conv => whnf)
      refine .inr ⟨_, _, 900, Try.func46, ⟨by kernel_rfl, rfl⟩, ?_⟩
      conv => whnf
      refine dcase (fun h4 => ?_) (fun h4 => ?_)
      · have h5 : nI s.1.2.1 i.toNat = 2 := by rw [ei]; exact h4
        have h6 := hih (i + 1) ⟨by omega, by omega⟩ (by omega)
        rw [e3, show placesN s.1.2.1 2 (i.toNat + 1) = placesN s.1.2.1 2 i.toNat ++ [((i.toNat : Nat) : Int)] from if_pos h5, ei] at h6
        conv => whnf
        refine ⟨le_most (by show _ + 1 ≤ _; omega), ?_⟩
        conv => whnf
        erw [e2]
        exact h6
      · have h5 : ¬ nI s.1.2.1 i.toNat = 2 := by rw [ei]; exact h4
        have h6 := hih (i + 1) ⟨by omega, by omega⟩ (by omega)
        rw [e3, show placesN s.1.2.1 2 (i.toNat + 1) = placesN s.1.2.1 2 i.toNat from if_neg h5] at h6
        conv => whnf
        erw [e2]
        exact h6
    have h3 : ¬ i < s.1.2.1.length := h
    rw [show i.toNat = s.1.2.1.length by omega]
    conv => whnf
  conv => whnf
  first | exact .inl rfl | exact .inr rfl
end Go.Proofs.Ytjeiopkfdgllhaa.V
