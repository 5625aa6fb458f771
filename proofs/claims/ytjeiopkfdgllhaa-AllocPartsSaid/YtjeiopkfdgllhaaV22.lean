/- AllocParts: the law. -/
import Derived.Test.YtjeiopkfdgllhaaV21
namespace Go.Proofs.Ytjeiopkfdgllhaa.V
open Go Go.RowKit Go.Proofs.Ytjeiopkfdgllhaa.Hz
set_option maxRecDepth 100000

theorem s_AllocParts (s : Sy) (id : Int) : Spec Try.prog 6 [vS s, vI id] (vB true) := by
  refine spec_introH true tab_ok 0 Try.func6 rfl (by kernel_rfl) rfl ?_
  conv => whnf
  first | refine .inl ⟨_, s_shown07, ?_⟩ | refine .inl (.inl ⟨_, s_shown07, ?_⟩)
  conv => whnf
  first | refine .inl ⟨_, s_refMay s 60 (by decide) (by decide), ?_⟩ | refine .inl (.inl ⟨_, s_refMay s 60 (by decide) (by decide), ?_⟩)
  conv => whnf
  refine ncaseb (fun h => ?_) (fun h => ?_)
  · conv => whnf
    first | exact .inl rfl | exact .inr rfl
  have hf := may_fin h
  obtain ⟨_, ⟨⟨m1, m2, m3, m4, m5⟩, _⟩⟩ := may_is h
  obtain ⟨G, hG⟩ : ∃ G : Li, G = s.1.2.1 := ⟨_, rfl⟩
  rw [← hG] at m1 m2 m4 m5
  have hone := placesN_zero m4 G.length (by omega)
  have hPa := s_Parts s (by rw [← hG]; omega) (by rw [← hG, hone]; exact Nat.succ_le_succ (Nat.zero_le _))
  rw [← hG] at hPa
  have hsum := places_sum G G.length m5
  have hmemA := places1_mem m4 G.length (by omega)
  have hmemB := placesN_mem G 1 G.length
  have hmemC := placesN_mem G 2 G.length
  have hla : ((placesN G 0 G.length).drop 1).length + 1 = (placesN G 0 G.length).length := by rw [hone]; rfl
  have lA := placesN_len G 0 G.length
  have lB := placesN_len G 1 G.length
  have lC := placesN_len G 2 G.length
  generalize placesN G 1 G.length = b at hPa hsum hmemB lB
  generalize placesN G 2 G.length = c at hPa hsum hmemC lC
  generalize (placesN G 0 G.length).drop 1 = a at hPa hmemA hla
  conv => whnf
  first | refine .inr (.inl ⟨_, hPa, ?_⟩) | refine .inl (.inr (.inl ⟨_, hPa, ?_⟩))
  conv => whnf
  intro n hn
  have hn : n = (G.length : Int) - 1 := by
    rw [IntWalk.wrap64_in _ (by rw [← hG]; omega), ← hG] at hn
    exact hn
  conv => whnf
  refine ⟨[], [1, 2, 5, 6, 7, 8, 9, 10], [2], ?_⟩
  apply Exists.intro
  conv => whnf
  refine loopK (fun p : Int => (n + 1 - p).toNat) (fun p => 1 ≤ p ∧ p ≤ n + 1) (fun p => ⟨lay 102 0 [(1, vI id), (2, pB 2), (5, vB true), (6, vL a), (7, vL b), (8, vL c), (9, vI n), (10, vI p)], [(2, .cells ySys (cS s))], []⟩) ?_ 1 rfl rfl (by omega)
  intro p ih ⟨hp1, hp2⟩ hih
  conv => whnf
  refine dcase (fun h9 => ?_) (fun h9 => ?_)
  · have hv := m5 p.toNat (by omega)
    have ep : ((p.toNat : Nat) : Int) = p := by omega
    rw [ep] at hv
    have hv3 : nI G p = 0 ∨ nI G p = 1 ∨ nI G p = 2 := by omega
    have hA : ∀ v, (nI G p = 0 ↔ v = true) → Spec Try.prog 13 [vL a, vI p] (vB v) := fun v hv => by
      have e : memB a p = v := by
        cases v with
        | true => exact memB_yes ((hmemA p hp1).2 ⟨by omega, hv.2 rfl⟩)
        | false => exact memB_no fun hm => by have := hv.1 ((hmemA p hp1).1 hm).2; cases this
      rw [← e]
      exact s_refIn a p (by omega)
    have hB : ∀ v, (nI G p = 1 ↔ v = true) → Spec Try.prog 13 [vL b, vI p] (vB v) := fun v hv => by
      have e : memB b p = v := by
        cases v with
        | true => exact memB_yes ((hmemB p).2 ⟨by omega, by omega, hv.2 rfl⟩)
        | false => exact memB_no fun hm => by have := hv.1 ((hmemB p).1 hm).2.2; cases this
      rw [← e]
      exact s_refIn b p (by omega)
    have hC : ∀ v, (nI G p = 2 ↔ v = true) → Spec Try.prog 13 [vL c, vI p] (vB v) := fun v hv => by
      have e : memB c p = v := by
        cases v with
        | true => exact memB_yes ((hmemC p).2 ⟨by omega, by omega, hv.2 rfl⟩)
        | false => exact memB_no fun hm => by have := hv.1 ((hmemC p).1 hm).2.2; cases this
      rw [← e]
      exact s_refIn c p (by omega)
    rcases hv3 with e | e | e
    · conv => whnf
      first | refine .inl ⟨_, hA true (by rw [e]; decide), ?_⟩ | refine .inl (.inl ⟨_, hA true (by rw [e]; decide), ?_⟩)
      conv => whnf
      intro z hz
      rw [IntWalk.wrap64_in _ (by decide)] at hz
      conv => whnf
      first | refine .inl ⟨_, hB false (by rw [e]; decide), ?_⟩ | refine .inl (.inl ⟨_, hB false (by rw [e]; decide), ?_⟩)
      conv => whnf
      first | refine .inl ⟨_, hC false (by rw [e]; decide), ?_⟩ | refine .inl (.inl ⟨_, hC false (by rw [e]; decide), ?_⟩)
      conv => whnf
      refine dcase (fun hc => absurd hz hc) (fun _ => ?_)
      conv => whnf
      intro p' hp'
      rw [IntWalk.wrap64_in _ (by omega)] at hp'
      conv => whnf
      exact hih p' (by omega) (by omega)
    · conv => whnf
      first | refine .inl ⟨_, hA false (by rw [e]; decide), ?_⟩ | refine .inl (.inl ⟨_, hA false (by rw [e]; decide), ?_⟩)
      conv => whnf
      first | refine .inl ⟨_, hB true (by rw [e]; decide), ?_⟩ | refine .inl (.inl ⟨_, hB true (by rw [e]; decide), ?_⟩)
      conv => whnf
      intro z hz
      rw [IntWalk.wrap64_in _ (by decide)] at hz
      conv => whnf
      first | refine .inl ⟨_, hC false (by rw [e]; decide), ?_⟩ | refine .inl (.inl ⟨_, hC false (by rw [e]; decide), ?_⟩)
      conv => whnf
      refine dcase (fun hc => absurd hz hc) (fun _ => ?_)
      conv => whnf
      intro p' hp'
      rw [IntWalk.wrap64_in _ (by omega)] at hp'
      conv => whnf
      exact hih p' (by omega) (by omega)
    · conv => whnf
      first | refine .inl ⟨_, hA false (by rw [e]; decide), ?_⟩ | refine .inl (.inl ⟨_, hA false (by rw [e]; decide), ?_⟩)
      conv => whnf
      first | refine .inl ⟨_, hB false (by rw [e]; decide), ?_⟩ | refine .inl (.inl ⟨_, hB false (by rw [e]; decide), ?_⟩)
      conv => whnf
      first | refine .inl ⟨_, hC true (by rw [e]; decide), ?_⟩ | refine .inl (.inl ⟨_, hC true (by rw [e]; decide), ?_⟩)
      conv => whnf
      intro z hz
      rw [IntWalk.wrap64_in _ (by decide)] at hz
      conv => whnf
      refine dcase (fun hc => absurd hz hc) (fun _ => ?_)
      conv => whnf
      intro p' hp'
      rw [IntWalk.wrap64_in _ (by omega)] at hp'
      conv => whnf
      exact hih p' (by omega) (by omega)
  · have hst := s_alStep s id hf (by decide)
    have ho := alS_one s id
    generalize alS s id = t at hst ho
    have htl := oneSet_len ho
    have hdf := diffN_le ho
    rw [← hG] at hdf htl
    conv => whnf
    first | refine .inr (.inl ⟨_, hst, ?_⟩) | refine .inl (.inr (.inl ⟨_, hst, ?_⟩))
    conv => whnf
    refine dcase (fun hc => absurd (by rw [htl, hG]) hc) (fun _ => ?_)
    conv => whnf
    refine ⟨[], [2, 5, 6, 7, 8, 9, 12, 13, 14], [2, 12], ?_⟩
    apply Exists.intro
    conv => whnf
    refine loopK (fun x : Int × Int => (n + 1 - x.1).toNat) (fun x => 0 ≤ x.1 ∧ x.1 ≤ n + 1 ∧ x.2 = diffN G t.1.2.1 x.1.toNat) (fun x => ⟨lay 102 0 [(2, pB 2), (5, vB true), (6, vL a), (7, vL b), (8, vL c), (9, vI n), (12, pB 12), (13, vI x.2), (14, vI x.1)], [(2, .cells ySys (cS s)), (12, .cells ySys (cS t))], []⟩) ?_ (0, 0) rfl rfl ⟨by decide, by show (0 : Int) ≤ n + 1; omega, rfl⟩
    intro ⟨q, z⟩ ih2 ⟨hq1, hq2, hz⟩ hih2
    simp only at hq1 hq2 hz hih2
    conv => whnf
    refine dcase (fun h9 => ?_) (fun h9 => ?_)
    · have h9 : q ≤ n := h9
      have eq : ((q.toNat : Nat) : Int) = q := by omega
      have e1 : (q + 1).toNat = q.toNat + 1 := by omega
      have hsl : (s.1.2.1.length : Int) = G.length := by rw [hG]
      conv => whnf
      refine ⟨p_hazellaw07_AllocParts_25, g_hazellaw07_AllocParts_25, by kernel_rfl, ?st1, ?_, ?_⟩
      rotate_left
      · conv => whnf
        repeat' (first | (refine ⟨by first | omega | (simp only [Option.getD_none, Option.getD_some]; omega) | (simp; done) | (simp; omega), ?_⟩; conv => whnf) | (refine ⟨(by show 0 ≤ q ∧ q < (t.1.2.1.length : Int); omega), ?_⟩; conv => whnf) | (refine ⟨(by show 0 ≤ q ∧ q < (s.1.2.1.length : Int); omega), ?_⟩; conv => whnf) | (refine And.intro ?_ ?_ <;> conv => whnf) | exact rfl)
      conv => whnf
      refine dcase (fun hc => ?_) (fun hc => ?_)
      · have hd : diffN G t.1.2.1 (q.toNat + 1) = diffN G t.1.2.1 q.toNat + 1 := if_pos (by rw [eq, hG]; exact hc)
        have hle := hdf (q.toNat + 1)
        conv => whnf
        intro z' hz'
        rw [IntWalk.wrap64_in _ (by show _ ≤ z + 1 ∧ z + 1 ≤ _; omega)] at hz'
        conv => whnf
        intro q' hq'
        rw [IntWalk.wrap64_in _ (by show _ ≤ q + 1 ∧ q + 1 ≤ _; omega)] at hq'
        conv => whnf
        have hq' : q' = q + 1 := hq'
        have hz' : z' = z + 1 := hz'
        exact hih2 (q', z') ⟨by show 0 ≤ q'; omega, by show q' ≤ _; omega, by show z' = _; rw [hq', e1, hd, hz', hz]; omega⟩ (by show (_ - q').toNat < _; omega)
      · have hd : diffN G t.1.2.1 (q.toNat + 1) = diffN G t.1.2.1 q.toNat := if_neg (by rw [eq, hG]; exact hc)
        conv => whnf
        intro q' hq'
        rw [IntWalk.wrap64_in _ (by show _ ≤ q + 1 ∧ q + 1 ≤ _; omega)] at hq'
        conv => whnf
        have hq' : q' = q + 1 := hq'
        exact hih2 (q', z) ⟨by show 0 ≤ q'; omega, by show q' ≤ _; omega, by show z = _; rw [hq', e1, hd]; exact hz⟩ (by show (_ - q').toNat < _; omega)
    · have hle := hdf q.toNat
      conv => whnf
      intro z1 h1
      rw [IntWalk.wrap64_in _ (by omega)] at h1
      conv => whnf
      intro z2 h2
      rw [IntWalk.wrap64_in _ (by omega)] at h2
      conv => whnf
      refine dcase (fun _ => ?_) (fun hc => absurd (show z2 = n by omega) hc)
      conv => whnf
      refine .inl (congrArg vB (decide_eq_true ?_))
      show z ≤ 1
      omega
end Go.Proofs.Ytjeiopkfdgllhaa.V
