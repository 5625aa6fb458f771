/- ScanTells: the law. -/
import Derived.Test.YtjeiopkfdgllhaaGreatR6
import Derived.Test.YtjeiopkfdgllhaaGreatV17
namespace Go.Proofs.YtjeiopkfdgllhaaGreat.V
open Go Go.RowKit Go.Proofs.YtjeiopkfdgllhaaGreat.Hz
set_option maxRecDepth 100000

theorem s_LimitW (n : Int) : Spec Tryz.prog 10 [vI n] (vI (wrap64 (wrap64 (3 * n) + 1))) := by
  refine spec_introF false tab_ok 0 Tryz.func10 rfl (by kernel_rfl) rfl ?_
  conv => whnf
  first | exact .inl rfl | exact .inr rfl
theorem s_refLimitW (n : Int) : Spec Tryz.prog 11 [vI n] (vI (wrap64 (wrap64 (3 * n) + 1))) := by
  refine spec_introF false tab_ok 0 Tryz.func11 rfl (by kernel_rfl) rfl ?_
  conv => whnf
  first | exact .inl rfl | exact .inr rfl
theorem retI_len : ∀ l : List Cor, (∀ c ∈ l, FinC c) → (retI l).length ≤ 1000 * l.length
  | [], _ => Nat.le_refl _
  | c :: r, h => by
    have h1 := (h c (List.mem_cons_self ..)).ret
    have h2 := retI_len r fun c hc => h c (List.mem_cons_of_mem _ hc)
    show List.length (c.2.2.2.2.1 ++ retI r) ≤ _
    rw [List.length_append, List.length_cons]
    omega
theorem ret_fin {N : Nat} {s : Sy} (hf : Fin N s) : ∀ i : Nat, i ≤ s.2.1.length → (retI (s.2.1.take i)).length ≤ 1000000 := fun i hi => by
  have h := retI_len (s.2.1.take i) fun c hc => hf.core c (List.mem_of_mem_take hc)
  rw [List.length_take] at h
  have := hf.cores
  omega
abbrev vST (s : Sy) (id op c : Int) : SV := .agg [.sl tI s.1.1 false, .sl tI s.1.2.1 false, .bool s.1.2.2.1, .sl tCore s.2.1 false, .sl tEv s.2.2.1 false, .int .i64 id, .int .i64 op, .int .u8 c]
theorem s_ScanTells (s : Sy) (id op c : Int) : Spec Tryz.prog 3 [vST s id op c] (vB true) := by
  obtain ⟨b, hb1, hb2⟩ : ∃ b, Spec Tryz.prog 12 [vI op] (vB b) ∧ Spec Tryz.prog 13 [vI op] (vB b) := ⟨_, s_scanOwn op, s_refOwn6 op⟩
  obtain ⟨n, hn1, hn2⟩ : ∃ n, Spec Tryz.prog 10 [vI (wrap64 c)] (vI n) ∧ Spec Tryz.prog 11 [vI (wrap64 c)] (vI n) := ⟨_, s_LimitW (wrap64 c), s_refLimitW (wrap64 c)⟩
  refine spec_introF false tab_ok 0 Tryz.func3 rfl (by kernel_rfl) rfl ?_
  conv => whnf
  repeat (refine ⟨by first | omega | (simp only [Option.getD_none, Option.getD_some]; omega) | (simp; done) | (simp; omega), ?_⟩; conv => whnf)
  first | refine .inl ⟨_, s_shown06, ?_⟩ | refine .inl (.inl ⟨_, s_shown06, ?_⟩)
  conv => whnf
  repeat (refine ⟨by first | omega | (simp only [Option.getD_none, Option.getD_some]; omega) | (simp; done) | (simp; omega), ?_⟩; conv => whnf)
  first | refine .inl ⟨_, s_refMay s 60 (by decide) (by decide), ?_⟩ | refine .inl (.inl ⟨_, s_refMay s 60 (by decide) (by decide), ?_⟩)
  conv => whnf
  repeat (refine ⟨by first | omega | (simp only [Option.getD_none, Option.getD_some]; omega) | (simp; done) | (simp; omega), ?_⟩; conv => whnf)
  refine ncaseb (fun h => ?_) (fun h => ?_)
  · skip
    conv => whnf
    repeat (refine ⟨by first | omega | (simp only [Option.getD_none, Option.getD_some]; omega) | (simp; done) | (simp; omega), ?_⟩; conv => whnf)
    first | exact .inl rfl | exact .inr rfl
  have hf := may_fin h
  obtain ⟨t, hst, hst6, hsame⟩ : ∃ t, Spec Tryz.prog 18 [vS s, vI id] (vS t) ∧ Spec Tryz.prog 19 [vS s, vI id] (vS t) ∧ Spec Tryz.prog 17 [vS t, vS t] (vB true) := ⟨scanS s id, s_scanStep s id hf (by decide), s_refStep6 s id hf (by decide), s_refSame (scanS s id) (scanS_fin hf) (by decide)⟩
  obtain ⟨l, hl1, hl2, hl3⟩ : ∃ l, Spec Tryz.prog 15 [vS s] (vL l) ∧ Spec Tryz.prog 16 [vS s] (vL l) ∧ Spec Tryz.prog 14 [vL l, vL l] (vB true) := ⟨retI s.2.1, s_Retired s hf.cores (ret_fin hf), s_refRetired s hf.cores (ret_fin hf), s_refIntsSame _ (by have := ret_fin hf s.2.1.length (Nat.le_refl _); rw [List.take_length] at this; exact this)⟩
  conv => whnf
  repeat (refine ⟨by first | omega | (simp only [Option.getD_none, Option.getD_some]; omega) | (simp; done) | (simp; omega), ?_⟩; conv => whnf)
  first | refine .inl ⟨_, hn1, ?_⟩ | refine .inl (.inl ⟨_, hn1, ?_⟩)
  conv => whnf
  repeat (refine ⟨by first | omega | (simp only [Option.getD_none, Option.getD_some]; omega) | (simp; done) | (simp; omega), ?_⟩; conv => whnf)
  first | refine .inl ⟨_, hn2, ?_⟩ | refine .inl (.inl ⟨_, hn2, ?_⟩)
  conv => whnf
  repeat (refine ⟨by first | omega | (simp only [Option.getD_none, Option.getD_some]; omega) | (simp; done) | (simp; omega), ?_⟩; conv => whnf)
  refine dcase (fun h => absurd rfl h) (fun _ => ?_)
  conv => whnf
  repeat (refine ⟨by first | omega | (simp only [Option.getD_none, Option.getD_some]; omega) | (simp; done) | (simp; omega), ?_⟩; conv => whnf)
  first | refine .inl ⟨_, hb1, ?_⟩ | refine .inl (.inl ⟨_, hb1, ?_⟩)
  conv => whnf
  repeat (refine ⟨by first | omega | (simp only [Option.getD_none, Option.getD_some]; omega) | (simp; done) | (simp; omega), ?_⟩; conv => whnf)
  first | refine .inl ⟨_, hb2, ?_⟩ | refine .inl (.inl ⟨_, hb2, ?_⟩)
  conv => whnf
  repeat (refine ⟨by first | omega | (simp only [Option.getD_none, Option.getD_some]; omega) | (simp; done) | (simp; omega), ?_⟩; conv => whnf)
  refine ncaseb (fun h => absurd h (by simp)) (fun _ => ?_)
  conv => whnf
  repeat (refine ⟨by first | omega | (simp only [Option.getD_none, Option.getD_some]; omega) | (simp; done) | (simp; omega), ?_⟩; conv => whnf)
  refine ⟨p_hazellaw06_ScanTells_10, g_hazellaw06_ScanTells_10, by kernel_rfl, ?st1, ?_, ?_⟩
  rotate_left
  · conv => whnf
    repeat' (first | (refine ⟨by first | omega | (simp only [Option.getD_none, Option.getD_some]; omega) | (simp; done) | (simp; omega), ?_⟩; conv => whnf) | (refine .inr (.inl ⟨_, hl1, ?_⟩); conv => whnf) | (refine .inl (.inr (.inl ⟨_, hl1, ?_⟩)); conv => whnf) | (refine .inr (.inl ⟨_, hl2, ?_⟩); conv => whnf) | (refine .inl (.inr (.inl ⟨_, hl2, ?_⟩)); conv => whnf) | (refine .inl ⟨_, hl3, ?_⟩; conv => whnf) | (refine .inl (.inl ⟨_, hl3, ?_⟩); conv => whnf) | (refine .inr (.inl ⟨_, hst, ?_⟩); conv => whnf) | (refine .inl (.inr (.inl ⟨_, hst, ?_⟩)); conv => whnf) | (refine .inr (.inl ⟨_, hst6, ?_⟩); conv => whnf) | (refine .inl (.inr (.inl ⟨_, hst6, ?_⟩)); conv => whnf) | (refine .inl ⟨_, hsame, ?_⟩; conv => whnf) | (refine .inl (.inl ⟨_, hsame, ?_⟩); conv => whnf) | (refine And.intro ?_ ?_ <;> conv => whnf) | exact rfl)
  conv => whnf
  repeat (refine ⟨by first | omega | (simp only [Option.getD_none, Option.getD_some]; omega) | (simp; done) | (simp; omega), ?_⟩; conv => whnf)
  first | exact .inl rfl | exact .inr rfl
theorem s_ScanTellsA (y : Den (.cons tSys (.cons tI (.cons tI (.cons (.int .u8) .nil))))) : Spec Tryz.prog 3 [.agg (flat (.cons tSys (.cons tI (.cons tI (.cons (.int .u8) .nil)))) y)] (vB true) := s_ScanTells y.1 y.2.1 y.2.2.1 y.2.2.2.1
end Go.Proofs.YtjeiopkfdgllhaaGreat.V
