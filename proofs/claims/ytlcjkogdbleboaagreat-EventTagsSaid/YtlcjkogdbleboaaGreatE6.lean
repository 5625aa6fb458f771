/- EventTags: the law. -/
import Derived.Test.YtlcjkogdbleboaaGreatE5
set_option linter.unusedSimpArgs false
set_option linter.unusedVariables false
namespace Go.Proofs.YtlcjkogdbleboaaGreat.V
open Go Go.RowKit Go.Proofs.YtlcjkogdbleboaaGreat.Hz
set_option maxRecDepth 100000

/-- Of an event e; a test that is to take it has seen that it resets itself. -/
def EvQ (e : Int) (f : Frm) : Prop := f.2.2.1.1 = e ∧ (f.2.1 = 1 → f.1 = 21 → f.2.2.1.2.1 % 2 = 1 ∧ idxI f.2.2.1.2.1 ≠ 0)
theorem evQ0 (op e : Int) : EvQ e (frm0 op e 0 0) := ⟨rfl, fun h => nope (show (0 : Int) = 1 from h) rfl⟩
theorem evQ_step {k : Int} {m : Me} {f f' : Frm} {r : Rest} {e : Int} (h : EvQ e f) (hs : (lEv k m f r).fs = [f']) : EvQ e f' := by
  unfold lEv at hs
  split at hs
  · split at hs
    · cases hs
    rename_i c1
    split at hs
    · cases hs
    rename_i c2
    have hs := (List.cons.inj hs).1
    subst hs
    refine ⟨h.1, fun _ h21 => ?_⟩
    have h21 : f.1 = 21 := h21
    have e2 : ¬ nI m.1 (80 + f.2.2.1.1) % 2 = 0 := fun e => c2 ⟨h21, e⟩
    refine ⟨?_, fun e => c1 ⟨h21, e⟩⟩
    show nI m.1 (80 + f.2.2.1.1) % 2 = 1
    omega
  split at hs
  · cases hs
  · have hs := (List.cons.inj hs).1
    subst hs
    exact ⟨h.1, fun hp => nope (show (0 : Int) = 1 from hp) rfl⟩
/-- A word that was swapped so often at most. -/
structure Tagd (w T : Int) : Prop where
  low : 0 ≤ w
  tag : w / 2097152 ≤ T
theorem tagI_small {w T : Int} (h : Tagd w T) (hT : T ≤ 1000000) : tagI w = w / 2097152 := by
  have := h.1
  have := h.2
  unfold tagI
  have e : w % 2305843009213693952 = w := Int.emod_eq_of_lt h.1 (by omega)
  rw [e]
theorem evN_is {w op T : Int} (h : Tagd w T) (hT : T ≤ 1000000) : evN op w / 2097152 = w / 2097152 + 1 ∧ Tagd (evN op w) (T + 1) ∧ idxI (evN op w) = evI op ∧ evN op w % 2 = evMk op w % 2 := by
  have h1 := h.1
  have h2 := h.2
  have hi : evI op = 0 ∨ evI op = 1 := by unfold evI; split <;> simp
  have e : evN op w = (w / 2097152 + 1) * 2097152 + evI op * 2 + evMk op w % 2 := by
    unfold evN nextI
    rw [tagI_small h hT, Int.emod_eq_of_lt (by omega) (by omega), Int.emod_eq_of_lt (by omega) (by omega)]
  have hm : 0 ≤ evMk op w % 2 ∧ evMk op w % 2 < 2 := by omega
  generalize evMk op w % 2 = b at *
  rw [e]
  refine ⟨by omega, ⟨by omega, by omega⟩, ?_, by omega⟩
  unfold idxI
  omega
/-- What a step does to an event's word and to the log. -/
theorem ev_word {c k : Nat} {e T : Int} {s : Sy} {f : Frm} {r : Rest} (h : EvI c (EvQ e) s) (hk : k < c) (he : 0 ≤ e ∧ e ≤ 15) (hc : cAt s.2.1 k = ([f], r)) (hf : EvFr f) (hq : EvQ e f) (hw : Tagd (nI s.1.1 (80 + e)) T) (hT : T ≤ 1000000) :
    EvI c (EvQ e) (evS s k) ∧ (evS s k).1.1.length = s.1.1.length ∧ (∀ j : Int, 0 ≤ j → j ≠ 80 + e → nI (evS s k).1.1 j = nI s.1.1 j) ∧ (evS s k).1.2 = s.1.2 ∧
    ((nI (evS s k).1.1 (80 + e) = nI s.1.1 (80 + e) ∧ ((evS s k).2.2.1 = s.2.2.1 ∧ (cAt (evS s k).2.1 k).1 ≠ [] ∨ (cAt (evS s k).2.1 k).1 = [] ∧ (cAt (evS s k).2.1 k).2.2.1 = 0 ∧ f.1 = 21 ∧ ∃ v, (cAt (evS s k).2.1 k).2.1 = v ∧ (evS s k).2.2.1 = List.append (α := Evt) s.2.2.1 [((k : Int), 12, e, 0, v, ())] ∧ (v = 0 ∧ idxI (nI s.1.1 (80 + e)) = 0 ∨ v = 1 ∧ idxI (nI s.1.1 (80 + e)) ≠ 0 ∧ nI s.1.1 (80 + e) % 2 = 0))) ∨
     (nI (evS s k).1.1 (80 + e) = evN f.1 (nI s.1.1 (80 + e)) ∧ (cAt (evS s k).2.1 k).1 = [] ∧ (cAt (evS s k).2.1 k).2.1 = evV f.1 ∧ (cAt (evS s k).2.1 k).2.2.1 = 0 ∧ (evS s k).2.2.1 = List.append (α := Evt) s.2.2.1 [((k : Int), evK f.1, e, 0, evV f.1, ())] ∧ (f.1 = 21 → nI s.1.1 (80 + e) % 2 = 1 ∧ idxI (nI s.1.1 (80 + e)) ≠ 0))) := by
  obtain ⟨hl, hI⟩ := h.step hk hc hf fun f' hf' => evQ_step hq hf'
  obtain ⟨n1, n2⟩ := lEv_len (k := k) (f := f) (r := r) (m := s.1)
  have hkc : k < s.2.1.length := by rw [h.cores]; exact hk
  have hlen : s.1.1.length = 124 + 4 * s.1.2.1.length := h.fits.1
  have htwo := h.two
  refine ⟨hI, by rw [hl]; exact n1, fun j hj hne => ?_, by rw [hl]; exact n2, ?_⟩
  · rw [hl]
    show nI (lEv k s.1 f r).m.1 j = _
    unfold lEv
    rw [hq.1]
    split
    · split
      · rfl
      split <;> rfl
    split
    · exact setW_ne (by omega) hj (fun e => hne e.symm)
    · rfl
  · have hcore := into_core (L := lEv k s.1 f r) (F := []) hkc
    rw [← hl] at hcore
    rw [hcore]
    have hm : (evS s k).1 = (lEv k s.1 f r).m := by rw [hl]; rfl
    have hlog : (evS s k).2.2.1 = List.append (α := Evt) s.2.2.1 (lEv k s.1 f r).ev := by rw [hl]; rfl
    rw [hm, hlog]
    clear hm hlog hcore hl hI n1 n2
    have e1 := hq.1
    have e2 := hq.2
    obtain ⟨_, _, hp⟩ := hf
    clear hq
    unfold lEv
    rw [e1]
    by_cases c0 : f.2.1 = 0
    · rw [if_pos c0]
      left
      by_cases c1 : f.1 = 21 ∧ idxI (nI s.1.1 (80 + e)) = 0
      · rw [if_pos c1]
        exact ⟨rfl, .inr ⟨rfl, rfl, c1.1, 0, rfl, rfl, .inl ⟨rfl, c1.2⟩⟩⟩
      rw [if_neg c1]
      by_cases c2 : f.1 = 21 ∧ nI s.1.1 (80 + e) % 2 = 0
      · rw [if_pos c2]
        exact ⟨rfl, .inr ⟨rfl, rfl, c2.1, 1, rfl, rfl, .inr ⟨rfl, fun e => c1 ⟨c2.1, e⟩, c2.2⟩⟩⟩
      · rw [if_neg c2]
        exact ⟨rfl, .inl ⟨List.append_nil _, by simp⟩⟩
    · rw [if_neg c0]
      have hp1 : f.2.1 = 1 := hp.resolve_left c0
      by_cases c3 : nI s.1.1 (80 + e) = f.2.2.1.2.1
      · rw [if_pos c3]
        right
        rw [← c3] at e2 ⊢
        exact ⟨setW_self (by omega) (by omega), rfl, rfl, rfl, rfl, fun h21 => e2 hp1 h21⟩
      · rw [if_neg c3]
        left
        exact ⟨rfl, .inl ⟨List.append_nil _, by simp⟩⟩
end Go.Proofs.YtlcjkogdbleboaaGreat.V
