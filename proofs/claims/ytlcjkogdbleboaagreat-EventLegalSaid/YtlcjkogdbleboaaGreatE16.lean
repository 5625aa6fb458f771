/- EventLegal: where each core's lines begin. -/
import Derived.Test.YtlcjkogdbleboaaGreatE15
set_option linter.unusedSimpArgs false
set_option linter.unusedVariables false
namespace Go.Proofs.YtlcjkogdbleboaaGreat.V
open Go Go.RowKit Go.Proofs.YtlcjkogdbleboaaGreat.Hz
set_option maxRecDepth 100000

abbrev evAt (L : Lvs) (q : Int) : Evt := List.getD L q.toNat (dflt tEv)
theorem evAt_append {L : Lvs} {x : Evt} {q : Nat} : evAt (List.append (α := Evt) L [x]) q = if q < L.length then evAt L q else if q = L.length then x else dflt tEv := by
  show List.getD (L ++ [x]) ((q : Int)).toNat (dflt tEv) = _
  rw [Int.toNat_natCast, List.getD_eq_getElem?_getD]
  by_cases c : q < L.length
  · rw [if_pos c, List.getElem?_append_left c]
    show _ = List.getD L ((q : Int)).toNat (dflt tEv)
    rw [Int.toNat_natCast, List.getD_eq_getElem?_getD]
  rw [if_neg c, List.getElem?_append_right (by omega)]
  by_cases c2 : q = L.length
  · rw [if_pos c2, c2, Nat.sub_self]; rfl
  · rw [if_neg c2, List.getElem?_eq_none (by rw [List.length_singleton]; omega)]; rfl
/-- Where a core's op began: no line of its own behind. -/
def Since (F : Li) (L : Lvs) (k : Nat) : Prop := 0 ≤ nI F k ∧ nI F k ≤ (L.length : Int) ∧ ∀ q : Nat, nI F k ≤ (q : Int) → q < L.length → xCore (evAt L q) ≠ k
def FromI (c : Nat) (F : Li) (s : Sy) : Prop := F.length = c ∧ ∀ k : Nat, k < c → (cAt s.2.1 k).1 ≠ [] → Since F s.2.2.1 k
section
variable {c k : Nat} {Q : Frm → Prop} {s : Sy} {op e : Int} {F : Li}
theorem beg_other (h : EvI c Q s) (hk : k < c) {j : Nat} (hj : j ≠ k) : cAt (begE s k op e).2.1 j = cAt s.2.1 j := by
  have hkc : k < s.2.1.length := by rw [h.cores]; exact hk
  unfold begE
  rcases h.one k hk with h1 | ⟨f, h1, h2, h3⟩
  · rw [if_pos (by rw [h1]; rfl)]
    have e1 := callS_self (s := s) (k := (k : Int)) (op := op) (a := e) (b := 0) (d := 0) (by omega) (by omega) (by rw [h1]; show 0 < 40; decide)
    rw [h1] at e1
    rw [e1, stS_other (by omega)]
  · rw [if_neg (by rw [h1]; show ¬ 1 = 0; decide)]
theorem step_other {f : Frm} {r : Rest} (h : EvI c Q s) (hk : k < c) (hc : cAt s.2.1 k = ([f], r)) (he : EvFr f) {j : Nat} (hj : j ≠ k) : cAt (evS s k).2.1 j = cAt s.2.1 j := by
  have hkc : k < s.2.1.length := by rw [h.cores]; exact hk
  rw [ev_loc (F := []) (by omega) (by omega) h.fits hc he, into_other hj]
theorem nI_set_self {v : Int} (hk : k < F.length) : nI (F.set k v) k = v := by
  show List.getD (F.set k v) ((k : Int)).toNat _ = v
  rw [Int.toNat_natCast, List.getD_eq_getElem?_getD, List.getElem?_set_self hk]
  rfl
theorem nI_set_ne {v : Int} {j : Nat} (hj : j ≠ k) : nI (F.set k v) j = nI F j := by
  show List.getD (F.set k v) ((j : Int)).toNat _ = List.getD F ((j : Int)).toNat _
  rw [Int.toNat_natCast, List.getD_eq_getElem?_getD, List.getD_eq_getElem?_getD, List.getElem?_set_ne (by omega)]
theorem FromI.beg (h : EvI c Q s) (hF : FromI c F s) (hk : k < c) (hl : (begE s k op e).2.2.1 = s.2.2.1) :
    ∃ F' : Li, ((cAt s.2.1 k).1 = [] → F' = F.set k ((s.2.2.1.length : Nat) : Int)) ∧ ((cAt s.2.1 k).1 ≠ [] → F' = F) ∧ FromI c F' (begE s k op e) ∧ Since F' (begE s k op e).2.2.1 k := by
  by_cases hi : (cAt s.2.1 k).1 = []
  · have hs : Since (F.set k ((s.2.2.1.length : Nat) : Int)) (begE s k op e).2.2.1 k := by
      rw [hl]
      unfold Since
      rw [nI_set_self (by rw [hF.1]; exact hk)]
      exact ⟨by omega, Int.le_refl _, fun q h1 h2 => by omega⟩
    refine ⟨_, fun _ => rfl, fun hn => absurd hi hn, ⟨List.length_set.trans hF.1, fun j hj hne => ?_⟩, hs⟩
    by_cases hjk : j = k
    · rw [hjk]; exact hs
    · rw [beg_other h hk hjk] at hne
      have := hF.2 j hj hne
      unfold Since at this ⊢
      rw [nI_set_ne hjk, hl]
      exact this
  · have hb : begE s k op e = s := by
      unfold begE
      rw [if_neg (fun h0 => hi (List.eq_nil_of_length_eq_zero h0))]
    rw [hb]
    exact ⟨F, fun hn => absurd hn hi, fun _ => rfl, hF, hF.2 k hk hi⟩
/-- What a step has done, told of the log. -/
theorem FromI.step {f : Frm} {r : Rest} (h : EvI c Q s) (hF : FromI c F s) (hk : k < c) (hc : cAt s.2.1 k = ([f], r)) (he : EvFr f) (hs : Since F s.2.2.1 k)
    (hcase : ((evS s k).2.2.1 = s.2.2.1 ∧ (cAt (evS s k).2.1 k).1 ≠ []) ∨ ((cAt (evS s k).2.1 k).1 = [] ∧ (cAt (evS s k).2.1 k).2.2.1 = 0 ∧ ∃ kind v, (cAt (evS s k).2.1 k).2.1 = v ∧ (evS s k).2.2.1 = List.append (α := Evt) s.2.2.1 [((k : Int), kind, f.2.2.1.1, 0, v, ())])) :
    FromI c F (evS s k) ∧ (((evS s k).2.2.1.length = s.2.2.1.length ∧ (cAt (evS s k).2.1 k).1 ≠ []) ∨ ((evS s k).2.2.1.length = s.2.2.1.length + 1 ∧ (cAt (evS s k).2.1 k).1 = [] ∧ (cAt (evS s k).2.1 k).2.2.1 = 0)) ∧
    ∀ q : Nat, nI F k ≤ (q : Int) → q < (evS s k).2.2.1.length → (q < s.2.2.1.length ∧ xCore (evAt (evS s k).2.2.1 q) ≠ k) ∨ (q = s.2.2.1.length ∧ xCore (evAt (evS s k).2.2.1 q) = k ∧ xA (evAt (evS s k).2.2.1 q) = f.2.2.1.1 ∧ xV (evAt (evS s k).2.2.1 q) = (cAt (evS s k).2.1 k).2.1) := by
  have hoth : ∀ j : Nat, j ≠ k → cAt (evS s k).2.1 j = cAt s.2.1 j := fun j hj => step_other h hk hc he hj
  rcases hcase with ⟨e1, e2⟩ | ⟨e1, e2, kind, v, e3, e4⟩
  · rw [e1]
    refine ⟨⟨hF.1, fun j hj hne => ?_⟩, .inl ⟨rfl, e2⟩, fun q h1 h2 => .inl ⟨h2, hs.2.2 q h1 h2⟩⟩
    rw [e1]
    by_cases hjk : j = k
    · rw [hjk]; exact hs
    · rw [hoth j hjk] at hne; exact hF.2 j hj hne
  · have hlen : (evS s k).2.2.1.length = s.2.2.1.length + 1 := by rw [e4]; exact List.length_append.trans (by rfl)
    refine ⟨⟨hF.1, fun j hj hne => ?_⟩, .inr ⟨hlen, e1, e2⟩, fun q h1 h2 => ?_⟩
    · by_cases hjk : j = k
      · rw [hjk] at hne; exact absurd e1 hne
      · rw [hoth j hjk] at hne
        obtain ⟨q1, q2, q3⟩ := hF.2 j hj hne
        refine ⟨q1, by rw [hlen]; omega, fun q h1 h2 => ?_⟩
        rw [hlen] at h2
        rw [e4, evAt_append]
        by_cases c1 : q < s.2.2.1.length
        · rw [if_pos c1]; exact q3 q h1 c1
        · rw [if_neg c1, if_pos (by omega)]
          show (k : Int) ≠ (j : Int)
          omega
    · rw [hlen] at h2
      rw [e4, evAt_append]
      by_cases c1 : q < s.2.2.1.length
      · rw [if_pos c1]; exact .inl ⟨c1, hs.2.2 q h1 c1⟩
      · rw [if_neg c1, if_pos (by omega)]
        exact .inr ⟨by omega, rfl, rfl, e3.symm⟩
end
/-- Events that are made one behind the other. -/
def sysE (s : Sy) : Nat → Sy
  | 0 => s
  | j + 1 => mkE (sysE s j) (j : Int) (oddB (j : Int))
theorem sysE_is {c : Nat} {s : Sy} (hF : Fin 0 s) (hI : EvI c QL s) (hl : 128 ≤ s.1.1.length) : ∀ j : Nat, j ≤ 4 → Fin 0 (sysE s j) ∧ EvI c QL (sysE s j) ∧ (sysE s j).2 = s.2 ∧ (sysE s j).1.1.length = s.1.1.length ∧ ∀ e : Int, 0 ≤ e → e < j → nI (sysE s j).1.1 (80 + e) = selfI (oddB e)
  | 0, _ => ⟨hF, hI, rfl, rfl, fun e h0 h1 => by omega⟩
  | j + 1, hj => by
    obtain ⟨q1, q2, q3, q4, q5⟩ := sysE_is hF hI hl j (by omega)
    have hm := mkE_is (s := sysE s j) (e := (j : Int)) (b := oddB (j : Int)) (by omega) (by omega) q1.fits
    refine ⟨mkE_fin q1, q2.make (by omega) (by omega), q3, ?_, fun e h0 h1 => ?_⟩
    · show (mkE (sysE s j) (j : Int) (oddB (j : Int))).1.1.length = _
      rw [hm]; exact List.length_set.trans q4
    · show nI (mkE (sysE s j) (j : Int) (oddB (j : Int))).1.1 (80 + e) = _
      rw [hm]
      by_cases he : e = j
      · rw [he]; exact setW_self (by omega) (by omega)
      · exact (setW_ne (by omega) (by omega) (by omega)).trans (q5 e h0 (by omega))
end Go.Proofs.YtlcjkogdbleboaaGreat.V
