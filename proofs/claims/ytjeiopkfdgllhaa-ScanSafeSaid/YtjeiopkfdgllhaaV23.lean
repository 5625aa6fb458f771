/- One core alone: what its ops do to its state. -/
import Derived.Test.YtjeiopkfdgllhaaV21
set_option linter.unusedSimpArgs false
set_option linter.unusedVariables false
namespace Go.Proofs.Ytjeiopkfdgllhaa.V
open Go Go.RowKit Go.Proofs.Ytjeiopkfdgllhaa.Hz
set_option maxRecDepth 100000

/-- A system whose memory is m, and whose core k is c. -/
def stS (s : Sy) (k : Int) (m : Me) (c : Cor) : Sy := (m, List.set (α := Cor) s.2.1 k.toNat c, s.2.2.1, ())
section
variable {s : Sy} {k : Int} {m : Me} {c : Cor} {F : List Frm} {f g : Frm} {r : Den (.cons tI (.cons tI (.cons tR3 (.cons tL .nil))))}
theorem stS_len : (stS s k m c).2.1.length = s.2.1.length := List.length_set
theorem stS_core (h0 : 0 ≤ k) (h1 : k < s.2.1.length) : cAt (stS s k m c).2.1 k = c := getD_set (by omega)
theorem stS_other {j : Int} (h : j.toNat ≠ k.toNat) : cAt (stS s k m c).2.1 j = cAt s.2.1 j := by
  show List.getD (List.set (α := Cor) s.2.1 k.toNat c) j.toNat _ = List.getD s.2.1 j.toNat _
  rw [List.getD_eq_getElem?_getD, List.getD_eq_getElem?_getD, List.getElem?_set_ne (by omega)]
theorem stS_self (h0 : 0 ≤ k) (h1 : k < s.2.1.length) : stS s k s.1 (cAt s.2.1 k) = s := by
  have e : List.set (α := Cor) s.2.1 k.toNat (cAt s.2.1 k) = s.2.1 := by
    apply List.ext_getElem?
    intro j
    by_cases hj : k.toNat = j
    · subst hj
      rw [List.getElem?_set_self (by omega)]
      unfold cAt
      rw [List.getD_eq_getElem?_getD, List.getElem?_eq_getElem (by omega)]
      rfl
    · rw [List.getElem?_set_ne hj]
  unfold stS
  rw [e]
theorem topI_is (h0 : 0 ≤ k) (h1 : k < s.2.1.length) : topI s k = (cAt s.2.1 k).1.getLast? := by
  unfold topI
  rw [if_pos h0]
  unfold cAt
  rw [List.getD_eq_getElem?_getD, List.getElem?_eq_getElem (by omega)]
  rfl
theorem topI_st (h0 : 0 ≤ k) (h1 : k < s.2.1.length) : topI (stS s k m (F ++ [f], r)) k = some f := by
  rw [topI_is h0 (by rw [stS_len]; exact h1), stS_core h0 h1]
  exact List.getLast?_concat
theorem topI_st0 (h0 : 0 ≤ k) (h1 : k < s.2.1.length) : topI (stS s k m (F, r)) k = F.getLast? := by
  rw [topI_is h0 (by rw [stS_len]; exact h1), stS_core h0 h1]
theorem withS_st {c' : Cor} : withS (stS s k m c) k c' = stS s k m c' := by
  unfold withS stS
  show (m, List.set (List.set (α := Cor) s.2.1 k.toNat c) k.toNat c', s.2.2.1, ()) = _
  rw [List.set_set]
theorem setS_st (h0 : 0 ≤ k) (h1 : k < s.2.1.length) : setS (stS s k m (F ++ [f], r)) k g = stS s k m (F ++ [g], r) := by
  unfold setS
  rw [topI_st h0 h1, if_pos (show (some f).isSome = true from rfl), stS_core h0 h1, withS_st]
  show stS s k m (List.set (F ++ [f]) (((F ++ [f]).length : Int) - 1).toNat g, r) = _
  have e : (((F ++ [f]).length : Int) - 1).toNat = F.length := by rw [List.length_append, List.length_singleton]; omega
  rw [e, List.set_append_right _ _ (Nat.le_refl _), Nat.sub_self]
  rfl
theorem backS_st {v e : Int} (h0 : 0 ≤ k) (h1 : k < s.2.1.length) : backS (stS s k m (F ++ [f], r)) k v e = stS s k m (F, v, e, r.2.2) := by
  unfold backS
  rw [topI_st h0 h1, if_pos (show (some f).isSome = true from rfl), stS_core h0 h1, withS_st]
  show stS s k m (List.take (((F ++ [f]).length : Int) - 1).toNat (F ++ [f]), v, e, r.2.2) = _
  have e : (((F ++ [f]).length : Int) - 1).toNat = F.length := by rw [List.length_append, List.length_singleton]; omega
  rw [e, List.take_left]
theorem callS_st {op a b d : Int} (h0 : 0 ≤ k) (h1 : k < s.2.1.length) (hl : F.length < 40) : callS (stS s k m (F, r)) k op a b d = stS s k m (F ++ [frm0 op a b d], r) := by
  unfold callS pushS
  rw [stS_core h0 h1, stS_len, if_pos ⟨h0, h1, hl⟩, withS_st]
theorem callP_st {op a : Int} (h0 : 0 ≤ k) (h1 : k < s.2.1.length) (hl : F.length < 40) : callP (stS s k m (F, r)) k op a = stS s k m (F ++ [frm0 op a 0 0], r) := by
  unfold callP pushS
  rw [stS_core h0 h1, if_pos ⟨by unfold isCoreB; rw [stS_len, decide_eq_true h0, decide_eq_true h1]; rfl, hl⟩, withS_st]
theorem keptS_st {l : Li} (h0 : 0 ≤ k) (h1 : k < s.2.1.length) : keptS (stS s k m c) k l = stS s k m (c.1, c.2.1, c.2.2.1, c.2.2.2.1, l, ()) := by
  unfold keptS
  rw [stS_core h0 h1, withS_st]
theorem callS_self {op a b d : Int} (h0 : 0 ≤ k) (h1 : k < s.2.1.length) (hl : (cAt s.2.1 k).1.length < 40) : callS s k op a b d = stS s k s.1 ((cAt s.2.1 k).1 ++ [frm0 op a b d], (cAt s.2.1 k).2) := by
  have h := callS_st (s := s) (k := k) (m := s.1) (F := (cAt s.2.1 k).1) (r := (cAt s.2.1 k).2) (op := op) (a := a) (b := b) (d := d) h0 h1 hl
  rw [show stS s k s.1 ((cAt s.2.1 k).1, (cAt s.2.1 k).2) = s from stS_self h0 h1] at h
  exact h
end
/-! ### Retired nodes, counted -/
theorem retI_set (c : Cor) : ∀ (l : List Cor) (i : Nat), i < l.length → (retI (List.set l i c)).length + (l.getD i (dflt tCore)).2.2.2.2.1.length = (retI l).length + c.2.2.2.2.1.length
  | [], i, h => absurd h (Nat.not_lt_zero _)
  | d :: r, 0, _ => by
    show List.length (c.2.2.2.2.1 ++ retI r) + d.2.2.2.2.1.length = List.length (d.2.2.2.2.1 ++ retI r) + _
    rw [List.length_append, List.length_append]
    omega
  | d :: r, i + 1, h => by
    have ih := retI_set c r i (Nat.lt_of_succ_lt_succ h)
    show List.length (d.2.2.2.2.1 ++ retI (List.set r i c)) + (r.getD i (dflt tCore)).2.2.2.2.1.length = List.length (d.2.2.2.2.1 ++ retI r) + _
    rw [List.length_append, List.length_append]
    omega
theorem retI_len : ∀ l : List Cor, (∀ c ∈ l, FinC c) → (retI l).length ≤ 1000 * l.length
  | [], _ => Nat.le_refl _
  | c :: r, h => by
    have h1 := (h c (List.mem_cons_self ..)).ret
    have h2 := retI_len r fun c hc => h c (List.mem_cons_of_mem _ hc)
    show List.length (c.2.2.2.2.1 ++ retI r) ≤ _
    rw [List.length_append, List.length_cons]
    omega
theorem ret_fin {N : Nat} {s : Sy} (hf : Fin N s) : ∀ i : Nat, i ≤ s.2.1.length → (retI (s.2.1.take i)).length ≤ 1000000 := fun i hi => by
  have h := retI_len (s.2.1.take i) fun c hc => hf.core c (List.mem_of_mem_take hc)
  rw [List.length_take] at h
  have := hf.cores
  omega
end Go.Proofs.Ytjeiopkfdgllhaa.V
