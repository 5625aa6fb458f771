/- AllocDrops: the law. -/
import Derived.Test.YtjeiopkfdgllhaaGreatR9
import Derived.Test.YtjeiopkfdgllhaaGreatV30
namespace Go.Proofs.YtjeiopkfdgllhaaGreat.V
open Go Go.RowKit Go.Proofs.YtjeiopkfdgllhaaGreat.Hz
set_option maxRecDepth 100000

theorem s_refDoneTo {N : Nat} (s : Sy) (k : Int) (J : Nat) (hf : Fin N s) (hN : N + 2000 ≤ 900000) (hJ : J ≤ 2000) (h0 : 0 ≤ k) (h1 : k < s.2.1.length) (he : (cAt (itS k s J).2.1 k).1.length = 0) :
    Spec Tryz.prog 29 [vS s, vI k, vI 0] (vS (itS k s J)) := by
  obtain ⟨J', j1, j2, j3⟩ := itS_still he
  rw [← j2]
  exact s_refDone s k J' hf hN (by omega) h0 (fun i _ => by have e : (itS k s i).2.1.length = s.2.1.length := itS_n k s i; rw [e]; exact h1) j3 (by rw [j2]; exact he)
/-- No core has a frame, or retired nodes; what is free is a list. -/
structure Idle (s : Sy) (l : Li) : Prop where
  fl : FL s.1 l
  idle : ∀ c ∈ s.2.1, c.1 = [] ∧ c.2.2.2.2.1 = []
theorem Idle.core {s : Sy} {l : Li} (h : Idle s l) (k : Int) : ∃ v e x, cAt s.2.1 k = (([] : List Frm), v, e, x, ([] : Li), ()) := by
  rcases cAt_mem (l := s.2.1) (k := k) with e | e
  · have hi := h.idle _ e
    obtain ⟨c, hc⟩ : ∃ c, cAt s.2.1 k = c := ⟨_, rfl⟩
    rw [hc] at hi ⊢
    obtain ⟨F, v, e2, x, R, u⟩ := c
    obtain ⟨h1, h2⟩ := hi
    have h1 : F = [] := h1
    have h2 : R = [] := h2
    subst h1 h2
    exact ⟨v, e2, x, rfl⟩
  · rw [e]; exact ⟨_, _, _, rfl⟩
theorem Idle.st {s : Sy} {l l' : Li} {k v e : Int} {x : R3} {m : Me} (h : Idle s l) (hm : FL m l') : Idle (stS s k m (([] : List Frm), v, e, x, ([] : Li), ())) l' :=
  ⟨hm, fun c hc => by
    rcases List.mem_or_eq_of_mem_set (show c ∈ List.set (α := Cor) s.2.1 k.toNat _ from hc) with e | e
    · exact h.idle c e
    · rw [e]; exact ⟨rfl, rfl⟩⟩
/-- An allocation of a core that alone goes on. -/
theorem Idle.alloc {s : Sy} {l : Li} {k : Int} (h : Idle s l) (h0 : 0 ≤ k) (h1 : k < s.2.1.length) :
    (∃ l', Idle (itS k (callS s k 7 0 0 0) 5) l') ∧ (cAt (itS k (callS s k 7 0 0 0) 5).2.1 k).1.length = 0 := by
  obtain ⟨v, e, x, hc⟩ := h.core k
  have hcall := callS_self (s := s) (op := 7) (a := 0) (b := 0) (d := 0) h0 h1 (by rw [hc]; exact (by decide : (0 : Nat) < 40))
  rw [hc] at hcall
  have hcall2 : callS s k 7 0 0 0 = stS s k s.1 (([] : List Frm) ++ [alF 0], v, e, x, ([] : Li), ()) := hcall
  rw [hcall2]
  cases l with
  | nil =>
    have h3 := alloc_full (s := s) (k := k) (m := s.1) (F := []) (v := v) (e := e) (x := x) h0 h1 (by decide) h.fl
    have hidle : topI (itS k (stS s k s.1 (([] : List Frm) ++ [alF 0], v, e, x, ([] : Li), ())) 3) k = none := by
      rw [h3]; exact topI_none (by rw [stS_core (s := fullS s k) h0 h1]; rfl)
    rw [itS_idle hidle 5 (by decide), h3]
    refine ⟨⟨[], Idle.st (s := fullS s k) ⟨h.fl, h.idle⟩ h.fl⟩, ?_⟩
    rw [stS_core (s := fullS s k) h0 h1]; rfl
  | cons p l' =>
    rw [alloc_run h0 h1 (by decide) h.fl]
    exact ⟨⟨l', h.st h.fl.popped⟩, by rw [stS_core h0 h1]; rfl⟩
/-- And a node that is dropped again. -/
theorem Idle.drop {s : Sy} {p : Int} {l : Li} {k : Int} (h : Idle s (p :: l)) (h0 : 0 ≤ k) (h1 : k < s.2.1.length) :
    ∃ t u : Sy, t = itS k (callS s k 7 0 0 0) 9 ∧ u = itS k (callS t k 8 p 0 0) 9 ∧ (cAt t.2.1 k).1.length = 0 ∧ (cAt t.2.1 k).2.1 = p ∧ p < t.1.2.1.length ∧ nI t.1.2.1 p = 1 ∧ (cAt u.2.1 k).1.length = 0 ∧ FL u.1 (p :: l) ∧ u.1.2.1 = s.1.2.1 ∧ u.1.2.2.1 = false := by
  obtain ⟨v, e, x, hc⟩ := h.core k
  have hcall := callS_self (s := s) (op := 7) (a := 0) (b := 0) (d := 0) h0 h1 (by rw [hc]; exact (by decide : (0 : Nat) < 40))
  rw [hc] at hcall
  have hcall2 : callS s k 7 0 0 0 = stS s k s.1 (([] : List Frm) ++ [alF 0], v, e, x, ([] : Li), ()) := hcall
  have hr := alloc_run (s := s) (k := k) (m := s.1) (F := []) (v := v) (e := e) (x := x) (R := []) h0 h1 (by decide) h.fl
  have ht : itS k (callS s k 7 0 0 0) 9 = stS s k (popM s.1 p) (([] : List Frm), p, 0, x, ([] : Li), ()) := by
    rw [hcall2, itS_idle (i := 5) (by rw [hr]; exact topI_none (by rw [stS_core h0 h1]; rfl)) 9 (by decide), hr]
  obtain ⟨p0, p1, hg⟩ := (h.fl.mem p).1 (List.mem_cons_self ..)
  have hgl : (popM s.1 p).2.1.length = s.1.2.1.length := List.length_set
  have hg1 : nI (popM s.1 p).2.1 p = 1 := by
    show nI (List.set (α := Int) s.1.2.1 p.toNat 1) p = 1
    rw [nI_set (by omega) (by omega), if_pos ⟨rfl, p1⟩]
  have hcall3 : callS (stS s k (popM s.1 p) (([] : List Frm), p, 0, x, ([] : Li), ())) k 8 p 0 0 = stS s k (popM s.1 p) (([] : List Frm) ++ [dropF 0 p], p, 0, x, ([] : Li), ()) := callS_st h0 h1 (by decide)
  have hr2 := drop_run (s := s) (k := k) (F := []) (v := p) (e := 0) (x := x) (R := []) h0 h1 (by decide) h.fl.popped p0 (by rw [hgl]; exact p1) hg1
  have hu : itS k (callS (stS s k (popM s.1 p) (([] : List Frm), p, 0, x, ([] : Li), ())) k 8 p 0 0) 9 = stS s k (pushM (popM s.1 p) p) (([] : List Frm), p, 0, x, ([] : Li), ()) := by
    rw [hcall3, itS_idle (i := 5) (by rw [hr2]; exact topI_none (by rw [stS_core h0 h1]; rfl)) 9 (by decide), hr2]
  have hGG : (pushM (popM s.1 p) p).2.1 = s.1.2.1 := by
    show List.set (α := Int) (List.set (α := Int) s.1.2.1 p.toNat 1) p.toNat 0 = s.1.2.1
    rw [List.set_set]
    apply List.ext_getElem?
    intro j
    by_cases hj : p.toNat = j
    · subst hj
      rw [List.getElem?_set_self (by omega)]
      have := hg
      unfold nI at this
      rw [List.getD_eq_getElem?_getD, List.getElem?_eq_getElem (by omega)] at this
      rw [List.getElem?_eq_getElem (by omega)]
      exact congrArg some this.symm
    · rw [List.getElem?_set_ne hj]
  have hpush := h.fl.popped.pushed p0 (by rw [hgl]; exact p1) (by rw [hg1]; decide)
  refine ⟨_, _, rfl, rfl, ?_⟩
  rw [ht, hu]
  refine ⟨by rw [stS_core h0 h1]; rfl, by rw [stS_core h0 h1], by show p < ((popM s.1 p).2.1.length : Int); rw [hgl]; exact p1, hg1, by rw [stS_core h0 h1]; rfl, hpush, hGG, hpush.good⟩
/-- The system behind so many allocations. -/
def allocs (s : Sy) (k : Int) : Nat → Sy
  | 0 => s
  | i + 1 => itS k (callS (allocs s k i) k 7 0 0 0) 5
theorem allocs_n (s : Sy) (k : Int) : ∀ i, (allocs s k i).2.1.length = s.2.1.length
  | 0 => rfl
  | i + 1 => (itS_n k _ 5).trans (callS_n.trans (allocs_n s k i))
theorem allocs_fin {N : Nat} {s : Sy} {k : Int} (h : Fin N s) : ∀ i, Fin (N + 5 * i) (allocs s k i)
  | 0 => h
  | i + 1 => itS_fin (allocs_fin h i).callS 5
theorem allocs_idle {s : Sy} {l : Li} {k : Int} (h : Idle s l) (h0 : 0 ≤ k) (h1 : k < s.2.1.length) : ∀ i, ∃ l', Idle (allocs s k i) l'
  | 0 => ⟨l, h⟩
  | i + 1 => by
    obtain ⟨l', h'⟩ := allocs_idle h h0 h1 i
    exact (h'.alloc h0 (by rw [allocs_n]; exact h1)).1
theorem newF_idle {c n : Nat} (h1 : 1 ≤ n) (h2 : n ≤ 200) : Idle (newF c n) (up n 1) :=
  ⟨FL.filled h1 h2, fun d hd => by rw [(List.mem_replicate.1 (show d ∈ List.replicate _ _ from hd)).2]; exact ⟨rfl, rfl⟩⟩
end Go.Proofs.YtjeiopkfdgllhaaGreat.V
