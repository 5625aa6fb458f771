/- ScanSafe: a turn of a core. ScanSafe: how it begins; what is there at the end. -/
import Derived.Test.YtpobngddiifdpaaGreatZdM16
import Derived.Test.YtpobngddiifdpaaGreatZdU5
import Derived.Test.YtpobngddiifdpaaGreatZdN11
import Derived.Test.YtpobngddiifdpaaGreatZdP0
import Derived.Test.YtpobngddiifdpaaGreatZdT3
import Derived.Test.YtpobngddiifdpaaGreatZdT0
import Derived.Test.YtpobngddiifdpaaGreatZdN10
set_option linter.unusedSimpArgs false
set_option linter.unusedVariables false
namespace Go.Proofs.YtpobngddiifdpaaGreat.V
open Go Go.RowKit Go.Proofs.YtpobngddiifdpaaGreat.Hz
set_option maxRecDepth 100000

theorem pl1_iff (g : Li) (x : Int) : ∀ (k : Nat) (p : Int), p ∈ places1 g x k ↔ 1 ≤ p ∧ p < k ∧ nI g p = x
  | 0, p => by
    constructor
    · intro h; cases h
    · intro h; omega
  | k + 1, p => by
    have ih := pl1_iff g x k p
    unfold places1
    split
    · rename_i h
      rw [List.mem_append, List.mem_singleton, ih]
      constructor
      · rintro (e | e)
        · exact ⟨e.1, by omega, e.2.2⟩
        · rw [e]; exact ⟨by omega, by omega, h.2⟩
      · intro e
        by_cases c : p = k
        · exact .inr c
        · exact .inl ⟨e.1, by omega, e.2.2⟩
    · rename_i h
      rw [ih]
      constructor
      · intro e; exact ⟨e.1, by omega, e.2.2⟩
      · intro e
        refine ⟨e.1, ?_, e.2.2⟩
        have : p ≠ k := fun c => h ⟨by omega, by rw [← c]; exact e.2.2⟩
        omega
theorem pl1_nodup (g : Li) (x : Int) : ∀ k : Nat, (places1 g x k).Nodup
  | 0 => List.nodup_nil
  | k + 1 => by
    have ih := pl1_nodup g x k
    unfold places1
    split
    · refine List.nodup_append.2 ⟨ih, by simp, fun a ha b hb => ?_⟩
      rw [List.mem_singleton.1 hb]
      have := (pl1_iff g x k a).1 ha
      exact Int.ne_of_lt this.2.1
    · exact ih
theorem cAt_elem {l : List Cor} {c : Nat} (h : c < l.length) : cAt l c = l[c] := by
  unfold cAt
  rw [Int.toNat_natCast, List.getD_eq_getElem?_getD, List.getElem?_eq_getElem h]
  rfl
end Go.Proofs.YtpobngddiifdpaaGreat.V

set_option linter.unusedSimpArgs false
set_option linter.unusedVariables false
namespace Go.Proofs.YtpobngddiifdpaaGreat.V
open Go Go.RowKit Go.Proofs.YtpobngddiifdpaaGreat.Hz
set_option maxRecDepth 100000

section
variable {T : Int} {o : OM} {s : Sy} {N : NQ} {k : Nat}
theorem LgI.begin {op q v : Int} (h : MqI T o s N) (g : LgI o s N) (hk : k < s.2.1.length) (hidle : (cAt s.2.1 k).1 = []) (hop : op = 9 ∨ op = 10) (hq : IsQ q) : LgI o (callS s k op q v 0) N := by
  have hC := h.mm.cores
  obtain ⟨_, e1, e2, e3, _⟩ := h.begin (op := op) (q := q) (v := v) hk hidle hop hq
  have e : callS s k op q v 0 = stS s k s.1 ((cAt s.2.1 k).1 ++ [frm0 op q v 0], (cAt s.2.1 k).2) := callS_self (s := s) (k := (k : Int)) (op := op) (a := q) (b := v) (d := 0) (by omega) (by omega) (by rw [hidle]; show 0 < 40; decide)
  have hco : ∀ c : Nat, c ≠ k → cAt (callS s k op q v 0).2.1 c = cAt s.2.1 c := fun c hc => by rw [e]; exact cAt_neN hc
  have noh : ∀ p, HeldF p (cAt s.2.1 k) → False := fun p hp => by
    rcases hp with ⟨F, f, e1, _⟩ | ⟨f, U, e1, _⟩
    · rw [hidle] at e1; exact absurd e1.symm (by simp)
    · rw [hidle] at e1; cases e1
  have nog : ∀ p, GoneF p (cAt s.2.1 k) → False := fun p hp => by
    obtain ⟨F, f, e1, _⟩ := hp
    rw [hidle] at e1; exact absurd e1.symm (by simp)
  refine ⟨fun q2 h2 hx => ?_, fun c q2 pc v2 n2 t2 w2 r32 l2 r2 hcl he => ?_, fun p c hp ho => ?_, fun p c hp ho => ?_, fun p c hp ho => by rw [e2]; rw [e3] at hp; exact g.few p c hp ho⟩
  · rw [e3] at hx
    obtain ⟨c, c1, v2, n2, w2, r32, l2, r2, c2⟩ := g.lag q2 h2 hx
    have ck : c ≠ k := fun e => by subst e; rw [c2] at hidle; cases hidle
    refine ⟨c, by rw [e2]; exact c1, v2, n2, w2, r32, l2, r2, ?_⟩
    rw [hco c ck, e3, c2]
  · rw [e2] at hcl
    by_cases ck : c = k
    · subst ck
      have := congrArg Prod.fst he
      rw [e1] at this
      have e5 := (List.cons.inj (show [frm0 op q v 0] = [((9 : Int), pc, (q2, v2, n2, t2, w2, r32), l2, ())] from this)).1
      have e6 : (0 : Int) = pc := (Prod.mk.inj (Prod.mk.inj e5).2).1
      subst e6
      exact ⟨fun e => by rcases e with e | e <;> exact nope e rfl, fun e => nope e rfl⟩
    · rw [hco c ck] at he
      unfold Sm
      rw [e3]
      exact g.same c q2 pc v2 n2 t2 w2 r32 l2 r2 hcl he
  · rw [e3] at hp
    obtain ⟨g1, g2⟩ := g.hold p c hp ho
    rw [e2]
    refine ⟨g1, ?_⟩
    by_cases ck : c = k
    · subst ck; exact (noh p g2).elim
    · rw [hco c ck]; exact g2
  · rw [e3] at hp
    obtain ⟨g1, g2⟩ := g.gone p c hp ho
    rw [e2]
    refine ⟨g1, ?_⟩
    by_cases ck : c = k
    · subst ck; exact (nog p g2).elim
    · rw [hco c ck]; exact g2
theorem LgI.go (h : MqI T o s N) (g : LgI o s N) (hk : k < s.2.1.length) (x : Int) : LgI o (goS s k x) N := by
  have hC := h.mm.cores
  have htI := topI_is (s := s) (k := (k : Int)) (by omega) (by omega)
  unfold goS
  split
  · rename_i ht
    have hidle : (cAt s.2.1 k).1 = [] := by
      rw [ht] at htI
      exact List.getLast?_eq_none_iff.1 htI.symm
    unfold begS
    split
    · exact g.begin h hk hidle (.inl rfl) (by unfold IsQ; omega)
    · exact g.begin h hk hidle (.inr rfl) (by unfold IsQ; omega)
  · exact g
theorem LgI.start {c n : Nat} (h1 : 2 ≤ n) (h2 : n ≤ 200) (c1 : 1 ≤ c) (c8 : c ≤ 8) : LgI ownQ (newQ (c : Int) (n : Int)) nodesQ := by
  have h := MqI.start (c := c) (n := n) h1 h2 c1 c8
  have hcA : ∀ k : Nat, cAt (newQ (c : Int) (n : Int)).2.1 k = dflt tCore := fun k => newF_cor (c := (c : Int)) (n := (n : Int))
  refine ⟨fun q hq hx => ?_, fun c q pc v n t w r3 l r hcl he => ?_, fun p c hp ho => ?_, fun p c hp ho => ?_, fun p c hp ho => ?_⟩
  · exfalso
    have hQ := h.qs.q q hq
    have hch := hQ.head
    have hone : ∃ x, nodesQ q = [x] := by
      rcases hq with e | e <;> subst e
      · exact ⟨1, rfl⟩
      · exact ⟨2, rfl⟩
    obtain ⟨x, hx2⟩ := hone
    obtain ⟨A, hA | ⟨y, hA⟩⟩ := hQ.tail
    · rw [hA] at hch
      exact hx hch.last
    · rw [hx2] at hA
      have := congrArg List.length hA
      rw [List.length_append] at this
      simp at this
  · rw [hcA] at he
    cases (congrArg Prod.fst he : ([] : List Frm) = _)
  · unfold ownQ at ho
    split at ho <;> cases ho
  · unfold ownQ at ho
    split at ho <;> cases ho
  · unfold ownQ at ho
    split at ho <;> rcases ho with ho | ⟨x, ho⟩ <;> cases ho
/-- A core alone ends what it is at; others stand still. -/
theorem MqI.ends_inL : ∀ (c : Nat) {T : Int} {o : OM} {s : Sy} {N : NQ}, MqI T o s N → LgI o s N → T + c < 1000000000 → k < s.2.1.length → costC s.2.1.length s.1 (cAt s.2.1 k) ≤ c → ∃ j o' N', j ≤ c ∧ MqI (T + j) o' (it8 k s j) N' ∧ LgI o' (it8 k s j) N' ∧ (cAt (it8 k s j).2.1 k).1 = [] ∧ (it8 k s j).2.1.length = s.2.1.length ∧ (∀ d : Nat, d ≠ k → cAt (it8 k s j).2.1 d = cAt s.2.1 d) ∧ ∀ i, (i < j → (cAt (it8 k s i).2.1 k).1 ≠ []) ∧ (i ≤ j → (it8 k s i).2.1.length = s.2.1.length)
  | c, T, o, s, N, h, g, hT, hk, hcost => by
    by_cases hb : (cAt s.2.1 k).1 = []
    · refine ⟨0, o, N, Nat.zero_le _, ?_, g, hb, rfl, fun _ _ => rfl, fun i => ⟨fun hi => absurd hi (Nat.not_lt_zero _), fun hi => by rw [Nat.le_zero.1 hi]; rfl⟩⟩
      rw [show T + ((0 : Nat) : Int) = T by omega]; exact h
    · have hl := h.less (by omega) hk hb
      cases c with
      | zero => omega
      | succ c =>
        obtain ⟨_, _, _, hd⟩ := h.turn (by omega) hk hb
        obtain ⟨o2, N2, h2, g2⟩ := h.turnL g (by omega) hk hb
        obtain ⟨ev, _, hoth, _⟩ := h.on (by omega) hk hb
        obtain ⟨j, o', N', j1, j2, jg, j3, j4, j5, j6⟩ := MqI.ends_inL c h2 g2 (by omega) (by rw [hd.cores]; exact hk) (by rw [hd.cores]; omega)
        rw [it8_front] at j2 jg j3 j4 j5
        refine ⟨j + 1, o', N', by omega, ?_, jg, j3, j4.trans hd.cores, fun d hd2 => (j5 d hd2).trans (hoth d hd2).2, fun i => ?_⟩
        · rw [show T + ((j + 1 : Nat) : Int) = T + 1 + (j : Int) by omega]; exact j2
        · cases i with
          | zero => exact ⟨fun _ => hb, fun _ => rfl⟩
          | succ i =>
            obtain ⟨a, b⟩ := j6 i
            rw [it8_front] at a b
            exact ⟨fun hi => a (by omega), fun hi => (b (by omega)).trans hd.cores⟩
/-- All cores are at nothing. -/
def Quiet (s : Sy) : Prop := ∀ c : Nat, c < s.2.1.length → (cAt s.2.1 c).1 = []
theorem LgI.last (g : LgI o s N) (hq : Quiet s) {q : Int} (h : IsQ q) : idxI (nx s.1 (idxI (tlW s.1 q))) = 0 := by
  refine Classical.not_not.1 fun hx => ?_
  obtain ⟨c, c1, v, n, w, r3, l, r, c2⟩ := g.lag q h hx
  have := hq c c1
  rw [c2] at this
  cases this
theorem LgI.who (h : MqI T o s N) (g : LgI o s N) (hq : Quiet s) {p : Int} (hp : InN s.1 p) : o p = .free ∨ o p = .shared ∨ ∃ c : Nat, c < s.2.1.length ∧ o p = .ret c := by
  cases ho : o p with
  | free => exact .inl rfl
  | shared => exact .inr (.inl rfl)
  | fresh c =>
    exfalso
    obtain ⟨c1, c2⟩ := g.hold p c hp ho
    have e := hq c c1
    rcases c2 with ⟨F, f, e1, _⟩ | ⟨f, U, e1, _⟩
    · rw [e] at e1; exact absurd e1.symm (by simp)
    · rw [e] at e1; cases e1
  | gone c =>
    exfalso
    obtain ⟨c1, F, f, e1, _⟩ := g.gone p c hp ho
    rw [hq c c1] at e1
    exact absurd e1.symm (by simp)
  | ret c => exact .inr (.inr ⟨c, g.few p c hp (.inl ho), rfl⟩)
  | push c x =>
    exfalso
    have hc := g.few p c hp (.inr ⟨x, ho⟩)
    obtain ⟨F, f, e1, _⟩ := (h.mm.core c hc).push p x hp ho
    rw [hq c hc] at e1
    exact absurd e1.symm (by simp)
theorem pl1_is {m : Me} {L : Li} {x : Int} (hn : L.Nodup) (hm : ∀ p, p ∈ L ↔ InN m p ∧ nI m.2.1 p = x) : (places1 m.2.1 x m.2.1.length).length = L.length := by
  have hp : (places1 m.2.1 x m.2.1.length).Perm L := (List.perm_ext_iff_of_nodup (pl1_nodup _ _ _) hn).2 fun p => by
    rw [pl1_iff, hm]
    unfold InN
    exact ⟨fun ⟨a, b, c⟩ => ⟨⟨a, b⟩, c⟩, fun ⟨⟨a, b⟩, c⟩ => ⟨a, b, c⟩⟩
  exact hp.length_eq
/-- How many nodes the first cores have retired. -/
def nRet (cs : List Cor) (i : Nat) : Nat := ((cs.take i).map fun c => (rtL c.2).length).sum
theorem nRet_succ {cs : List Cor} {i : Nat} (h : i < cs.length) : nRet cs (i + 1) = nRet cs i + (rtL (cAt cs i).2).length := by
  unfold nRet
  rw [List.take_succ_eq_append_getElem h, List.map_append, List.sum_append, cAt_elem h]
  simp
theorem nRet_all (cs : List Cor) : nRet cs cs.length = (cs.flatMap fun c => rtL c.2).length := by
  unfold nRet
  rw [List.take_length, List.length_flatMap]
/-- With all cores at nothing each node is free, retired, or in a queue. -/
theorem MqI.rest (h : MqI T o s N) (g : LgI o s N) (hq : Quiet s) : (places1 s.1.2.1 2 s.1.2.1.length).length = nRet s.2.1 s.2.1.length ∧ (places1 s.1.2.1 1 s.1.2.1.length).length = (N 0).length + (N 1).length := by
  constructor
  · rw [nRet_all]
    refine pl1_is ?_ fun p => ?_
    · unfold List.Nodup
      rw [List.pairwise_flatMap]
      refine ⟨fun c hc => ?_, List.pairwise_iff_getElem.2 fun i j hi hj hij x hx y hy e => ?_⟩
      · obtain ⟨i, hi, rfl⟩ := List.getElem_of_mem hc
        rw [← cAt_elem hi]
        exact (h.mm.core i hi).nodup
      · subst e
        rw [← cAt_elem hi] at hx
        rw [← cAt_elem hj] at hy
        have h1 := (((h.mm.core i hi).ret x).1 hx).2
        have h2 := (((h.mm.core j hj).ret x).1 hy).2
        rw [h1] at h2
        exact absurd (Own.ret.inj h2) (by omega)
    · rw [List.mem_flatMap]
      constructor
      · rintro ⟨c, hc, hp⟩
        obtain ⟨i, hi, rfl⟩ := List.getElem_of_mem hc
        rw [← cAt_elem hi] at hp
        obtain ⟨a, b⟩ := ((h.mm.core i hi).ret p).1 hp
        have h3 := h.mm.stat p a
        rw [b] at h3
        exact ⟨a, h3⟩
      · rintro ⟨a, b⟩
        have h3 := h.mm.stat p a
        rw [b] at h3
        rcases g.who h hq a with e | e | ⟨c, hc, e⟩
        · rw [e] at h3; exact nope h3 rfl
        · rw [e] at h3; exact nope h3 rfl
        · exact ⟨_, List.getElem_mem hc, by rw [← cAt_elem hc]; exact ((h.mm.core c hc).ret p).2 ⟨a, e⟩⟩
  · rw [← List.length_append]
    refine pl1_is ?_ fun p => ?_
    · refine List.nodup_append.2 ⟨(h.qs.q 0 (.inl rfl)).nodup, (h.qs.q 1 (.inr rfl)).nodup, fun a ha b hb e => ?_⟩
      subst e
      exact h.qs.apart a ha hb
    · rw [List.mem_append]
      constructor
      · intro hp
        have hin : InN s.1 p ∧ o p = .shared := hp.elim (h.qs.inn 0 p (.inl rfl)) (h.qs.inn 1 p (.inr rfl))
        have h3 := h.mm.stat p hin.1
        rw [hin.2] at h3
        exact ⟨hin.1, h3⟩
      · rintro ⟨a, b⟩
        have h3 := h.mm.stat p a
        rw [b] at h3
        rcases g.who h hq a with e | e | ⟨c, hc, e⟩
        · rw [e] at h3; exact nope h3 rfl
        · obtain ⟨q, hq2, hm⟩ := h.qs.mem p a e
          rcases hq2 with e2 | e2 <;> subst e2
          · exact .inl hm
          · exact .inr hm
        · rw [e] at h3; exact nope h3 rfl
end
end Go.Proofs.YtpobngddiifdpaaGreat.V

set_option linter.unusedSimpArgs false
set_option linter.unusedVariables false
namespace Go.Proofs.YtpobngddiifdpaaGreat.V
open Go Go.RowKit Go.Proofs.YtpobngddiifdpaaGreat.Hz
set_option maxRecDepth 100000

theorem tail_snoc {n : Int} {f : Int → Int} : ∀ {P : List Int}, (P ++ [n]).tail.map f = (if P = [] then P.tail.map f else P.tail.map f ++ [f n])
  | [] => rfl
  | x :: P => by
    rw [if_neg (by simp)]
    show (P ++ [n]).map f = P.map f ++ [f n]
    rw [List.map_append]; rfl
theorem items_from {m : Me} (hf : Fits m) : ∀ (L : List Int) {P : List Int} {p : Int} {f : Nat}, L ≠ [] → Chn m p L → (P ++ L).Nodup → (∀ x ∈ L, InN m x) → L.length ≤ f → itemsF m f p P (P.tail.map (vl m)) = some ((P ++ L).tail.map (vl m))
  | [], _, _, _, h, _, _, _, _ => absurd rfl h
  | n :: L, P, p, f, _, hc, hnd, hin, hl => by
    obtain ⟨f, rfl⟩ : ∃ g, f = g + 1 := ⟨f - 1, by rw [List.length_cons] at hl; omega⟩
    have hn := hin n (List.mem_cons_self ..)
    have e : p = n := hc.1
    subst e
    have ha1 : nI m.1 (atI p 1) = nx m p := by rw [atI_cell (by decide) hn hf]; rfl
    have ha3 : nI m.1 (atI p 3) = vl m p := by rw [atI_cell (by decide) hn hf]; rfl
    have hnot : p ∉ P := fun h => (List.nodup_append.1 hnd).2.2 p h p (List.mem_cons_self ..) rfl
    unfold itemsF
    rw [if_pos ⟨hn.1, hn.2, hnot⟩, ha1, ha3]
    cases L with
    | nil =>
      rw [if_pos (show idxI (nx m p) = 0 from hc.2), tail_snoc]
    | cons y L =>
      have hy := hin y (List.mem_cons_of_mem _ (List.mem_cons_self ..))
      have hy2 : idxI (nx m p) = y := hc.2.1
      rw [if_neg (by rw [hy2]; have := hy.1; omega), ← tail_snoc]
      have := items_from hf (y :: L) (P := P ++ [p]) (p := idxI (nx m p)) (f := f) (by simp) hc.2 (by rw [List.append_assoc]; exact hnd) (fun x hx => hin x (List.mem_cons_of_mem _ hx)) (by rw [List.length_cons] at hl; omega)
      rw [this, List.append_assoc]; rfl
/-- Items tell what the queue's nodes hold. -/
theorem MsI.items {T : Int} {o : OM} {s : Sy} {N : NQ} (h : MsI T o s N) {q : Int} (hq : IsQ q) : itemsI s.1 q = some (itemsQ s.1 (N q)) := by
  obtain ⟨l, hl⟩ := h.mm.list
  have hQ := h.qs.q q hq
  have hin : ∀ x ∈ N q, InN s.1 x := fun x hx => (h.qs.inn q x hq hx).1
  have hlen : (N q).length ≤ s.1.2.1.length := nodup_len _ _ hQ.nodup fun x hx => by
    have := (hin x hx).1
    have := (hin x hx).2
    omega
  exact items_from hl.fits (N q) (P := []) hQ.ne hQ.head hQ.nodup hin (by omega)
end Go.Proofs.YtpobngddiifdpaaGreat.V
