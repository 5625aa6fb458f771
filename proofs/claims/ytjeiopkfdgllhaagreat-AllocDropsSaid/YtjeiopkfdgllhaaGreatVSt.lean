/- How a state goes on: a slot is set, a box is made, changed, given up. -/
import Derived.Test.YtjeiopkfdgllhaaGreatVSem
namespace Go.Proofs.YtjeiopkfdgllhaaGreat.V
open Go Go.RowKit Go.Proofs.YtjeiopkfdgllhaaGreat.Hz

section
variable {X X' X0 : Nat → Prop} {w w' w0 : World} {E E' : Env} {as : Cx} {st : St} {a : Act}

theorem RVs.len : ∀ {vs : List Value} {cs : List SV}, RVs X w E vs cs → vs.length = cs.length
  | [], [], _ => rfl
  | _ :: _, _ :: _, h => by simp [RVs.len h.2]
  | [], _ :: _, h => h.elim
  | _ :: _, [], h => h.elim
theorem RVs.at : ∀ {vs : List Value} {cs : List SV} {i : Nat} {c : SV}, RVs X w E vs cs → cs[i]? = some c → ∃ v, vs[i]? = some v ∧ RV X w E v c
  | [], [], _, _, _, hc => by simp at hc
  | v :: _, c' :: _, 0, c, h, hc => ⟨v, rfl, (show c' = c by simpa using hc) ▸ h.1⟩
  | _ :: vs, _ :: cs, i + 1, c, h, hc => by simpa using RVs.at (i := i) h.2 (by simpa using hc)
  | [], _ :: _, _, _, h, _ => h.elim
  | _ :: _, [], _, _, h, _ => h.elim
theorem RVs.set : ∀ {vs : List Value} {cs : List SV} {i : Nat} {v : Value} {c : SV}, RVs X w E vs cs → RV X w E v c → RVs X w E (vs.set i v) (cs.set i c)
  | [], [], _, _, _, _, _ => trivial
  | _ :: _, _ :: _, 0, _, _, h, hv => ⟨hv, h.2⟩
  | _ :: _, _ :: _, _ + 1, _, _, h, hv => ⟨h.1, RVs.set h.2 hv⟩
  | [], _ :: _, _, _, _, h, _ => h.elim
  | _ :: _, [], _, _, _, h, _ => h.elim
theorem RCs.len : ∀ {vs : List Value} {cs : List C}, RCs X w E vs cs → vs.length = cs.length
  | [], [], _ => rfl
  | _ :: _, _ :: _, h => by simp [RCs.len h.2]
  | [], _ :: _, h => h.elim
  | _ :: _, [], h => h.elim
theorem RCs.at : ∀ {vs : List Value} {cs : List C} {i : Nat} {c : C}, RCs X w E vs cs → cs[i]? = some c → ∃ v, vs[i]? = some v ∧ RC X w E v c
  | [], [], _, _, _, hc => by simp at hc
  | v :: _, c' :: _, 0, c, h, hc => ⟨v, rfl, (show c' = c by simpa using hc) ▸ h.1⟩
  | _ :: vs, _ :: cs, i + 1, c, h, hc => by simpa using RCs.at (i := i) h.2 (by simpa using hc)
  | [], _ :: _, _, _, h, _ => h.elim
  | _ :: _, [], _, _, h, _ => h.elim
theorem RCs.append : ∀ {vs us : List Value} {cs ds : List C}, RCs X w E vs cs → RCs X w E us ds → RCs X w E (vs ++ us) (cs ++ ds)
  | [], _, [], _, _, k => k
  | _ :: _, _, _ :: _, _, h, k => ⟨h.1, RCs.append h.2 k⟩
  | [], _, _ :: _, _, h, _ => h.elim
  | _ :: _, _, [], _, h, _ => h.elim
theorem RCs.take : ∀ {vs : List Value} {cs : List C} (n : Nat), RCs X w E vs cs → RCs X w E (vs.take n) (cs.take n)
  | _, _, 0, _ => trivial
  | [], [], _ + 1, _ => trivial
  | _ :: _, _ :: _, n + 1, h => ⟨h.1, RCs.take n h.2⟩
  | [], _ :: _, _ + 1, h => h.elim
  | _ :: _, [], _ + 1, h => h.elim
theorem RCs.drop : ∀ {vs : List Value} {cs : List C} (n : Nat), RCs X w E vs cs → RCs X w E (vs.drop n) (cs.drop n)
  | _, _, 0, h => h
  | [], [], _ + 1, _ => trivial
  | _ :: _, _ :: _, n + 1, h => RCs.drop n h.2
  | [], _ :: _, _ + 1, h => h.elim
  | _ :: _, [], _ + 1, h => h.elim
theorem RCs.split : ∀ {us : List Value} {cs ds : List C}, RCs X w E us (cs ++ ds) → ∃ a b, us = a ++ b ∧ RCs X w E a cs ∧ RCs X w E b ds
  | us, [], _, h => ⟨[], us, rfl, trivial, h⟩
  | _ :: _, _ :: _, _, h => by
    obtain ⟨a, b, e, h1, h2⟩ := RCs.split h.2
    exact ⟨_ :: a, b, by rw [e]; rfl, ⟨h.1, h1⟩, h2⟩
  | [], _ :: _, _, h => h.elim

theorem RB.up {k : Nat} {bx : Box} (h : RB X w E k bx) (hk : Off X w w') (hX : ∀ b, b < w.heap.size → X' b → X b) (hE : E.agree E' (fun j => bx.says j))
    (hs : E'.live k = E.live k ∧ E'.blk k = E.blk k ∧ E'.rv k = E.rv k) (hb : E.live k = true → w'.heap[E.blk k]? = w.heap[E.blk k]?) : RB X' w' E' k bx := by
  cases bx with
  | cells t cs =>
    obtain ⟨h1, vs, h2, h3⟩ := h
    exact ⟨by rw [hs.1]; exact h1, vs, by rw [hs.2.1, hb h1]; exact h2, h3.up hk hX hE⟩
  | row e t l =>
    unfold RB at h ⊢
    simp only [hs.1, hs.2.1, hs.2.2]
    cases hl : E.live k with
    | false => rw [hl] at h; exact ⟨h.1.up hk hX, h.2⟩
    | true =>
      rw [hl] at h
      obtain ⟨cap, cur, e1, e2, e3, e4, e5, e6⟩ := h
      exact ⟨cap, cur, e1, by rw [hb hl]; exact e2, e3, e4, e5, e6.mono fun _ _ h => DC.up hk hX h⟩
  | rowo e t l i cs =>
    obtain ⟨h1, cap, cur, us, c1, c3, e1, e2, e3, e4, e5, e6, e7, e8, e9, e10, e11, e12⟩ := h
    exact ⟨by rw [hs.1]; exact h1, cap, cur, us, c1, c3, by rw [hs.2.1, hs.2.2]; exact e1, by rw [hs.2.1, hb h1]; exact e2, e3, e4, e5, e6, e7, e8, e9, e10.up hk hX hE, e11.mono fun _ _ h => DC.up hk hX h, e12.mono fun _ _ h => DC.up hk hX h⟩
  | fmap m =>
    obtain ⟨h1, es, cl, h2, h3⟩ := h
    refine ⟨by rw [hs.1]; exact h1, es, cl, by rw [hs.2.1, hb h1]; exact h2, ?_⟩
    have key : ∀ (es : List MapEntry) (m : List (Int × C)), RFm X w E es m → E.agree E' (fun j => m.any fun p => p.2.says j) → RFm X' w' E' es m := by
      intro es
      induction es with
      | nil => intro m h _; cases m with
        | nil => trivial
        | cons => exact h.elim
      | cons e es ih => intro m h hE; cases m with
        | nil => exact h.elim
        | cons p ps => exact ⟨h.1, h.2.1.up hk hX <| hE.mono fun j hj => by simp only [List.any_cons, Bool.or_eq_true]; exact .inl hj, ih ps h.2.2 <| hE.mono fun j hj => by simp only [List.any_cons, Bool.or_eq_true]; exact .inr hj⟩
    exact key _ _ h3 hE

theorem stkSays_cons (k : Nat) (c : List SV) (cs : List (List SV)) : stkSays k (c :: cs) = (tmpsSay k c || stkSays k cs) := by
  show (bif tmpsSay k c then true else stkSays k cs) = _
  cases tmpsSay k c <;> rfl
theorem RStk.up : ∀ {as : List (Array Value)} {ts : List (List SV)}, RStk X w E as ts → Off X w w' → (∀ b, b < w.heap.size → X' b → X b) → E.agree E' (fun j => stkSays j ts) → RStk X' w' E' as ts
  | [], [], _, _, _, _ => trivial
  | _ :: _, _ :: _, h, k, hX, hE => ⟨h.1.up k hX <| hE.mono fun j hj => by simp only [stkSays_cons, Bool.or_eq_true]; exact .inl hj, RStk.up h.2 k hX <| hE.mono fun j hj => by simp only [stkSays_cons, Bool.or_eq_true]; exact .inr hj⟩
  | [], _ :: _, h, _, _, _ => h.elim
  | _ :: _, [], h, _, _, _ => h.elim

/-! ### A slot is set -/
theorem RE.set {K : St → Prop} {i : Nat} {v : SV} {u : Value} (h : RE X0 w0 as E st a w) (hu : RV (own X0 E st.mem) w E u v) (hk : st.set i v K) :
    ∃ t, K ⟨t, st.mem, st.stk⟩ ∧ t = st.tmps.set i v ∧ RE X0 w0 as E ⟨t, st.mem, st.stk⟩ (a.put (some i) u) w := by
  obtain ⟨t, m, s⟩ := st
  obtain ⟨h1, h2⟩ := setK_is hk
  exact ⟨_, h2, rfl, h.apart, h.below, h.defers, by simp only [Act.put, Array.toList_setIfInBounds]; exact h.tmps.set hu, h.mem, h.place, h.keys, h.inj, h.stk, h.prot, h.prN⟩
theorem RE.put {K : St → Prop} {d : Option Tmp} {v : SV} {u : Value} (h : RE X0 w0 as E st a w) (hu : RV (own X0 E st.mem) w E u v) (hk : st.put d v K) :
    ∃ st', K st' ∧ RE X0 w0 as E st' (a.put d u) w := by
  cases d with
  | none => exact ⟨st, hk, h⟩
  | some i => obtain ⟨t, h1, _, h2⟩ := h.set hu hk; exact ⟨_, h1, h2⟩
/-- What a slot says may be forgotten. -/
theorem RVs.forget : ∀ {vs : List Value} {cs : List SV} {i : Nat}, RVs X w E vs cs → RVs X w E vs (cs.set i (.one .undef))
  | [], [], _, _ => trivial
  | _ :: _, _ :: _, 0, h => ⟨trivial, h.2⟩
  | _ :: _, _ :: _, _ + 1, h => ⟨h.1, RVs.forget h.2⟩
  | [], _ :: _, _, h => h.elim
  | _ :: _, [], _, h => h.elim
theorem RE.forget {K : St → Prop} {d : Option Tmp} (h : RE X0 w0 as E st a w) (hk : st.put d (.one .undef) K) : ∃ t, K ⟨t, st.mem, st.stk⟩ ∧ RE X0 w0 as E ⟨t, st.mem, st.stk⟩ a w := by
  cases d with
  | none => exact ⟨st.tmps, hk, h⟩
  | some i =>
    obtain ⟨t, m, s⟩ := st
    obtain ⟨h1, h2⟩ := setK_is hk
    exact ⟨_, h2, h.apart, h.below, h.defers, h.tmps.forget, h.mem, h.place, h.keys, h.inj, h.stk, h.prot, h.prN⟩

theorem RE.cast {st' : St} (h : RE X0 w0 as E st a w) (e : st = st') : RE X0 w0 as E st' a w := e ▸ h

/-! ### A new box -/
def Env.with (E : Env) (k g : Nat) (v : Value) (l : Bool) : Env := ⟨fun j => if j = k then g else E.blk j, fun j => if j = k then v else E.rv j, fun j => if j = k then l else E.live j⟩
theorem Env.with_agree (E : Env) (k g : Nat) (v : Value) (l : Bool) {p : Nat → Bool} (hp : p k = false) : E.agree (E.with k g v l) p := fun j hj => by
  have hne : j ≠ k := fun e => by rw [e, hp] at hj; cases hj
  simp [Env.with, hne]
theorem memSays_false {k : Nat} : ∀ {m : List (Nat × Box)}, memSays k m = false → ∀ j b, (j, b) ∈ m → j ≠ k → b.says k = false
  | [], _, _, _, h, _ => by cases h
  | (i, c) :: r, h, j, b, hm, hne => by
    unfold memSays at h
    cases hb : (bif Nat.beq i k then false else c.says k) with
    | true => rw [hb] at h; cases h
    | false =>
      rw [hb] at h
      rcases List.mem_cons.1 hm with e | hm
      · obtain ⟨rfl, rfl⟩ := Prod.mk.inj e
        have : Nat.beq j k = false := by
          cases hj : Nat.beq j k with
          | true => exact absurd (Nat.eq_of_beq_eq_true hj) hne
          | false => rfl
        rw [this] at hb; exact hb
      · exact memSays_false (m := r) h j b hm hne

/-- A box is made: in a new block, in one that is given up (in X0 till now, not in X1), or in none. -/
theorem RE.new {X1 : Nat → Prop} {K : St → Prop} {k g : Nat} {d : Option Tmp} {bx : Box} {v : Value} {l : Bool} (h : RE X0 w0 as E st a w) (hk : st.new k d bx K)
    (hB : Below w0.heap.size w0 w') (hsz : w.heap.size ≤ w'.heap.size) (hold : ∀ b, b < w.heap.size → b ≠ g ∨ l = false → w'.heap[b]? = w.heap[b]?)
    (hg : l = true → (X0 g ∧ as.pr k g ∨ w.heap.size ≤ g) ∧ w0.heap.size ≤ g ∧ g < w'.heap.size) (h1 : ∀ b, X1 b → X0 b ∧ (l = true → b ≠ g))
    (hbx : ∀ X' E', (∀ b, b < w.heap.size → X' b → own X0 E st.mem b) → Off (own X0 E st.mem) w w' → E.agree E' (fun j => bx.says j) → E'.blk k = g → E'.rv k = v → E'.live k = l → (∀ b, X1 b → X' b) → (l = true → X' g) → RB X' w' E' k bx) :
    ∃ E' st', K st' ∧ RE X1 w0 as E' st' a w' ∧ E'.blk k = g ∧ E'.rv k = v ∧ E'.live k = l ∧ (k, bx) ∈ st'.mem ∧ E.agree E' (fun j => !Nat.beq j k) := by
  obtain ⟨t1, hk, h⟩ := h.forget hk
  obtain ⟨t, m, s⟩ := st
  simp only at hk h
  cases c1 : tmpsSay k t1 with
  | true => rw [c1] at hk; exact hk.elim
  | false =>
  cases c2 : memSays k m with
  | true => rw [c1, c2] at hk; exact hk.elim
  | false =>
  cases c3 : stkSays k s with
  | true => rw [c1, c2, c3] at hk; exact hk.elim
  | false =>
  cases c4 : bx.says k with
  | true => rw [c1, c2, c3, c4] at hk; exact hk.elim
  | false =>
  rw [c1, c2, c3, c4] at hk
  simp only [cond_false] at hk
  obtain ⟨m', hK, hs, hm⟩ := insK_is hk h.keys
  have hw : ∀ (p : Nat → Bool), p k = false → E.agree (E.with k g v l) p := fun p hp => E.with_agree k g v l hp
  have hown : ∀ b, b < w.heap.size → own X1 (E.with k g v l) m' b → own X0 E m b := by
    rintro b hb (hx | ⟨j, bj, hj, hl, he⟩)
    · exact .inl (h1 b hx).1
    · rcases (hm (j, bj)).1 hj with e | ⟨hj, hne⟩
      · obtain ⟨rfl, rfl⟩ := Prod.mk.inj e
        simp [Env.with] at hl he
        subst hl he
        rcases (hg rfl).1 with c | c
        · exact .inl c.1
        · omega
      · simp only at hne
        simp [Env.with, hne] at hl he
        exact .inr ⟨j, bj, hj, hl, he⟩
  have hoff : Off (own X0 E m) w w' := ⟨hsz, fun b hb hx => hold b hb (by
    cases l with
    | false => exact .inr rfl
    | true =>
      refine .inl fun e => ?_
      subst e
      rcases (hg rfl).1 with c | c
      · exact hx (.inl c.1)
      · omega)⟩
  have hne_of : ∀ j bj, (j, bj) ∈ m → j ≠ k → E.live j = true → l = true → E.blk j ≠ g := fun j bj hj _ hl hlt e => by
    rcases (hg hlt).1 with c | c
    · exact (h.apart g c.1).2 j bj hj hl e
    · have := (h.place j bj hj hl).2; omega
  refine ⟨E.with k g v l, ⟨t1, m', s⟩, hK, ⟨?_, hB, h.defers, ?_, ?_, ?_, hs, ?_, ?_, fun j bj hj hl => ?_, fun j b hb => h.prN j b (Nat.le_trans hsz hb)⟩, by simp [Env.with], by simp [Env.with], by simp [Env.with], (hm _).2 (.inl rfl), fun j hj => ?_⟩
  · intro b hb
    obtain ⟨hb0, hbg⟩ := h1 b hb
    refine ⟨Nat.lt_of_lt_of_le (h.apart b hb0).1 hsz, fun j bj hj hl => ?_⟩
    rcases (hm (j, bj)).1 hj with e | ⟨hj, hne⟩
    · obtain ⟨rfl, rfl⟩ := Prod.mk.inj e
      simp [Env.with] at hl ⊢
      exact fun e => hbg hl e.symm
    · simp only at hne
      simp [Env.with, hne] at hl ⊢
      exact (h.apart b hb0).2 j bj hj hl
  · exact h.tmps.up hoff hown (hw _ c1)
  · intro j bj hj
    rcases (hm (j, bj)).1 hj with e | ⟨hj', hne⟩
    · obtain ⟨rfl, rfl⟩ := Prod.mk.inj e
      exact hbx _ _ hown hoff (hw _ c4) (by simp [Env.with]) (by simp [Env.with]) (by simp [Env.with]) (fun b hb => .inl hb) (fun hl => .inr ⟨j, bj, hj, by simp [Env.with, hl], by simp [Env.with]⟩)
    · simp only at hne
      refine (h.mem j bj hj').up hoff hown (hw _ (memSays_false c2 j bj hj' hne)) (by simp [Env.with, hne]) fun hl => hold _ (h.place j bj hj' hl).2 ?_
      cases hlt : l with
      | false => exact .inr rfl
      | true => exact .inl (hne_of j bj hj' hne hl hlt)
  · intro j bj hj hl
    rcases (hm (j, bj)).1 hj with e | ⟨hj, hne⟩
    · obtain ⟨rfl, rfl⟩ := Prod.mk.inj e
      simp [Env.with] at hl ⊢
      exact ⟨(hg hl).2.1, (hg hl).2.2⟩
    · simp only at hne
      simp [Env.with, hne] at hl ⊢
      have := h.place j bj hj hl
      exact ⟨this.1, Nat.lt_of_lt_of_le this.2 hsz⟩
  · intro i bi j bj hi hj hli hlj he
    rcases (hm (i, bi)).1 hi with e1 | ⟨hi, hni⟩
    · obtain ⟨rfl, rfl⟩ := Prod.mk.inj e1
      rcases (hm (j, bj)).1 hj with e2 | ⟨hj, hnj⟩
      · exact (Prod.mk.inj e2).1.symm
      · simp only at hnj
        simp [Env.with, hnj] at hli hlj he
        exact absurd he.symm (hne_of j bj hj hnj hlj hli)
    · simp only at hni
      rcases (hm (j, bj)).1 hj with e2 | ⟨hj, hnj⟩
      · obtain ⟨rfl, rfl⟩ := Prod.mk.inj e2
        simp [Env.with, hni] at hli hlj he
        exact absurd he (hne_of i bi hi hni hli hlj)
      · simp only at hnj
        simp [Env.with, hni, hnj] at hli hlj he
        exact h.inj i bi j bj hi hj hli hlj he
  · exact h.stk.up hoff hown (hw _ c3)
  · rcases (hm (j, bj)).1 hj with e | ⟨hj, hne⟩
    · obtain ⟨rfl, rfl⟩ := Prod.mk.inj e
      simp [Env.with] at hl ⊢
      rcases (hg hl).1 with c | c
      · exact c.2
      · exact h.prN _ _ c
    · simp only at hne
      simp [Env.with, hne] at hl ⊢
      exact h.prot j bj hj hl
  · have hne : j ≠ k := fun e => by subst e; simp at hj
    simp [Env.with, hne]

/-! ### A box is changed -/
theorem RE.boxM {K : St → Prop} {k : Nat} {bx bx' : Box} (h : RE X0 w0 as E st a w) (hm : (k, bx) ∈ st.mem) (hl : E.live k = true) (hk : insK st.mem k bx' fun m => st.withM m K)
    (hB : Below w0.heap.size w0 w') (hsz : w.heap.size ≤ w'.heap.size) (hold : ∀ b, b < w.heap.size → b ≠ E.blk k → w'.heap[b]? = w.heap[b]?)
    (hbx : ∀ X', (∀ b, X' b → own X0 E st.mem b) → Off (own X0 E st.mem) w w' → RB X' w' E k bx') :
    ∃ st', K st' ∧ RE X0 w0 as E st' a w' ∧ (∀ b, own X0 E st'.mem b → own X0 E st.mem b) ∧ (k, bx') ∈ st'.mem ∧ (∀ j bj, (j, bj) ∈ st'.mem → ∃ b, (j, b) ∈ st.mem) := by
  obtain ⟨t, m, s⟩ := st
  obtain ⟨m', hK, hs, hm'⟩ := insK_is hk h.keys
  simp only at hm h hm'
  have hown : ∀ b, own X0 E m' b → own X0 E m b := by
    rintro b (hx | ⟨j, bj, hj, hl, he⟩)
    · exact .inl hx
    · rcases (hm' (j, bj)).1 hj with e | ⟨hj, hne⟩
      · obtain ⟨rfl, rfl⟩ := Prod.mk.inj e
        exact .inr ⟨j, bx, hm, hl, he⟩
      · exact .inr ⟨j, bj, hj, hl, he⟩
  have hin : own X0 E m (E.blk k) := .inr ⟨k, bx, hm, hl, rfl⟩
  have hoff : Off (own X0 E m) w w' := ⟨hsz, fun b hb hx => hold b hb fun e => hx (e ▸ hin)⟩
  have hag : ∀ p, E.agree E p := fun p j _ => ⟨rfl, rfl⟩
  have hne_of : ∀ j bj, (j, bj) ∈ m → j ≠ k → E.live j = true → E.blk j ≠ E.blk k := fun j bj hj hne hlj e => hne (h.inj j bj k bx hj hm hlj hl e)
  have hback : ∀ j bj, (j, bj) ∈ m' → ∃ bj', (j, bj') ∈ m := fun j bj hj => by
    rcases (hm' (j, bj)).1 hj with e | ⟨hj, _⟩
    · obtain ⟨rfl, rfl⟩ := Prod.mk.inj e; exact ⟨bx, hm⟩
    · exact ⟨bj, hj⟩
  refine ⟨⟨t, m', s⟩, hK, ⟨fun b hb => ⟨Nat.lt_of_lt_of_le (h.apart b hb).1 hsz, fun j bj hj hlj => ?_⟩, hB, h.defers, h.tmps.up hoff (fun b _ hx => hown b hx) (hag _), fun j bj hj => ?_, fun j bj hj hlj => ?_, hs, fun i bi j bj hi hj hli hlj he => ?_, h.stk.up hoff (fun b _ hx => hown b hx) (hag _), fun j bj hj hlj => (hback j bj hj).elim fun bj' hj' => h.prot j bj' hj' hlj, fun j b hb => h.prN j b (Nat.le_trans hsz hb)⟩, hown, (hm' (k, bx')).2 (.inl rfl), hback⟩
  · obtain ⟨bj', hj'⟩ := hback j bj hj
    exact (h.apart b hb).2 j bj' hj' hlj
  · rcases (hm' (j, bj)).1 hj with e | ⟨hj', hne⟩
    · obtain ⟨rfl, rfl⟩ := Prod.mk.inj e
      exact hbx _ hown hoff
    · exact (h.mem j bj hj').up hoff (fun b _ hx => hown b hx) (hag _) ⟨rfl, rfl, rfl⟩ fun hlj => hold _ (h.place j bj hj' hlj).2 (hne_of j bj hj' hne hlj)
  · obtain ⟨bj', hj'⟩ := hback j bj hj
    have := h.place j bj' hj' hlj
    exact ⟨this.1, Nat.lt_of_lt_of_le this.2 hsz⟩
  · obtain ⟨bi', hi'⟩ := hback i bi hi
    obtain ⟨bj', hj'⟩ := hback j bj hj
    exact h.inj i bi' j bj' hi' hj' hli hlj he
theorem RE.box {K : St → Prop} {k : Nat} {bx bx' : Box} (h : RE X0 w0 as E st a w) (hm : (k, bx) ∈ st.mem) (hl : E.live k = true) (hk : insK st.mem k bx' fun m => st.withM m K)
    (hB : Below w0.heap.size w0 w') (hsz : w.heap.size ≤ w'.heap.size) (hold : ∀ b, b < w.heap.size → b ≠ E.blk k → w'.heap[b]? = w.heap[b]?)
    (hbx : ∀ X', (∀ b, X' b → own X0 E st.mem b) → Off (own X0 E st.mem) w w' → RB X' w' E k bx') :
    ∃ st', K st' ∧ RE X0 w0 as E st' a w' ∧ (∀ b, own X0 E st'.mem b → own X0 E st.mem b) :=
  (h.boxM hm hl hk hB hsz hold hbx).elim fun st' h => ⟨st', h.1, h.2.1, h.2.2.1⟩

/-- A box that has no block is changed. -/
theorem RE.boxDead {K : St → Prop} {k : Nat} {bx bx' : Box} (h : RE X0 w0 as E st a w) (hm : (k, bx) ∈ st.mem) (hl : E.live k = false) (hk : insK st.mem k bx' fun m => st.withM m K)
    (hbx : ∀ X', (∀ b, X' b → own X0 E st.mem b) → RB X' w E k bx') : ∃ st', K st' ∧ RE X0 w0 as E st' a w := by
  obtain ⟨t, m, s⟩ := st
  obtain ⟨m', hK, hs, hm'⟩ := insK_is hk h.keys
  simp only at hm h hm'
  have hback : ∀ j bj, (j, bj) ∈ m' → ∃ bj', (j, bj') ∈ m := fun j bj hj => by
    rcases (hm' (j, bj)).1 hj with e | ⟨hj, _⟩
    · obtain ⟨rfl, rfl⟩ := Prod.mk.inj e; exact ⟨bx, hm⟩
    · exact ⟨bj, hj⟩
  have hown : ∀ b, own X0 E m' b → own X0 E m b := by
    rintro b (hx | ⟨j, bj, hj, hlj, he⟩)
    · exact .inl hx
    · obtain ⟨bj', hj'⟩ := hback j bj hj
      exact .inr ⟨j, bj', hj', hlj, he⟩
  have hag : ∀ p, E.agree E p := fun p j _ => ⟨rfl, rfl⟩
  have hoff := Off.refl (own X0 E m) w
  refine ⟨⟨t, m', s⟩, hK, ⟨fun b hb => ⟨(h.apart b hb).1, fun j bj hj hlj => ?_⟩, h.below, h.defers, h.tmps.up hoff (fun b _ hx => hown b hx) (hag _), fun j bj hj => ?_, fun j bj hj hlj => ?_, hs, fun i bi j bj hi hj hli hlj he => ?_, h.stk.up hoff (fun b _ hx => hown b hx) (hag _), fun j bj hj hlj => (hback j bj hj).elim fun bj' hj' => h.prot j bj' hj' hlj, h.prN⟩⟩
  · obtain ⟨bj', hj'⟩ := hback j bj hj
    exact (h.apart b hb).2 j bj' hj' hlj
  · rcases (hm' (j, bj)).1 hj with e | ⟨hj', hne⟩
    · obtain ⟨rfl, rfl⟩ := Prod.mk.inj e
      exact hbx _ hown
    · exact (h.mem j bj hj').up hoff (fun b _ hx => hown b hx) (hag _) ⟨rfl, rfl, rfl⟩ fun _ => rfl
  · obtain ⟨bj', hj'⟩ := hback j bj hj
    exact h.place j bj' hj' hlj
  · obtain ⟨bi', hi'⟩ := hback i bi hi
    obtain ⟨bj', hj'⟩ := hback j bj hj
    exact h.inj i bi' j bj' hi' hj' hli hlj he

/-! ### A row is given up -/
theorem RC.frz {u : Value} {c d : C} {k : Nat} (h : RC X w E u c) (hX : ∀ b, X' b → X b) (hd : RC X' w E (E.rv k) d) : RC X' w E u (c.frz k d) := by
  have h' : RC X' w E u c := h.up (Off.refl _ _) (fun b _ hx => hX b hx) fun j _ => ⟨rfl, rfl⟩
  cases c with
  | row j =>
    show RC X' w E u (bif Nat.beq j k then d else .row j)
    cases hj : Nat.beq j k with
    | false => exact h'
    | true =>
      obtain rfl := Nat.eq_of_beq_eq_true hj
      rw [show u = E.rv j from h.1]
      exact hd
  | elt j i sz off =>
    show RC X' w E u (bif Nat.beq j k then .undef else .elt j i sz off)
    cases hj : Nat.beq j k with
    | false => exact h'
    | true => trivial
  | _ => exact h'
theorem RCs.frz {d : C} {k : Nat} (hX : ∀ b, X' b → X b) (hd : RC X' w E (E.rv k) d) : ∀ {us : List Value} {cs : List C}, RCs X w E us cs → RCs X' w E us (frzL k d cs)
  | [], [], _ => trivial
  | _ :: _, _ :: _, h => ⟨h.1.frz hX hd, RCs.frz hX hd h.2⟩
  | [], _ :: _, h => h.elim
  | _ :: _, [], h => h.elim
theorem RPs.frz {d : C} {k : Nat} (hX : ∀ b, X' b → X b) (hd : RC X' w E (E.rv k) d) : ∀ {us : List Value} {cs : List (Bool × List C)}, RPs X w E us cs → RPs X' w E us (cs.map fun v => (v.1, frzL k d v.2))
  | [], [], _ => trivial
  | _ :: _, p :: _, h => ⟨by
      have h1 := h.1
      unfold RP at h1 ⊢
      obtain ⟨b, cs⟩ := p
      cases b with
      | true => obtain ⟨vs, e, h1⟩ := h1; exact ⟨vs, e, RCs.frz hX hd h1⟩
      | false => obtain ⟨c, e, h1⟩ := h1; simp only at e; subst e; exact ⟨c.frz k d, rfl, h1.frz hX hd⟩, RPs.frz hX hd h.2⟩
  | [], _ :: _, h => h.elim
  | _ :: _, [], h => h.elim
theorem RV.frz {d : C} {k : Nat} (hX : ∀ b, X' b → X b) (hd : RC X' w E (E.rv k) d) {u : Value} {v : SV} (h : RV X w E u v) : RV X' w E u (v.frz k d) := by
  cases v with
  | one c => exact RC.frz h hX hd
  | agg cs => obtain ⟨vs, e, h⟩ := h; exact ⟨vs, e, RCs.frz hX hd h⟩
  | tup ps => obtain ⟨vs, e, h⟩ := h; exact ⟨vs, e, RPs.frz hX hd h⟩
theorem RVs.frz {d : C} {k : Nat} (hX : ∀ b, X' b → X b) (hd : RC X' w E (E.rv k) d) : ∀ {us : List Value} {cs : List SV}, RVs X w E us cs → RVs X' w E us (cs.map (SV.frz k d))
  | [], [], _ => trivial
  | _ :: _, _ :: _, h => ⟨RV.frz hX hd h.1, RVs.frz hX hd h.2⟩
  | [], _ :: _, h => h.elim
  | _ :: _, [], h => h.elim
theorem RStk.frz {d : C} {k : Nat} (hX : ∀ b, X' b → X b) (hd : RC X' w E (E.rv k) d) : ∀ {us : List (Array Value)} {cs : List (List SV)}, RStk X w E us cs → RStk X' w E us (cs.map fun l => l.map (SV.frz k d))
  | [], [], _ => trivial
  | _ :: _, _ :: _, h => ⟨RVs.frz hX hd h.1, RStk.frz hX hd h.2⟩
  | [], _ :: _, h => h.elim
  | _ :: _, [], h => h.elim
theorem RB.frz {d : C} {k j : Nat} {bx : Box} (hX : ∀ b, X' b → X b) (hd : RC X' w E (E.rv k) d) (h : RB X w E j bx) : RB X' w E j (bx.frz k d) := by
  cases bx with
  | cells t cs => obtain ⟨h1, vs, h2, h3⟩ := h; exact ⟨h1, vs, h2, RCs.frz hX hd h3⟩
  | row e t l => exact RB.up (k := j) h (Off.refl _ _) (fun b _ hx => hX b hx) (fun _ _ => ⟨rfl, rfl⟩) ⟨rfl, rfl, rfl⟩ fun _ => rfl
  | rowo e t l i cs =>
    obtain ⟨h1, cap, cur, us, c1, c3, e1, e2, e3, e4, e5, e6, e7, e8, e9, e10, e11, e12⟩ := h
    exact ⟨h1, cap, cur, us, c1, c3, e1, e2, e3, e4, e5, e6, e7, e8, e9, RCs.frz hX hd e10, e11.mono fun _ _ h => DC.up (Off.refl _ _) (fun b _ hx => hX b hx) h, e12.mono fun _ _ h => DC.up (Off.refl _ _) (fun b _ hx => hX b hx) h⟩
  | fmap m => exact RB.up (k := j) h (Off.refl _ _) (fun b _ hx => hX b hx) (fun _ _ => ⟨rfl, rfl⟩) ⟨rfl, rfl, rfl⟩ fun _ => rfl

/-- Row k is given up: to X1, or to none. -/
theorem RE.drop {X1 : Nat → Prop} {K : St → Prop} {k : Nat} {bx : Box} {d : C} (h : RE X0 w0 as E st a w) (hm : (k, bx) ∈ st.mem) (hk : st.drop k d K)
    (h1 : ∀ b, X1 b → X0 b ∨ E.live k = true ∧ b = E.blk k)
    (hd : ∀ X', (∀ b, X' b → own X0 E st.mem b) → (E.live k = true → X' (E.blk k) → X1 (E.blk k)) → RC X' w E (E.rv k) d) :
    ∃ st', K st' ∧ RE X1 w0 as E st' a w ∧ (∀ b, own X1 E st'.mem b → own X0 E st.mem b) ∧ (∀ u c, RC (own X0 E st.mem) w E u c → RC (own X1 E st'.mem) w E u (c.frz k d)) ∧ st'.tmps = st.tmps.map (SV.frz k d) ∧ (∀ p, p ∈ st'.mem → ∃ b, (p.1, b) ∈ st.mem ∧ p.2 = b.frz k d ∧ p.1 ≠ k) ∧ RC (own X1 E st'.mem) w E (E.rv k) d := by
  obtain ⟨t, m, s⟩ := st
  obtain ⟨m1, hK, hs, hm1⟩ := remK_is hk h.keys
  have hK := mapK_is hK
  have hK := mapK_is hK
  have hK := stkMapK_is hK
  simp only at hm h
  have hmem : ∀ j bj, (j, bj) ∈ m1.map (fun p => (p.1, p.2.frz k d)) → ∃ b, (j, b) ∈ m ∧ bj = b.frz k d ∧ j ≠ k := fun j bj hj => by
    obtain ⟨p, hp, e⟩ := List.mem_map.1 hj
    obtain ⟨rfl, rfl⟩ := Prod.mk.inj e
    have := (hm1 p).1 hp
    exact ⟨p.2, this.1, rfl, this.2⟩
  have hown : ∀ b, own X1 E (m1.map fun p => (p.1, p.2.frz k d)) b → own X0 E m b := by
    rintro b (hx | ⟨j, bj, hj, hl, he⟩)
    · rcases h1 b hx with c | ⟨c, e⟩
      · exact .inl c
      · exact .inr ⟨k, bx, hm, c, e.symm⟩
    · obtain ⟨b', hj, _, _⟩ := hmem j bj hj
      exact .inr ⟨j, b', hj, hl, he⟩
  have hblk : E.live k = true → own X1 E (m1.map fun p => (p.1, p.2.frz k d)) (E.blk k) → X1 (E.blk k) := by
    rintro hl (hx | ⟨j, bj, hj, hlj, he⟩)
    · exact hx
    · obtain ⟨b', hj, _, hne⟩ := hmem j bj hj
      exact absurd (h.inj j b' k bx hj hm hlj hl he) hne
  have hdd := hd _ hown hblk
  refine ⟨⟨t.map (SV.frz k d), m1.map (fun p => (p.1, p.2.frz k d)), s.map (fun l => l.map (SV.frz k d))⟩, hK, ⟨?_, h.below, h.defers, h.tmps.frz hown hdd, ?_, ?_, ?_, ?_, h.stk.frz hown hdd, fun j bj hj hlj => (hmem j bj hj).elim fun b' hj' => h.prot j b' hj'.1 hlj, h.prN⟩, hown, fun u c hc => hc.frz hown hdd, rfl, fun p hp => hmem p.1 p.2 hp, hdd⟩
  · intro b hb
    rcases h1 b hb with c | ⟨c, e⟩
    · refine ⟨(h.apart b c).1, fun j bj hj hl => ?_⟩
      obtain ⟨b', hj, _, _⟩ := hmem j bj hj
      exact (h.apart b c).2 j b' hj hl
    · subst e
      refine ⟨(h.place k bx hm c).2, fun j bj hj hl he => ?_⟩
      obtain ⟨b', hj, _, hne⟩ := hmem j bj hj
      exact hne (h.inj j b' k bx hj hm hl c he)
  · intro j bj hj
    obtain ⟨b', hj2, rfl, _⟩ := hmem j bj hj
    exact (h.mem j b' hj2).frz hown hdd
  · intro j bj hj hl
    obtain ⟨b', hj, _, _⟩ := hmem j bj hj
    exact h.place j b' hj hl
  · unfold Sorted
    rw [List.pairwise_map]
    exact hs
  · intro i bi j bj hi hj hli hlj he
    obtain ⟨bi', hi, _, _⟩ := hmem i bi hi
    obtain ⟨bj', hj, _, _⟩ := hmem j bj hj
    exact h.inj i bi' j bj' hi hj hli hlj he
end
end Go.Proofs.YtjeiopkfdgllhaaGreat.V
