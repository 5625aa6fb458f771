/- Regions that draw their order, walked along a plan: where two steps may come next, both ways. -/
import Derived.Test.YtjeiopkfdgllhaaGreatRun
namespace Go.Proofs.YtjeiopkfdgllhaaGreat.Hz
open Go Go.RowKit

section
variable {P : Program} {ops : Array Oper} {Q : Exit → Act → World → Prop} {md : Region.Mode} {S : World → Prop}

/-- The ways through a region. -/
inductive Plan where
  | done
  | take (i : Nat) (p : Plan)
  | one (i : Nat) (p : Plan)
  | two (i j : Nat) (p q : Plan)

def Plan.len : Plan → Nat
  | .done => 0
  | .take _ p => p.len + 1
  | .one _ p => p.len + 1
  | .two _ _ p _ => p.len + 1

def wpPlan (P : Program) (ops : Array Oper) (Q : Exit → Act → World → Prop) (S : World → Prop) : Plan → Act → World → Prop
  | .done, a, w => Q .normal a w
  | .take i p, a, w => ∃ o v, ops[i]? = some o ∧ YieldsIf P ops S o v a ∧ S w ∧ wpPlan P ops Q S p (a.put o.dst v) w
  | .one i p, a, w => wpOp P ops Q i (fun a' w' => (S w → S w') ∧ wpPlan P ops Q S p a' w') a w
  | .two i j p q, a, w => wpOp P ops Q i (fun a' w' => (S w → S w') ∧ wpPlan P ops Q S p a' w') a w ∧ wpOp P ops Q j (fun a' w' => (S w → S w') ∧ wpPlan P ops Q S q a' w') a w

def planOk (md : Region.Mode) (ops : Array Oper) : Plan → Array Bool → Bool
  | .done, listed => Region.ready md ops listed == []
  | .take i p, listed => Region.free md ops listed i && (Region.ready md ops listed).contains i && planOk md ops p (listed.setIfInBounds i true)
  | .one i p, listed => Region.ready md ops listed == [i] && planOk md ops p (listed.setIfInBounds i true)
  | .two i j p q, listed => Region.ready md ops listed == [i, j] && p.len == q.len && planOk md ops p (listed.setIfInBounds i true) && planOk md ops q (listed.setIfInBounds j true)

theorem wpAnyG_plan (hs : Region.noSelect ops = true) (hQ : ∀ c (a : Act) d v w, Q (.panic c) (a.put d v) w → Q (.panic c) a w) :
    ∀ (p : Plan) (listed : Array Bool) (a : Act) (w : World), planOk md ops p listed = true → wpPlan P ops Q S p a w → wpAnyG P md ops Q S (fun _ => true) p.len listed a w
  | .done, listed, a, w, hok, h => ⟨by simpa [planOk] using hok, h⟩
  | .take i p, listed, a, w, hok, h => by
    simp only [planOk, Bool.and_eq_true, List.contains_iff_mem] at hok
    obtain ⟨⟨hf, hr⟩, h2⟩ := hok
    obtain ⟨o, v, ho, hy, hS, h⟩ := h
    exact wpAnyG_first ho (Region.noSelect_spec hs) (fun c a w => hQ c a o.dst v w) (fun j oj hj hji => .inr fun w w' hk hw => hk rfl hw) p.len listed a w (Region.free_spec ho hf) hr hy hS (wpAnyG_plan hs hQ p _ _ _ h2 h)
  | .one i p, listed, a, w, hok, h => by
    simp only [planOk, Bool.and_eq_true, beq_iff_eq] at hok
    obtain ⟨hr, h2⟩ := hok
    refine ⟨fun h0 => (by rw [hr] at h0; cases h0), fun j hj => ?_⟩
    rw [hr] at hj
    obtain rfl : j = i := by simpa using hj
    exact wpOp_mono (fun a' w' h3 => ⟨fun _ => h3.1, wpAnyG_plan hs hQ p _ _ _ h2 h3.2⟩) h
  | .two i j p q, listed, a, w, hok, h => by
    simp only [planOk, Bool.and_eq_true, beq_iff_eq] at hok
    obtain ⟨⟨⟨hr, hl⟩, h2⟩, h3⟩ := hok
    refine ⟨fun h0 => (by rw [hr] at h0; cases h0), fun k hk => ?_⟩
    rw [hr] at hk
    simp only [List.mem_cons, List.not_mem_nil, or_false] at hk
    rcases hk with rfl | rfl
    · exact wpOp_mono (fun a' w' h4 => ⟨fun _ => h4.1, wpAnyG_plan hs hQ p _ _ _ h2 h4.2⟩) h.1
    · exact wpOp_mono (fun a' w' h4 => ⟨fun _ => h4.1, by show wpAnyG P md ops Q S (fun _ => true) p.len _ _ _; rw [hl]; exact wpAnyG_plan hs hQ q _ _ _ h3 h4.2⟩) h.2

/-- A region that draws, by a plan; what is to be said behind it: R. -/
theorem wp_region_plan {id : Nat} {a : Act} {w : World} (G : Nat → Prop) (p : Plan) (R : Act → World → Prop) (hm : P.follows .mixedOrders = true) (hs : Region.noSelect ops = true)
    (hok : planOk .any ops p (Array.replicate ops.size false) = true) (hlen : p.len = ops.size)
    (h : ∀ wd, Mod (fun _ => False) w wd → wd.heap.size = w.heap.size → AgreeB G w wd → wpPlan P ops (fun e a w => e = .normal ∧ R a w) (AgreeB G w) p a wd)
    (hR : ∀ a w, R a w → Q .normal a w) : (Code.region id ops true).wp P Q a w := by
  refine Code.wp_mono (Q := fun e a w => e = .normal ∧ R a w) (fun e a w hq => by obtain ⟨rfl, hq⟩ := hq; exact hR _ _ hq) ?_
  refine wp_region_any hm (wpAny_of_G (S := AgreeB G w) (H := fun _ => true) _ _ _ _ ?_)
  have h2 := wpAnyG_plan hs (fun c a d v w hq => by cases hq.1) p _ _ _ hok (h _ (Mod.drew w) rfl (fun _ _ _ => rfl))
  rw [hlen] at h2
  exact h2

/-- The same, where no two steps may come next. -/
theorem wp_region_plan1 {id : Nat} {a : Act} {w : World} (G : Nat → Prop) (p : Plan) (hm : P.follows .mixedOrders = true) (hs : Region.noSelect ops = true)
    (hok : planOk .any ops p (Array.replicate ops.size false) = true) (hlen : p.len = ops.size)
    (hQ : ∀ c (a : Act) d v w, Q (.panic c) (a.put d v) w → Q (.panic c) a w)
    (h : ∀ wd, Mod (fun _ => False) w wd → wd.heap.size = w.heap.size → AgreeB G w wd → wpPlan P ops Q (AgreeB G w) p a wd) : (Code.region id ops true).wp P Q a w := by
  refine wp_region_any hm (wpAny_of_G (S := AgreeB G w) (H := fun _ => true) _ _ _ _ ?_)
  have h2 := wpAnyG_plan hs hQ p _ _ _ hok (h _ (Mod.drew w) rfl (fun _ _ _ => rfl))
  rw [hlen] at h2
  exact h2
theorem pl_take {i : Nat} {p : Plan} {a : Act} {w : World} (o : Oper) (v : Value) (d : Option Tmp) (ho : ops[i]? = some o) (hd : o.dst = d) (hw : Region.wanted o (yielded ops a.tmps) = true)
    (hy : ∀ w, S w → (execOp a.eval o).run P w = .ok (.value v) w) (hS : S w) (h : wpPlan P ops Q S p (a.put d v) w) : wpPlan P ops Q S (.take i p) a w := by
  subst hd
  exact ⟨o, v, ho, .inl ⟨hw, hy⟩, hS, h⟩
theorem pl_op {i : Nat} {p : Plan} {a : Act} {w : World} (o : Oper) (d : Option Tmp) (ho : ops[i]? = some o) (hd : o.dst = d) (hw : Region.wanted o (yielded ops a.tmps) = true)
    (h : ∀ K : Act → World → Prop, (∀ v w', (S w → S w') → wpPlan P ops Q S p (a.put d v) w' → K (a.put o.dst v) w') → o.wp P a w K Q) : wpOp P ops Q i (fun a' w' => (S w → S w') ∧ wpPlan P ops Q S p a' w') a w :=
  wpOp_step ho fun K hK => by
    rw [if_pos hw]
    exact h K fun v w' h1 h2 => hK _ _ ⟨h1, by subst hd; exact h2⟩
theorem pl_one {i : Nat} {p : Plan} {a : Act} {w : World} (h : wpOp P ops Q i (fun a' w' => (S w → S w') ∧ wpPlan P ops Q S p a' w') a w) : wpPlan P ops Q S (.one i p) a w := h
theorem pl_two {i j : Nat} {p q : Plan} {a : Act} {w : World} (h : wpOp P ops Q i (fun a' w' => (S w → S w') ∧ wpPlan P ops Q S p a' w') a w) (k : wpOp P ops Q j (fun a' w' => (S w → S w') ∧ wpPlan P ops Q S q a' w') a w) :
    wpPlan P ops Q S (.two i j p q) a w := ⟨h, k⟩
theorem pl_done {a : Act} {w : World} (h : Q .normal a w) : wpPlan P ops Q S .done a w := h
end
end Go.Proofs.YtjeiopkfdgllhaaGreat.Hz
