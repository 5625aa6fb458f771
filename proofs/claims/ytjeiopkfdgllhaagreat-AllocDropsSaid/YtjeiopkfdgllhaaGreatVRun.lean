/- Code and calls. -/
import Derived.Test.YtjeiopkfdgllhaaGreatVCode
namespace Go.Proofs.YtjeiopkfdgllhaaGreat.V
open Go Go.RowKit Go.Proofs.YtjeiopkfdgllhaaGreat.Hz

/-! ### What a function computes -/
def env0 : Env := ⟨fun _ => 0, fun _ => undef, fun _ => false⟩
/-- Of values that read as args the function returns one that reads as res; nothing that stood is changed. -/
def Spec (P : Program) (f : Nat) (args : List SV) (res : SV) : Prop :=
  goFunc P f = true ∧ ∀ (X : Nat → Prop) (w : World) (us : List Value), (∀ b, X b → b < w.heap.size) → RVs X w env0 us args →
    Calls P f us.toArray w fun e w' => ∃ u, e = .returned u ∧ RV X w' env0 u res ∧ Below w.heap.size w w'

/-- A call by what is known of the function: numbers and bools come back. -/
def specS (P : Program) (f : Nat) (vs : List SV) (st : St) (K : St → SV → Prop) : Prop :=
  viewVs st.mem vs fun ds => bif svsData ds then ∃ res, Spec P f ds res ∧ (bif (bif res.data then res.scalar else false) then K st res else False) else False
/-- What comes back holds data: the own rows that are handed over are given up. -/
def specD (P : Program) (f : Nat) (vs : List SV) (st : St) (K : St → SV → Prop) : Prop :=
  freezeVs st vs fun st vs => viewVs [] vs fun ds => bif svsData ds then ∃ res, Spec P f ds res ∧ (bif res.data then K st res else False) else False
/-- Functions without captures. -/
def fnsOnly : List (Int × C) → Bool
  | [] => true
  | (_, .fn _ []) :: r => fnsOnly r
  | _ => false
/-- The function returns a new map of functions. -/
def SpecM (P : Program) (f : Nat) (args : List SV) (m : List (Int × C)) : Prop :=
  goFunc P f = true ∧ ∀ (X : Nat → Prop) (w : World) (us : List Value), (∀ b, X b → b < w.heap.size) → RVs X w env0 us args →
    Calls P f us.toArray w fun e w' => ∃ g es clock, e = .returned (.map (some g)) ∧ w.heap.size ≤ g ∧ g < w'.heap.size ∧ w'.heap[g]? = some (.map es clock) ∧ RFm X w' env0 es.toList m ∧ Below w.heap.size w w'
def specM (P : Program) (f : Nat) (vs : List SV) (st : St) (K : St → SV → Prop) : Prop :=
  viewVs st.mem vs fun ds => bif svsData ds then ∃ k m, SpecM P f ds m ∧ (bif fnsOnly m then st.new k none (.fmap m) fun st => K st (.one (.map k)) else False) else False
def specCall (P : Program) (f : Nat) (vs : List SV) (st : St) (K : St → SV → Prop) : Prop := specS P f vs st K ∨ specD P f vs st K ∨ specM P f vs st K

/-- Results. -/
def resK (T : Tab) (st : St) : List ResultVar → (List SV → Prop) → Prop
  | [], K => K []
  | .tmp t :: r, K => getK st.tmps t fun v => resK T st r fun vs => K (v :: vs)
  | .cell x t :: r, K => getK st.tmps x fun v => loadAtK T t st v fun v => resK T st r fun vs => K (v :: vs)
def tupK : List SV → (List (Bool × List C) → Prop) → Prop
  | [], K => K []
  | .one c :: r, K => tupK r fun ps => K ((false, [c]) :: ps)
  | .agg cs :: r, K => tupK r fun ps => K ((true, cs) :: ps)
  | .tup _ :: _, _ => False
def oneResK (vs : List SV) (K : SV → Prop) : Prop :=
  match vs with
  | [v] => K v
  | vs => tupK vs fun ps => K (.tup ps)
def undefsK : Nat → (List SV → Prop) → Prop
  | 0, K => K []
  | n + 1, K => undefsK n fun r => K (.one .undef :: r)
/-- Up to n slots. -/
def padK : List SV → Nat → (List SV → Prop) → Prop
  | [], n, K => undefsK n K
  | v :: r, n, K => padK r (n - 1) fun r => K (v :: r)

/-- Held, so that nothing looks into it. -/
structure VHold (p : Prop) : Prop where
  out : p
/-- So many times at most. -/
def vLoop (body : (St → Prop) → St → Prop) (n : Nat) (st : St) : Prop := Nat.rec (motive := fun _ => St → Prop) (fun _ => False) (fun _ ih st => body ih st) n st
theorem vLoop_zero {body : (St → Prop) → St → Prop} {st : St} : ¬ vLoop body 0 st := by unfold vLoop; exact fun h => h
theorem vLoop_succ {body : (St → Prop) → St → Prop} {n : Nat} {st : St} : vLoop body (n + 1) st = body (vLoop body n) st := by
  unfold vLoop; rfl
/-- Code. -/
def vCode (P : Program) (T : Tab) (hd : Bool) (call : List Nat → Nat → List SV → St → (St → SV → Prop) → Prop) (F : List Nat) (b : Nat) : Code → (Exit → St → Prop) → St → Prop
  | .skip, Q, st => Q .normal st
  | .label _, Q, st => Q .normal st
  | .exit i, Q, st => Q (.exit i) st
  | .ret, Q, st => Q .ret st
  | .seq x y, Q, st => vCode P T hd call F b x (fun e st => match e with
      | .normal => vCode P T hd call F b y Q st
      | e => Q e st) st
  | .cond c x y, Q, st => match c with
    | .tmp i => getK st.tmps i fun v => match v with
      | .one (.bool c) => match c with
        | true => st.set i (.one (.bool true)) fun st => vCode P T hd call F b x Q st
        | false => st.set i (.one (.bool false)) fun st => vCode P T hd call F b y Q st
      | _ => False
    | _ => False
  | .block i x, Q, st => vCode P T hd call F b x (fun e st => match e with
      | .exit j => bif Nat.beq j i then Q .normal st else Q (.exit j) st
      | e => Q e st) st
  | .scope x, Q, st => vCode P T hd call F b x (fun e st => match e with
      | .goto _ => False
      | e => Q e st) st
  | .loop x, Q, st => ∃ rows L B n, rowsK rows st fun st => St.keep L B st fun st => VHold (vLoop (fun ih st => vCode P T hd call F b x (fun e st => match e with
      | .normal => rowsK rows st fun st => St.keep L B st ih
      | e => Q e st) st) n st)
  | .region _ ops draw, Q, st => match draw with
    | false => vOps T hd call F b ops.toList ops.toList st fun st => Q .normal st
    | true => ∃ p G, planFits ops p = true ∧ ∃ st', (match st with | ⟨t, m0, s⟩ => keepM G m0 fun m => vPlan T hd call F b ops.toList p ⟨t, m, s⟩ ⟨t, m0, s⟩ fun st => st = st') ∧ Q .normal st'
  | _, _, _ => False


def isEnd : Exit → Bool
  | .normal => true
  | .ret => true
  | _ => false
theorem isEnd_is {e : Exit} (h : isEnd e = true) : e = .normal ∨ e = .ret := by
  cases e <;> first | exact .inl rfl | exact .inr rfl | cases h
/-- A call: by what is known, or by going through the function's own code, at most so deep. -/
def vCall (P : Program) (T : Tab) (hd : Bool) : Nat → List Nat → Nat → List SV → St → (St → SV → Prop) → Prop
  | 0, _, f, vs, st, K => specCall P f vs st K
  | n + 1, F, f, vs, st, K => specCall P f vs st K ∨ ∃ (fn : Func) (c : Code) (b : Nat), P.funcs[f]? = some fn ∧ (goFunc P f = true ∧ fn.body = some c) ∧ (match st with
      | ⟨t, m, s⟩ => padK vs fn.ntmps fun ts => vCode P T hd (vCall P T hd n) F b c (fun e st => bif isEnd e then (resK T st fn.results.toList fun rs => oneResK rs fun v => match st with
        | ⟨_, m, t :: s⟩ => K ⟨t, m, s⟩ v
        | _ => False) else False) ⟨ts, m, t :: s⟩)
/-- The end of a function. -/
def endsK (T : Tab) (fn : Func) (res : SV) (e : Exit) (st : St) : Prop :=
  bif isEnd e then (resK T st fn.results.toList fun rs => oneResK rs fun v => freezeV st v fun _ v => v = res ∨ v.clean = res) else False

section
variable {X X' X0 : Nat → Prop} {w w' w0 : World} {E E' : Env} {as : Cx} {st : St} {a : Act} {P : Program} {T : Tab}

/-- Blocks are made, and nothing else. -/
theorem RE.grow (h : RE X0 w0 as E st a w) (hB : Below w.heap.size w w') : RE X0 w0 as E st a w' := by
  have hoff : Off (own X0 E st.mem) w w' := Off.ofBelow hB
  exact ⟨fun b hb => ⟨Nat.lt_of_lt_of_le (h.apart b hb).1 hB.size, (h.apart b hb).2⟩, h.belowUp hB, h.defers, h.tmps.up hoff (fun _ _ hx => hx) fun _ _ => ⟨rfl, rfl⟩, fun k bx hm => (h.mem k bx hm).up hoff (fun _ _ hx => hx) (fun _ _ => ⟨rfl, rfl⟩) ⟨rfl, rfl, rfl⟩ fun hl => hB.block _ (h.place k bx hm hl).2,
    fun k bx hm hl => ⟨(h.place k bx hm hl).1, Nat.lt_of_lt_of_le (h.place k bx hm hl).2 hB.size⟩, h.keys, h.inj, h.stk.up hoff (fun _ _ hx => hx) (fun _ _ => ⟨rfl, rfl⟩), h.prot, fun j b hb => h.prN j b (Nat.le_trans hB.size hb)⟩


/-! ### Values that are data -/
theorem C.data_says {c : C} (h : c.data = true) (k : Nat) : c.says k = false := by
  cases c with
  | fn f caps => cases caps with
    | nil => rfl
    | cons => cases h
  | _ => first | rfl | cases h
theorem allData_says : ∀ {cs : List C}, allData cs = true → ∀ k, anyC (C.says k) cs = false
  | [], _, _ => rfl
  | c :: r, h, k => by
    unfold allData at h
    cases hc : c.data with
    | false => rw [hc] at h; cases h
    | true => rw [hc] at h; rw [anyC_cons, C.data_says hc, allData_says h]; rfl
theorem SV.data_says {v : SV} (h : v.data = true) (k : Nat) : v.says k = false := by
  cases v with
  | one c => exact C.data_says h k
  | agg cs => exact allData_says h k
  | tup vs =>
    unfold SV.data at h
    unfold SV.says
    rw [List.any_eq_false]
    intro p hp
    rw [List.all_eq_true] at h
    rw [allData_says (h p hp)]; decide
theorem svsData_says : ∀ {vs : List SV}, svsData vs = true → ∀ k, tmpsSay k vs = false
  | [], _, _ => rfl
  | v :: r, h, k => by
    unfold svsData at h
    cases hv : v.data with
    | false => rw [hv] at h; cases h
    | true => rw [hv] at h; rw [tmpsSay_cons, SV.data_says hv, svsData_says h]; rfl
/-- What is data reads so, whatever the numbers of boxes stand for. -/
theorem data_env {u : Value} {v : SV} (hd : v.data = true) (h : RV X w E u v) : RV X w E' u v := h.up (Off.refl _ _) (fun _ _ hx => hx) fun j hj => by
  have := SV.data_says hd j
  simp only [this] at hj; cases hj
theorem datas_env {us : List Value} {vs : List SV} (hd : svsData vs = true) (h : RVs X w E us vs) : RVs X w E' us vs := h.up (Off.refl _ _) (fun _ _ hx => hx) fun j hj => by
  have := svsData_says hd j
  simp only [this] at hj; cases hj
theorem scalar_any {u : Value} {v : SV} (hs : v.scalar = true) (h : RV X w E u v) : RV X' w' E' u v := by
  have hc : ∀ {u : Value} {c : C}, c.scalar = true → RC X w E u c → RC X' w' E' u c := fun {u c} hs h => by
    cases c <;> first | exact h | cases hs
  have hcs : ∀ {cs : List C} {us : List Value}, cs.all C.scalar = true → RCs X w E us cs → RCs X' w' E' us cs := by
    intro cs
    induction cs with
    | nil => intro us _ h; cases us with
      | nil => trivial
      | cons => exact h.elim
    | cons c cs ih => intro us hs h; cases us with
      | nil => exact h.elim
      | cons u us =>
        rw [List.all_cons, Bool.and_eq_true] at hs
        exact ⟨hc hs.1 h.1, ih hs.2 h.2⟩
  cases v with
  | one c => exact hc hs h
  | agg cs => obtain ⟨us, e, h⟩ := h; exact ⟨us, e, hcs hs h⟩
  | tup vs =>
    obtain ⟨us, e, h⟩ := h
    refine ⟨us, e, ?_⟩
    have hs2 : (vs.all fun v => v.2.all C.scalar) = true := hs
    clear e hs
    induction vs generalizing us with
    | nil => cases us with
      | nil => trivial
      | cons => exact h.elim
    | cons p ps ih => cases us with
      | nil => exact h.elim
      | cons u us =>
        rw [List.all_cons, Bool.and_eq_true] at hs2
        have hs := hs2
        refine ⟨?_, ih us h.2 hs.2⟩
        have h1 := h.1
        unfold RP at h1 ⊢
        obtain ⟨b, cs⟩ := p
        cases b with
        | true => obtain ⟨vs, e, h1⟩ := h1; exact ⟨vs, e, hcs hs.1 h1⟩
        | false =>
          obtain ⟨c, e, h1⟩ := h1
          simp only at e
          subst e
          have hs1 := hs.1
          simp only [List.all_cons, List.all_nil, Bool.and_true] at hs1
          exact ⟨c, rfl, hc hs1 h1⟩

/-! ### Own rows looked at as data -/
theorem elemsOf_is {t : Ty} : ∀ {n : Nat} {cs : List C} {us : List Value} {K : List (Den t) → Prop}, elemsOfK t n cs K → RCs X w E us cs → ∃ l c1 c2, us = c1 ++ c2 ∧ l.length = n ∧ Chunks (DC X w t) l c1 ∧ K l
  | 0, _, us, _, hk, _ => ⟨[], [], us, rfl, rfl, rfl, hk⟩
  | n + 1, _, _, _, hk, hu => by
    obtain ⟨x, r, c1, c2, e1, h1, h2, hk⟩ := unflatK_is hk hu
    obtain ⟨l, c3, c4, e2, hl, h3, hk⟩ := elemsOf_is (n := n) hk h2
    exact ⟨x :: l, c1 ++ c3, c4, by rw [e1, e2, List.append_assoc], by rw [List.length_cons, hl], ⟨c1, c3, rfl, h1, h3⟩, hk⟩
theorem view_is {c : C} {u : Value} {K : C → Prop} (h : RE X0 w0 as E st a w) (hu : RC (own X0 E st.mem) w E u c) (hk : viewK st.mem c K) : ∃ c', K c' ∧ RC (X0) w E u c' := by
  unfold viewK at hk
  split at hk
  · rename_i k
    obtain ⟨bx, hm, hk⟩ := findK_is hk
    have hr := h.mem k bx hm
    split at hk
    · rename_i e t l
      refine ⟨_, hk, ?_, fun e => nomatch e⟩
      rw [show u = E.rv k from hu.1]
      unfold RB at hr
      cases hl : E.live k with
      | false =>
        rw [hl] at hr
        obtain ⟨hr, rfl⟩ := hr
        obtain ⟨base, e⟩ := hr
        rw [e]; exact ⟨[], SX.empty, rfl⟩
      | true =>
        rw [hl] at hr
        obtain ⟨cap, cur, e1, e2, e3, e4, e5, e6⟩ := hr
        refine ⟨_, .inl (.inr ⟨E.blk k, 0, cap, e1, ?_, (Array.getElem?_eq_some_iff.1 e2).1, e3, e4, Row.takeL (row_box e2)⟩), e6.mono fun _ _ h => DC.up (Off.refl _ _) (fun b _ hb => Or.inl hb) h⟩
        exact fun hx => (h.apart _ hx).2 k _ hm hl rfl
    · exact hk.elim
  · rename_i t l c
    exact ⟨_, hk, (hu.less fun b hb => Or.inl hb).1, fun e => nomatch e⟩
  · rename_i t
    refine ⟨_, hk, ?_, fun e => nomatch e⟩
    obtain ⟨base, e⟩ := (show Emp (own X0 E st.mem) w u from hu)
    rw [e]; exact ⟨[], SX.empty, rfl⟩
  · rename_i k off n cap t
    obtain ⟨bx, hm, hk⟩ := findK_is hk
    have hr := h.mem k bx hm
    split at hk
    · rename_i te cs
      obtain ⟨hl, vs, hB, hcs⟩ := hr
      obtain ⟨e, hnc⟩ := (show u = .slice (some ⟨E.blk k, off, none⟩) n cap ∧ n ≤ cap from hu)
      cases hcap : Nat.ble cap 4096 with
      | false => rw [hcap] at hk; exact hk.elim
      | true =>
        rw [hcap] at hk
        obtain ⟨l, c1, c2, e2, hlen, hch, hk⟩ := elemsOf_is hk ((hcs.less fun b hb => Or.inl hb : RCs X0 w E vs cs).drop off)
        have hrow : Row w (E.blk k) off c1 := by
          have := Row.dropL (n := off) (row_box hB)
          rw [Nat.zero_add, e2] at this
          exact this.left
        refine ⟨_, hk, ⟨c1, .inl <| .inr ⟨E.blk k, off, cap, by rw [hlen]; exact e, fun hx => (h.apart _ hx).2 k _ hm hl rfl, (Array.getElem?_eq_some_iff.1 hB).1, by rw [hlen]; exact hnc, Nat.le_trans (Nat.le_of_ble_eq_true hcap) (by decide), hrow⟩, hch⟩, fun e => nomatch e⟩
    · exact hk.elim
  · exact ⟨_, hk, hu.less fun b hb => Or.inl hb⟩
theorem viewL_is : ∀ {cs : List C} {us : List Value} {K : List C → Prop}, RE X0 w0 as E st a w → RCs (own X0 E st.mem) w E us cs → viewL st.mem cs K → ∃ cs', K cs' ∧ RCs (X0) w E us cs'
  | [], [], K, _, _, hk => ⟨[], hk, trivial⟩
  | c :: cs, u :: us, K, h, hu, hk => by
    unfold viewL at hk
    obtain ⟨c', hk, h1⟩ := view_is h hu.1 hk
    obtain ⟨cs', hk, h2⟩ := viewL_is h hu.2 hk
    exact ⟨_, hk, h1, h2⟩
  | [], _ :: _, _, _, hu, _ => hu.elim
  | _ :: _, [], _, _, hu, _ => hu.elim
theorem viewVs_is : ∀ {vs : List SV} {us : List Value} {K : List SV → Prop}, RE X0 w0 as E st a w → RVs (own X0 E st.mem) w E us vs → viewVs st.mem vs K → ∃ vs', K vs' ∧ RVs (X0) w E us vs'
  | [], [], K, _, _, hk => ⟨[], hk, trivial⟩
  | v :: vs, u :: us, K, h, hu, hk => by
    unfold viewVs viewV at hk
    cases v with
    | one c =>
      obtain ⟨c', hk, h1⟩ := view_is h hu.1 hk
      obtain ⟨vs', hk, h2⟩ := viewVs_is h hu.2 hk
      exact ⟨_, hk, h1, h2⟩
    | agg cs =>
      obtain ⟨us', e, hu1⟩ := hu.1
      obtain ⟨cs', hk, h1⟩ := viewL_is h hu1 hk
      obtain ⟨vs', hk, h2⟩ := viewVs_is h hu.2 hk
      exact ⟨_, hk, ⟨us', e, h1⟩, h2⟩
    | tup => exact hk.elim
  | [], _ :: _, _, _, hu, _ => hu.elim
  | _ :: _, [], _, _, hu, _ => hu.elim

theorem RPs.less {X X' : Nat → Prop} {us : List Value} {cs : List (Bool × List C)} (h : RPs X w E us cs) (hX : ∀ b, X' b → X b) : RPs X' w E us cs := h.up (Off.refl _ _) (fun b _ hx => hX b hx) fun _ _ => ⟨rfl, rfl⟩
theorem freezeT_is : ∀ {cs : List (Bool × List C)} {us : List Value} {st : St} {K : St → List (Bool × List C) → Prop}, RE X0 w0 as E st a w → RPs (own X0 E st.mem) w E us cs → freezeV.freezeT st cs K →
    ∃ st' cs', K st' cs' ∧ RE X0 w0 as E st' a w ∧ RPs (own X0 E st'.mem) w E us cs' ∧ (∀ b, own X0 E st'.mem b → own X0 E st.mem b)
  | [], [], st, K, h, _, hk => ⟨st, [], hk, h, trivial, fun _ hb => hb⟩
  | (b, cs) :: r, u :: us, st, K, h, hu, hk => by
    unfold freezeV.freezeT at hk
    have h1 := hu.1
    unfold RP at h1
    cases b with
    | true =>
      obtain ⟨vs, e, h1⟩ := h1
      obtain ⟨st1, cs', hk, p1, p2, p3, _, _⟩ := freezeL_is h h1 hk
      obtain ⟨st2, r', hk, g1, g2, g3⟩ := freezeT_is (cs := r) p1 (hu.2.less p3) hk
      exact ⟨st2, _, hk, g1, ⟨⟨vs, e, p2.less g3⟩, g2⟩, fun b hb => p3 b (g3 b hb)⟩
    | false =>
      obtain ⟨c, e, h1⟩ := h1
      simp only at e
      subst e
      obtain ⟨st1, cs', hk, p1, p2, p3, _, _⟩ := freezeL_is (us := [u]) (cs := [c]) h ⟨h1, trivial⟩ hk
      obtain ⟨st2, r', hk, g1, g2, g3⟩ := freezeT_is (cs := r) p1 (hu.2.less p3) hk
      cases cs' with
      | nil => exact p2.elim
      | cons c' cs' => cases cs' with
        | nil => exact ⟨st2, _, hk, g1, ⟨⟨c', rfl, p2.1.less g3⟩, g2⟩, fun b hb => p3 b (g3 b hb)⟩
        | cons => exact p2.2.elim
  | [], _ :: _, _, _, _, hu, _ => hu.elim
  | _ :: _, [], _, _, _, hu, _ => hu.elim
theorem freezeV_is {v : SV} {u : Value} {K : St → SV → Prop} (h : RE X0 w0 as E st a w) (hu : RV (own X0 E st.mem) w E u v) (hk : freezeV st v K) :
    ∃ st' v', K st' v' ∧ RE X0 w0 as E st' a w ∧ RV (own X0 E st'.mem) w E u v' ∧ (∀ b, own X0 E st'.mem b → own X0 E st.mem b) := by
  unfold freezeV at hk
  split at hk
  · obtain ⟨st1, c', hk, p1, p2, p3, _, _⟩ := freeze_is h hu hk
    exact ⟨st1, _, hk, p1, p2, p3⟩
  · obtain ⟨us, e, hu⟩ := hu
    obtain ⟨st1, cs', hk, p1, p2, p3, _, _⟩ := freezeL_is h hu hk
    exact ⟨st1, _, hk, p1, ⟨us, e, p2⟩, p3⟩
  · obtain ⟨us, e, hu⟩ := hu
    obtain ⟨st1, cs', hk, p1, p2, p3⟩ := freezeT_is h hu hk
    exact ⟨st1, _, hk, p1, ⟨us, e, p2⟩, p3⟩
theorem freezeVs_is : ∀ {vs : List SV} {us : List Value} {st : St} {K : St → List SV → Prop}, RE X0 w0 as E st a w → RVs (own X0 E st.mem) w E us vs → freezeVs st vs K →
    ∃ st' vs', K st' vs' ∧ RE X0 w0 as E st' a w ∧ RVs (own X0 E st'.mem) w E us vs' ∧ (∀ b, own X0 E st'.mem b → own X0 E st.mem b)
  | [], [], st, K, h, _, hk => ⟨st, [], hk, h, trivial, fun _ hb => hb⟩
  | v :: r, u :: us, st, K, h, hu, hk => by
    unfold freezeVs at hk
    obtain ⟨st1, v', hk, p1, p2, p3⟩ := freezeV_is h hu.1 hk
    obtain ⟨st2, r', hk, g1, g2, g3⟩ := freezeVs_is (vs := r) p1 (hu.2.less p3) hk
    exact ⟨st2, _, hk, g1, ⟨p2.less g3, g2⟩, fun b hb => p3 b (g3 b hb)⟩
  | [], _ :: _, _, _, _, hu, _ => hu.elim
  | _ :: _, [], _, _, _, hu, _ => hu.elim

theorem clean_is {c : C} {u : Value} (h : RC X w E u c) : RC X w E u c.clean := by
  cases c with
  | sl t l c => exact ⟨h.1, fun e => nomatch e⟩
  | emp t =>
    refine ⟨?_, fun e => nomatch e⟩
    obtain ⟨base, e⟩ := (show Emp X w u from h)
    rw [e]; exact ⟨[], SX.empty, rfl⟩
  | _ => exact h
theorem cleanL_is : ∀ {cs : List C} {us : List Value}, RCs X w E us cs → RCs X w E us (cleanL cs)
  | [], [], _ => trivial
  | _ :: _, _ :: _, h => ⟨clean_is h.1, cleanL_is h.2⟩
  | [], _ :: _, h => h.elim
  | _ :: _, [], h => h.elim
theorem cleanV_is {v : SV} {u : Value} (h : RV X w E u v) : RV X w E u v.clean := by
  cases v with
  | one c => exact clean_is h
  | agg cs => obtain ⟨us, e, h⟩ := h; exact ⟨us, e, cleanL_is h⟩
  | tup ps =>
    obtain ⟨us, e, h⟩ := h
    refine ⟨us, e, ?_⟩
    clear e
    induction ps generalizing us with
    | nil => cases us with
      | nil => trivial
      | cons => exact h.elim
    | cons p ps ih => cases us with
      | nil => exact h.elim
      | cons u us =>
        refine ⟨?_, ih us h.2⟩
        have h1 := h.1
        unfold RP at h1 ⊢
        obtain ⟨b, cs⟩ := p
        cases b with
        | true => obtain ⟨vs, e, h1⟩ := h1; exact ⟨vs, e, cleanL_is h1⟩
        | false =>
          obtain ⟨c, e, h1⟩ := h1
          simp only at e
          subst e
          exact ⟨_, rfl, clean_is h1⟩

theorem viewE1_is {c : C} {u : Value} {K : C → Prop} (hu : RC X w E u c) (hk : viewK [] c K) : ∃ c', K c' ∧ RC X w E u c' := by
  unfold viewK at hk
  split at hk
  · exact hk.elim
  · exact ⟨_, hk, hu.1, fun e => nomatch e⟩
  · rename_i t
    exact ⟨_, hk, clean_is (c := .emp t) hu⟩
  · exact hk.elim
  · exact ⟨_, hk, hu⟩
theorem viewEL_is : ∀ {cs : List C} {us : List Value} {K : List C → Prop}, RCs X w E us cs → viewL [] cs K → ∃ cs', K cs' ∧ RCs X w E us cs'
  | [], [], K, _, hk => ⟨[], hk, trivial⟩
  | c :: cs, u :: us, K, hu, hk => by
    unfold viewL at hk
    obtain ⟨c', hk, h1⟩ := viewE1_is hu.1 hk
    obtain ⟨cs', hk, h2⟩ := viewEL_is hu.2 hk
    exact ⟨_, hk, h1, h2⟩
  | [], _ :: _, _, hu, _ => hu.elim
  | _ :: _, [], _, hu, _ => hu.elim
theorem viewE_is : ∀ {vs : List SV} {us : List Value} {K : List SV → Prop}, RVs X w E us vs → viewVs [] vs K → ∃ vs', K vs' ∧ RVs X w E us vs'
  | [], [], K, _, hk => ⟨[], hk, trivial⟩
  | v :: vs, u :: us, K, hu, hk => by
    unfold viewVs viewV at hk
    cases v with
    | one c =>
      obtain ⟨c', hk, h1⟩ := viewE1_is hu.1 hk
      obtain ⟨vs', hk, h2⟩ := viewE_is hu.2 hk
      exact ⟨_, hk, h1, h2⟩
    | agg cs =>
      obtain ⟨us', e, hu1⟩ := hu.1
      obtain ⟨cs', hk, h1⟩ := viewEL_is hu1 hk
      obtain ⟨vs', hk, h2⟩ := viewE_is hu.2 hk
      exact ⟨_, hk, ⟨us', e, h1⟩, h2⟩
    | tup => exact hk.elim
  | [], _ :: _, _, hu, _ => hu.elim
  | _ :: _, [], _, hu, _ => hu.elim
theorem RFm.fns {X X' : Nat → Prop} {w w' : World} {E E' : Env} : ∀ {es : List MapEntry} {m : List (Int × C)}, fnsOnly m = true → RFm X w E es m → RFm X' w' E' es m
  | [], [], _, _ => trivial
  | _ :: _, (_, .fn _ []) :: _, h, ⟨h1, h2, h3⟩ => ⟨h1, h2, RFm.fns (show fnsOnly _ = true from h) h3⟩
  | [], _ :: _, _, h => h.elim
  | _ :: _, [], _, h => h.elim
/-- A call by what is known of the function is right. -/
theorem spec_ok {N : Nat} : CallOkF P (specCall P) as N := by
  intro f vs st K X0 w0 E a w us hNw hk h hus
  have low : ∀ {w'}, Below w.heap.size w w' → Below N w w' := fun hB => ⟨hB.os, hB.tape, hB.output, hB.size, fun k hk => hB.block k (Nat.lt_of_lt_of_le hk hNw)⟩
  rcases hk with hk | hk | hk
  · unfold specS at hk
    obtain ⟨ds, hk, hds⟩ := viewVs_is h hus hk
    cases hd : svsData ds with
    | false => rw [hd] at hk; exact hk.elim
    | true =>
      rw [hd] at hk
      obtain ⟨res, ⟨hg, hsp⟩, hk⟩ := hk
      cases hrd : res.data with
      | false => rw [hrd] at hk; exact hk.elim
      | true =>
        rw [hrd] at hk
        refine ⟨hg, ?_⟩
        cases hsc : res.scalar with
        | false => rw [hsc] at hk; exact hk.elim
        | true =>
          rw [hsc] at hk
          have hlow : ∀ b, X0 b → b < w.heap.size := fun b hx => (h.apart b hx).1
          refine (hsp X0 w us hlow (datas_env hd hds)).mono fun e w' hr => ?_
          obtain ⟨u, rfl, hu, hB⟩ := hr
          exact ⟨u, st, res, E, rfl, hk, h.grow hB, scalar_any hsc hu, low hB⟩
  · unfold specD at hk
    obtain ⟨st1, vs', hk, h1, hvs, hsub⟩ := freezeVs_is h hus hk
    obtain ⟨ds, hk, hds⟩ := viewE_is hvs hk
    cases hd : svsData ds with
    | false => rw [hd] at hk; exact hk.elim
    | true =>
      rw [hd] at hk
      obtain ⟨res, ⟨hg, hsp⟩, hk⟩ := hk
      cases hrd : res.data with
      | false => rw [hrd] at hk; exact hk.elim
      | true =>
        rw [hrd] at hk
        refine ⟨hg, ?_⟩
        have hlow : ∀ b, own X0 E st1.mem b → b < w.heap.size := by
          rintro b (hx | ⟨k, bx, hm, hl, he⟩)
          · exact (h1.apart b hx).1
          · rw [← he]; exact (h1.place k bx hm hl).2
        refine (hsp (own X0 E st1.mem) w us hlow (datas_env hd hds)).mono fun e w' hr => ?_
        obtain ⟨u, rfl, hu, hB⟩ := hr
        exact ⟨u, st1, res, E, rfl, hk, h1.grow hB, data_env hrd hu, low hB⟩
  · unfold specM at hk
    obtain ⟨ds, hk, hds⟩ := viewVs_is h hus hk
    cases hd : svsData ds with
    | false => rw [hd] at hk; exact hk.elim
    | true =>
      rw [hd] at hk
      obtain ⟨k, m, ⟨hg, hsp⟩, hk⟩ := hk
      cases hf : fnsOnly m with
      | false => rw [hf] at hk; exact hk.elim
      | true =>
        rw [hf] at hk
        refine ⟨hg, (hsp X0 w us (fun b hx => (h.apart b hx).1) (datas_env hd hds)).mono fun e w' hr => ?_⟩
        obtain ⟨g, es, clock, rfl, g1, g2, g3, g4, hB⟩ := hr
        have hk : st.new k none (.fmap m) fun st => K st (.one (.map k)) := hk
        obtain ⟨E', st', q1, q2, q3, _⟩ := RE.new (X1 := X0) (g := g) (v := undef) (l := true) h hk (h.belowUp hB) hB.size (fun b hb _ => hB.block b hb) (fun _ => ⟨.inr g1, Nat.le_trans h.below.size g1, g2⟩)
          (fun b hb => ⟨hb, fun _ e => by have := (h.apart b hb).1; omega⟩) (fun X' E'' hx hoff hag e1 e2 e3 _ _ => ⟨e3, es, clock, by rw [e1]; exact g3, RFm.fns hf g4⟩)
        exact ⟨_, st', .one (.map k), E', rfl, q1, q2, by show _ = _; rw [q3], low hB⟩

/-! ### Code -/
theorem least {p : Nat → Prop} (h : ∃ n, p n) : ∃ n, p n ∧ ∀ m, p m → n ≤ m := by
  obtain ⟨n, hn⟩ := h
  induction n using Nat.strongRecOn with
  | _ n ih =>
    by_cases c : ∃ m, m < n ∧ p m
    · obtain ⟨m, hm, hp⟩ := c
      exact ih m hm hp
    · refine ⟨n, hn, fun m hm => ?_⟩
      rcases Nat.lt_or_ge m n with d | d
      · exact absurd ⟨m, d, hm⟩ c
      · exact d
/-- And below N nothing is changed since ws. -/
def R2 (X0 : Nat → Prop) (w0 : World) (as : Cx) (N : Nat) (ws : World) (st : St) (a : Act) (w : World) : Prop := R X0 w0 as st a w ∧ Below N ws w
theorem code_is {hd : Bool} {call : List Nat → Nat → List SV → St → (St → SV → Prop) → Prop} {F : List Nat} {N : Nat} {ws : World} {b : Nat} (hT : T.ok P) (hC : CallOk P call) (hfr : ∀ ks, (∀ k ∈ ks, k ∉ F) → as.free ks) (hN : ∀ k b, k ∉ F → as.pr k b → N ≤ b) (hNs : N ≤ ws.heap.size) :
    ∀ (c : Code) (Q : Exit → St → Prop) (st : St) (a : Act) (w : World), R2 X0 w0 as N ws st a w → vCode P T hd call F b c Q st → c.wp P (fun e a w => ∃ st', Q e st' ∧ R2 X0 w0 as N ws st' a w) a w
  | .skip, Q, st, a, w, h, hk => wp_skip ⟨st, hk, h⟩
  | .label _, Q, st, a, w, h, hk => wp_label ⟨st, hk, h⟩
  | .exit i, Q, st, a, w, h, hk => wp_exit ⟨st, hk, h⟩
  | .ret, Q, st, a, w, h, hk => wp_ret ⟨st, hk, h⟩
  | .seq x y, Q, st, a, w, h, hk => by
    refine wp_seq (wp_mono (code_is hT hC hfr hN hNs x _ st a w h hk) fun e a w hq => ?_)
    obtain ⟨st', hq, h'⟩ := hq
    cases e with
    | normal => exact code_is hT hC hfr hN hNs y Q st' a w h' hq
    | _ => exact ⟨st', hq, h'⟩
  | .cond c x y, Q, st, a, w, ⟨⟨E, h⟩, hB⟩, hk => by
    unfold vCode at hk
    split at hk
    · rename_i i
      obtain ⟨v, hv, hk⟩ := getK_is hk
      split at hk
      · rename_i cb
        obtain ⟨u, hu, hr⟩ := h.tmps.at hv
        have hu2 : u = .bool cb := hr
        subst hu2
        have he : a.eval (.tmp i) = .bool cb := by
          simp only [Act.eval, Array.getD_eq_getD_getElem?]
          rw [← Array.getElem?_toList, hu]; rfl
        split at hk
        · obtain ⟨st', hk, h', _⟩ := h.reread hu (v := .one (.bool true)) rfl hk
          exact wp_cond_true he (code_is hT hC hfr hN hNs x Q st' a w ⟨⟨E, h'⟩, hB⟩ hk)
        · obtain ⟨st', hk, h', _⟩ := h.reread hu (v := .one (.bool false)) rfl hk
          exact wp_cond_false he (code_is hT hC hfr hN hNs y Q st' a w ⟨⟨E, h'⟩, hB⟩ hk)
      · exact hk.elim
    · exact hk.elim
  | .block i x, Q, st, a, w, h, hk => by
    refine wp_block (wp_mono (code_is hT hC hfr hN hNs x _ st a w h hk) fun e a w hq => ?_)
    obtain ⟨st', hq, h'⟩ := hq
    cases e with
    | exit j =>
      simp only at hq
      unfold Exit.inBlock
      simp only
      cases hj : Nat.beq j i with
      | true =>
        rw [hj] at hq
        rw [if_pos (Nat.eq_of_beq_eq_true hj)]
        exact ⟨st', hq, h'⟩
      | false =>
        rw [hj] at hq
        rw [if_neg (beq_false hj)]
        exact ⟨st', hq, h'⟩
    | _ => exact ⟨st', hq, h'⟩
  | .scope x, Q, st, a, w, h, hk => by
    refine wp_scope_straight (wp_mono (code_is hT hC hfr hN hNs x _ st a w h hk) fun e a w hq => ?_)
    obtain ⟨st', hq, h'⟩ := hq
    cases e with
    | goto l => exact hq
    | _ => exact ⟨st', hq, h'⟩
  | .loop x, Q, st, a, w, ⟨⟨E, h⟩, hB⟩, hk => by
    unfold vCode at hk
    obtain ⟨rows, L, B, n, hk⟩ := hk
    obtain ⟨E1, st1, hk, h1⟩ := rows_is h hk
    obtain ⟨st2, hk, h2⟩ := h1.keep hk
    have hk := VHold.out hk
    generalize hrec : (vLoop fun ih st => vCode P T hd call F b x (fun e st => match e with
      | .normal => rowsK rows st fun st => St.keep L B st ih
      | e => Q e st) st) = rec at *
    have hz : ∀ st, ¬ rec 0 st := fun st hs => by rw [← hrec] at hs; exact vLoop_zero hs
    have hs : ∀ n st, rec (n + 1) st → vCode P T hd call F b x (fun e st => match e with
      | .normal => rowsK rows st fun st => St.keep L B st (rec n)
      | e => Q e st) st := fun n st hs => by rw [← hrec] at hs ⊢; rw [vLoop_succ] at hs; exact hs
    clear hrec
    let I : Act → World → Prop := fun a w => ∃ n st, rec n st ∧ R2 X0 w0 as N ws st a w
    open Classical in
    let μ : Act → World → Nat := fun a w => if hI : ∃ n, ∃ st, rec n st ∧ R2 X0 w0 as N ws st a w then Classical.choose (least hI) else 0
    refine wp_loop I μ ⟨n, st2, hk, ⟨E1, h2⟩, hB⟩ fun a w hI => ?_
    have hfind : ∃ n, ∃ st, rec n st ∧ R2 X0 w0 as N ws st a w := hI
    have hμ : μ a w = Classical.choose (least hfind) := dif_pos hfind
    obtain ⟨st3, hr, h3⟩ := (Classical.choose_spec (least hfind)).1
    rw [hμ]
    cases hn : Classical.choose (least hfind) with
    | zero => rw [hn] at hr; exact absurd hr (hz st3)
    | succ m =>
      rw [hn] at hr
      refine wp_mono (code_is hT hC hfr hN hNs x _ st3 a w h3 (hs m st3 hr)) fun e a' w' hq => ?_
      obtain ⟨st', hq, h'⟩ := hq
      cases e with
      | normal =>
        obtain ⟨⟨E', h'⟩, hB'⟩ := h'
        obtain ⟨E4, st4, hq, h4⟩ := rows_is h' hq
        obtain ⟨st5, hq, h5⟩ := h4.keep hq
        have hI' : ∃ n, ∃ st, rec n st ∧ R2 X0 w0 as N ws st a' w' := ⟨m, st5, hq, ⟨E4, h5⟩, hB'⟩
        have hμ' : μ a' w' = Classical.choose (least hI') := dif_pos hI'
        refine ⟨hI', ?_⟩
        rw [hμ']
        have := (Classical.choose_spec (least hI')).2 m ⟨st5, hq, ⟨E4, h5⟩, hB'⟩
        omega
      | _ => exact ⟨st', hq, h'⟩
  | .region id ops draw, Q, st, a, w, ⟨⟨E, h⟩, hB0⟩, hk => by
    unfold vCode at hk
    split at hk
    · refine wp_region_list ?_
      have := ops_is (Q := fun e a w => ∃ st', Q e st' ∧ R2 X0 w0 as N ws st' a w) hT hC hfr hN hNs ops.toList h hB0 hk fun st' a' w' E' q1 q2 q3 => ⟨st', q1, ⟨E', q2⟩, q3⟩
      simpa using this
    · obtain ⟨p, G, hfit, st', hk, hQ⟩ := hk
      obtain ⟨t, m0, s⟩ := st
      simp only at hk
      have hk := keepM_is hk
      unfold planFits at hfit
      simp only [Bool.and_eq_true] at hfit
      obtain ⟨⟨hs, hok⟩, hlen⟩ := hfit
      have hlen := Nat.eq_of_beq_eq_true hlen
      generalize hmf : m0.filter (fun p => G.any (Nat.beq p.1)) = memf at hk
      have hsub : memf.Sublist m0 := by rw [← hmf]; exact List.filter_sublist
      have hB : Below w.heap.size w w.drew := ⟨rfl, rfl, rfl, Nat.le_refl _, fun _ _ => rfl⟩
      have hd := h.grow hB
      have hprot : RE X0 w0 (prOf as X0 E m0 memf w.drew) E ⟨t, m0, s⟩ a w.drew := hd.cx rfl (fun k bx hm hl => ⟨hd.prot k bx hm hl, fun j bj hj hlj he => (hd.inj j bj k bx (hsub.subset hj) hm hlj hl he).symm, fun _ => .inr ⟨k, bx, hm, hl, rfl⟩⟩)
        (fun k b hb => ⟨hd.prN k b hb, fun j bj hj hlj he => by have := (hd.place j bj (hsub.subset hj) hlj).2; omega, fun hlt => by omega⟩)
      have hf : RE (mayOf X0 E m0 memf) w0 ⟨as.as, fun _ _ => True⟩ E ⟨t, memf, s⟩ a w.drew := (hd.fewer (X1 := mayOf X0 E m0 memf) hd.tmps hsub fun b hb => hb).cx rfl (fun _ _ _ _ => trivial) fun _ _ _ => trivial
      have hany := plan_is (K := fun st => st = st') (R' := fun a w => R2 X0 w0 as N ws st' a w) hT hC hfr hN hNs (by simpa using hs) (fun p hp => hsub.subset hp) p (Array.replicate ops.size false) ⟨t, memf, s⟩ ⟨t, m0, s⟩ a w.drew E (by simpa using hok) rfl hf hprot (fun _ _ _ => rfl) (Nat.le_refl _) (hB0.trans ⟨hB.os, hB.tape, hB.output, hB.size, fun _ _ => rfl⟩) hk
        fun st2 a' w' E' e q qB => by
          subst e
          exact ⟨⟨E', q.cx rfl (fun k bx hm hl => (q.prot k bx hm hl).1) fun k b hb => (q.prN k b hb).1⟩, qB⟩
      refine wp_mono (Q := fun e a w => e = .normal ∧ R2 X0 w0 as N ws st' a w) ?_ fun e a w hq => ?_
      · refine wp_region_any hT.mixed (wpAny_of_G (S := Stands (mayOf X0 E m0 memf) w.drew) (H := fun _ => true) _ _ _ _ ?_)
        rw [hlen] at hany
        simpa using hany
      · obtain ⟨rfl, hq⟩ := hq
        exact ⟨st', hQ, hq⟩
  | .rangeFunc .., _, _, _, _, _, hk => hk.elim
  | .goto _, _, _, _, _, _, hk => hk.elim
  | .refuse _, _, _, _, _, _, hk => hk.elim

/-! ### Calls that go through the code -/
theorem undefsK_is : ∀ {n : Nat} {K : List SV → Prop}, undefsK n K → ∃ ts, K ts ∧ ts.length = n ∧ ∀ us : List Value, us.length = n → ∀ X w E, RVs X w E us ts
  | 0, K, hk => ⟨[], hk, rfl, fun us hu _ _ _ => by cases us with
    | nil => trivial
    | cons => cases hu⟩
  | n + 1, K, hk => by
    obtain ⟨ts, h1, h2, h3⟩ := undefsK_is (n := n) hk
    refine ⟨_, h1, by simp [h2], fun us hu X w E => ?_⟩
    cases us with
    | nil => cases hu
    | cons u us => exact ⟨trivial, h3 us (by simpa using hu) X w E⟩
theorem padK_is : ∀ {vs : List SV} {n : Nat} {K : List SV → Prop} {us : List Value}, padK vs n K → RVs X w E us vs → ∃ ts, K ts ∧ RVs X w E (us ++ List.replicate (n - us.length) undef) ts
  | [], n, K, us, hk, h => by
    obtain ⟨ts, h1, h2, h3⟩ := undefsK_is hk
    cases us with
    | nil => exact ⟨ts, h1, by rw [List.nil_append]; exact h3 _ (by simp) _ _ _⟩
    | cons => exact h.elim
  | v :: vs, n, K, us, hk, h => by
    cases us with
    | nil => exact h.elim
    | cons u us =>
      obtain ⟨ts, h1, h2⟩ := padK_is (vs := vs) (n := n - 1) hk h.2
      refine ⟨_, h1, h.1, ?_⟩
      rw [List.length_cons, Nat.sub_add_eq, Nat.sub_right_comm]
      exact h2
theorem init_tmps {us : List Value} {n : Nat} : (us.toArray ++ Array.replicate (n - us.toArray.size) undef).toList = us ++ List.replicate (n - us.length) undef := by simp

/-- The results of a function. -/
def resVals (P : Program) (w : World) (a : Act) : List ResultVar → List Value → Prop
  | [], [] => True
  | .tmp t :: r, v :: vs => a.tmps.getD t undef = v ∧ resVals P w a r vs
  | .cell x t :: r, v :: vs => (∃ ad, a.tmps.getD x undef = .pointer (some ad) ∧ (loadVar t ad).run P w = .ok v w) ∧ resVals P w a r vs
  | _, _ => False
theorem res_is (hT : T.ok P) : ∀ {rs : List ResultVar} {K : List SV → Prop}, RE X0 w0 as E st a w → resK T st rs K → ∃ vs us, K vs ∧ RVs (own X0 E st.mem) w E us vs ∧ resVals P w a rs us
  | [], K, h, hk => ⟨[], [], hk, trivial, trivial⟩
  | .tmp t :: r, K, h, hk => by
    unfold resK at hk
    obtain ⟨v, hv, hk⟩ := getK_is hk
    obtain ⟨u, hu, hr⟩ := h.tmps.at hv
    obtain ⟨vs, us, h1, h2, h3⟩ := res_is hT h hk
    refine ⟨_, u :: us, h1, ⟨hr, h2⟩, ?_, h3⟩
    simp only [Array.getD_eq_getD_getElem?]
    rw [← Array.getElem?_toList, hu]; rfl
  | .cell x t :: r, K, h, hk => by
    unfold resK at hk
    obtain ⟨v, hv, hk⟩ := getK_is hk
    obtain ⟨u, hu, hr⟩ := h.tmps.at hv
    have hx : a.eval (.tmp x) = u := by
      simp only [Act.eval, Array.getD_eq_getD_getElem?]
      rw [← Array.getElem?_toList, hu]; rfl
    obtain ⟨v', u', hk, hv', hy⟩ := loadAt_is (o := ⟨none, .load t (.tmp x), 0, "", #[], none⟩) (t := t) (x := .tmp x) hT rfl h (by rw [hx]; exact hr) hk
    obtain ⟨vs, us, h1, h2, h3⟩ := res_is hT h hk
    refine ⟨_, u' :: us, h1, ⟨hv', h2⟩, ?_, h3⟩
    have hy := hy w fun _ _ _ => rfl
    unfold Yields execOp at hy
    simp only [Instr.loadAt, Sem.run_bind, hx] at hy
    cases u with
    | pointer ad =>
      cases ad with
      | none => simp [Instr.sureAddr] at hy
      | some ad =>
        refine ⟨ad, hx, ?_⟩
        simp only [Instr.sureAddr, Sem.run_pure, Result.andThen_ok] at hy
        cases hl : (loadVar t ad).run P w with
        | halt => rw [hl] at hy; cases hy
        | ok v2 w2 =>
          rw [hl] at hy
          simp only [Result.andThen_ok] at hy
          injection hy with e1 e2
          injection e1 with e1
          rw [e1, e2]
    | _ => simp [Instr.sureAddr] at hy

theorem res_run : ∀ {rs : List ResultVar} {us : List Value}, resVals P w a rs us → (rs.mapM fun
    | .tmp t => pure (a.tmps.getD t undef)
    | .cell x t => do loadVar t (← asAddr (a.tmps.getD x undef)) : Sem (List Value)).run P w = .ok us w
  | [], [], _ => by simp [List.mapM_nil]
  | .tmp t :: r, u :: us, h => by
    rw [List.mapM_cons]
    have h2 := res_run h.2
    simp only [Sem.run_bind, Sem.run_pure, Result.andThen_ok, h2, h.1]
  | .cell x t :: r, u :: us, h => by
    rw [List.mapM_cons]
    have h2 := res_run h.2
    obtain ⟨⟨ad, h3, h4⟩, _⟩ := h
    have h5 : (asAddr (a.tmps.getD x undef)).run P w = .ok ad w := by rw [h3]; rfl
    simp only [Sem.run_bind, Sem.run_pure, Result.andThen_ok, h2, h5, h4]
  | [], _ :: _, h => h.elim
  | .tmp _ :: _, [], h => h.elim
  | .cell _ _ :: _, [], h => h.elim
theorem tupK_is : ∀ {vs : List SV} {us : List Value} {K : List (Bool × List C) → Prop}, tupK vs K → RVs X w E us vs → ∃ ps, K ps ∧ RPs X w E us ps
  | [], [], K, hk, _ => ⟨[], hk, trivial⟩
  | .one c :: r, u :: us, K, hk, h => by
    obtain ⟨ps, h1, h2⟩ := tupK_is (vs := r) hk h.2
    exact ⟨_, h1, ⟨c, rfl, h.1⟩, h2⟩
  | .agg cs :: r, u :: us, K, hk, h => by
    obtain ⟨ps, h1, h2⟩ := tupK_is (vs := r) hk h.2
    exact ⟨_, h1, h.1, h2⟩
  | .tup _ :: _, _ :: _, _, hk, _ => hk.elim
  | [], _ :: _, _, _, h => h.elim
  | _ :: _, [], _, _, h => h.elim
theorem oneRes_is {vs : List SV} {us : List Value} {K : SV → Prop} (hk : oneResK vs K) (h : RVs X w E us vs) : ∃ v, K v ∧ RV X w E (if h : us.toArray.size = 1 then us.toArray[0] else .tuple us.toArray) v := by
  unfold oneResK at hk
  split at hk
  · rename_i v
    cases us with
    | nil => exact h.elim
    | cons u us => cases us with
      | nil => exact ⟨v, hk, h.1⟩
      | cons => exact h.2.elim
  · rename_i hne
    obtain ⟨ps, h1, h2⟩ := tupK_is hk h
    refine ⟨_, h1, us, ?_, h2⟩
    rw [dif_neg]
    intro hs
    cases us with
    | nil => cases hs
    | cons u us => cases us with
      | nil => cases vs with
        | nil => exact h.elim
        | cons v vs => cases vs with
          | nil => exact hne v rfl
          | cons => exact h.2.elim
      | cons => simp at hs
theorem results_is {fn : Func} {K : SV → Prop} (hT : T.ok P) (h : RE X0 w0 as E st a w) (hk : resK T st fn.results.toList fun rs => oneResK rs K) : ∃ v u, K v ∧ RV (own X0 E st.mem) w E u v ∧ (results fn a.tmps).run P w = .ok u w := by
  obtain ⟨vs, us, hk, h1, h2⟩ := res_is hT h hk
  obtain ⟨v, hk, hv⟩ := oneRes_is hk h1
  refine ⟨v, _, hk, hv, ?_⟩
  unfold results
  rw [Array.mapM_eq_mapM_toList]
  simp only [map_eq_pure_bind]
  rw [Sem.run_bind, Sem.run_bind]
  erw [res_run h2]
  simp

/-- A call is right. -/
theorem call_ok {hd : Bool} (hT : T.ok P) : ∀ n, CallOk P (vCall P T hd n)
  | 0 => fun F as N hfr hN f vs st K X0 w0 E a w us hNw hk h hus => spec_ok f vs st K X0 w0 E a w us hNw hk h hus
  | n + 1 => fun F as N hfr hN f vs st K X0 w0 E a w us hNw hk h hus => by
    rcases hk with hk | ⟨fn, c, b, hfn, ⟨hg, hb⟩, hk⟩
    · exact spec_ok f vs st K X0 w0 E a w us hNw hk h hus
    · refine ⟨hg, calls_of_wp hfn hb ?_⟩
      obtain ⟨t, m, s⟩ := st
      simp only at hk
      obtain ⟨ts, hk, hts⟩ := padK_is hk hus
      have h2 : RE X0 w0 ⟨a.tmps :: as.as, as.pr⟩ E ⟨ts, m, t :: s⟩ { tmps := us.toArray ++ Array.replicate (fn.ntmps - us.toArray.size) undef, defers := [] } w :=
        ⟨h.apart, h.below, rfl, by rw [init_tmps]; exact hts, h.mem, h.place, h.keys, h.inj, ⟨h.tmps, h.stk⟩, h.prot, h.prN⟩
      refine wp_mono (code_is (as := ⟨a.tmps :: as.as, as.pr⟩) (N := N) (ws := w) hT (call_ok hT n) hfr hN hNw c _ _ _ w ⟨⟨E, h2⟩, Below.refl _ _⟩ hk) fun e a' w' hq => ?_
      obtain ⟨st', hq, ⟨E', h'⟩, hBN⟩ := hq
      have he : isEnd e = true := by
        cases hie : isEnd e with
        | true => rfl
        | false => simp only [hie] at hq; exact hq.elim
      simp only [he, cond_true] at hq
      have he := isEnd_is he
      obtain ⟨v, u, hq, hv, hrun⟩ := results_is hT h' hq
      have key : a'.defers = [] ∧ ∃ v, (results fn a'.tmps).run P w' = .ok v w' ∧ ∃ u st' v' E', Ending.returned v = .returned u ∧ K st' v' ∧ RE X0 w0 as E' st' a w' ∧ RV (own X0 E' st'.mem) w' E' u v' ∧ Below N w w' := by
        refine ⟨h'.defers, u, hrun, ?_⟩
        obtain ⟨t1, m1, s1⟩ := st'
        cases s1 with
        | nil => exact hq.elim
        | cons t2 s2 =>
          exact ⟨u, ⟨t2, m1, s2⟩, v, E', rfl, hq, ⟨h'.apart, h'.below, h.defers, h'.stk.1, h'.mem, h'.place, h'.keys, h'.inj, h'.stk.2, h'.prot, h'.prN⟩, hv, hBN⟩
      rcases he with rfl | rfl
      · exact key
      · exact key
/-- What a function computes, out of its code. -/
theorem spec_introH (hd : Bool) (hT : T.ok P) {f : Nat} {fn : Func} {c : Code} {args : List SV} {res : SV} (n : Nat) (hfn : P.funcs[f]? = some fn) (hb : fn.body = some c) (hg : goFunc P f = true) (hr : res.data = true)
    (hk : padK args fn.ntmps fun ts => vCode P T hd (vCall P T hd n) [] 0 c (endsK T fn res) ⟨ts, [], []⟩) : Spec P f args res := by
  refine ⟨hg, fun X w us hX hus => calls_of_wp hfn hb ?_⟩
  obtain ⟨ts, hk, hts⟩ := padK_is hk hus
  have hown : ∀ b, own X env0 [] b → X b := by
    rintro b (hx | ⟨k, bx, hm, _⟩)
    · exact hx
    · cases hm
  have h2 : RE X w ⟨[], fun _ _ => True⟩ env0 ⟨ts, [], []⟩ { tmps := us.toArray ++ Array.replicate (fn.ntmps - us.toArray.size) undef, defers := [] } w :=
    ⟨fun b hb => ⟨hX b hb, fun k bx hm => (by cases hm)⟩, Below.refl _ _, rfl, by rw [init_tmps]; exact hts.less hown, fun k bx hm => (by cases hm), fun k bx hm => (by cases hm), List.Pairwise.nil, fun k bx _ _ hm => (by cases hm), trivial, fun _ _ _ _ => trivial, fun _ _ _ => trivial⟩
  refine wp_mono (code_is (N := 0) (ws := w) hT (call_ok hT n) (fun _ _ _ _ _ _ _ => trivial) (fun _ _ _ _ => Nat.zero_le _) (Nat.zero_le _) c _ _ _ w ⟨⟨env0, h2⟩, Below.refl _ _⟩ hk) fun e a' w' hq => ?_
  obtain ⟨st', hq, ⟨E', h'⟩, _⟩ := hq
  unfold endsK at hq
  have he : isEnd e = true := by
    cases hie : isEnd e with
    | true => rfl
    | false => simp only [hie] at hq; exact hq.elim
  simp only [he, cond_true] at hq
  have he := isEnd_is he
  obtain ⟨v, u, hq, hv, hrun⟩ := results_is hT h' hq
  obtain ⟨st2, v', hq, h3, hv', _⟩ := freezeV_is h' hv hq
  have hfin : RV X w' E' u res := by
    have hX' : ∀ b, X b → own X E' st2.mem b := fun b hb => .inl hb
    rcases hq with rfl | rfl
    · exact hv'.less hX'
    · exact cleanV_is (hv'.less hX')
  have key : a'.defers = [] ∧ ∃ v, (results fn a'.tmps).run P w' = .ok v w' ∧ ∃ u, Ending.returned v = .returned u ∧ RV X w' env0 u res ∧ Below w.heap.size w w' :=
    ⟨h'.defers, u, hrun, u, rfl, data_env hr hfin, h'.below⟩
  rcases he with rfl | rfl
  · exact key
  · exact key
/-- The end of a function that returns a map. -/
def endsM (T : Tab) (fn : Func) (m : List (Int × C)) (e : Exit) (st : St) : Prop :=
  bif isEnd e then (resK T st fn.results.toList fun rs => oneResK rs fun v => match v with
    | .one (.map k) => findK st.mem k fun b => match b with
      | .fmap m' => m' = m
      | _ => False
    | _ => False) else False
theorem specM_introH (hd : Bool) (hT : T.ok P) {f : Nat} {fn : Func} {c : Code} {args : List SV} {m : List (Int × C)} (n : Nat) (hfn : P.funcs[f]? = some fn) (hb : fn.body = some c) (hg : goFunc P f = true) (hr : fnsOnly m = true)
    (hk : padK args fn.ntmps fun ts => vCode P T hd (vCall P T hd n) [] 0 c (endsM T fn m) ⟨ts, [], []⟩) : SpecM P f args m := by
  refine ⟨hg, fun X w us hX hus => calls_of_wp hfn hb ?_⟩
  obtain ⟨ts, hk, hts⟩ := padK_is hk hus
  have hown : ∀ b, own X env0 [] b → X b := by
    rintro b (hx | ⟨k, bx, hm, _⟩)
    · exact hx
    · cases hm
  have h2 : RE X w ⟨[], fun _ _ => True⟩ env0 ⟨ts, [], []⟩ { tmps := us.toArray ++ Array.replicate (fn.ntmps - us.toArray.size) undef, defers := [] } w :=
    ⟨fun b hb => ⟨hX b hb, fun k bx hm => (by cases hm)⟩, Below.refl _ _, rfl, by rw [init_tmps]; exact hts.less hown, fun k bx hm => (by cases hm), fun k bx hm => (by cases hm), List.Pairwise.nil, fun k bx _ _ hm => (by cases hm), trivial, fun _ _ _ _ => trivial, fun _ _ _ => trivial⟩
  refine wp_mono (code_is (N := 0) (ws := w) hT (call_ok hT n) (fun _ _ _ _ _ _ _ => trivial) (fun _ _ _ _ => Nat.zero_le _) (Nat.zero_le _) c _ _ _ w ⟨⟨env0, h2⟩, Below.refl _ _⟩ hk) fun e a' w' hq => ?_
  obtain ⟨st', hq, ⟨E', h'⟩, _⟩ := hq
  unfold endsM at hq
  have he : isEnd e = true := by
    cases hie : isEnd e with
    | true => rfl
    | false => simp only [hie] at hq; exact hq.elim
  simp only [he, cond_true] at hq
  have he := isEnd_is he
  obtain ⟨v, u, hq, hv, hrun⟩ := results_is hT h' hq
  split at hq
  · rename_i k
    obtain ⟨bx, hm, hq⟩ := findK_is hq
    split at hq
    · rename_i m'
      subst hq
      obtain ⟨hl, es, clock, g3, g4⟩ := h'.mem k _ hm
      have hp := h'.place k _ hm hl
      have hu : u = .map (some (E'.blk k)) := hv
      have key : a'.defers = [] ∧ ∃ v, (results fn a'.tmps).run P w' = .ok v w' ∧ ∃ g es clock, Ending.returned v = .returned (.map (some g)) ∧ w.heap.size ≤ g ∧ g < w'.heap.size ∧ w'.heap[g]? = some (.map es clock) ∧ RFm X w' env0 es.toList m' ∧ Below w.heap.size w w' :=
        ⟨h'.defers, u, hrun, E'.blk k, es, clock, by rw [hu], hp.1, hp.2, g3, RFm.fns hr g4, h'.below⟩
      rcases he with rfl | rfl
      · exact key
      · exact key
    · exact hq.elim
  · exact hq.elim
theorem spec_intro (hT : T.ok P) {f : Nat} {fn : Func} {c : Code} {args : List SV} {res : SV} (n : Nat) (hfn : P.funcs[f]? = some fn) (hb : fn.body = some c) (hg : goFunc P f = true) (hr : res.data = true)
    (hk : padK args fn.ntmps fun ts => vCode P T false (vCall P T false n) [] 0 c (endsK T fn res) ⟨ts, [], []⟩) : Spec P f args res := spec_introH false hT n hfn hb hg hr hk
theorem specM_intro (hT : T.ok P) {f : Nat} {fn : Func} {c : Code} {args : List SV} {m : List (Int × C)} (n : Nat) (hfn : P.funcs[f]? = some fn) (hb : fn.body = some c) (hg : goFunc P f = true) (hr : fnsOnly m = true)
    (hk : padK args fn.ntmps fun ts => vCode P T false (vCall P T false n) [] 0 c (endsM T fn m) ⟨ts, [], []⟩) : SpecM P f args m := specM_introH false hT n hfn hb hg hr hk
end
end Go.Proofs.YtjeiopkfdgllhaaGreat.V
