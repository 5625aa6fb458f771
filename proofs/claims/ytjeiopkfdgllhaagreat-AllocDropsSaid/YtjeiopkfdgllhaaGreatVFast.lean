/- The same again by recursors, so that what is left over of a step is the same term for the elaborator and for the kernel. -/
import Derived.Test.YtjeiopkfdgllhaaGreatVRun
namespace Go.Proofs.YtjeiopkfdgllhaaGreat.V
open Go Go.RowKit Go.Proofs.YtjeiopkfdgllhaaGreat.Hz

section
variable (P : Program) (T : Tab) (hd : Bool) (call : List Nat → Nat → List SV → St → (St → SV → Prop) → Prop) (F : List Nat) (b : Nat) (ops : List Oper)
def opF (o : Oper) (_ : List Oper) (ih : St → (St → Prop) → Prop) (st : St) (K : St → Prop) : Prop := guardK ops o st fun run st => match run with
      | true => bif hits F o st then False else vOp T hd (call F) b o st fun st v => st.put o.dst v fun st => ih st K
      | false => st.put o.dst (.tup []) fun st => ih st K
def vOpsF (l : List Oper) : St → (St → Prop) → Prop :=
  List.rec (motive := fun _ => St → (St → Prop) → Prop) (fun st K => K st)
    (opF T hd call F b ops) l
theorem vOpsF_eq (l : List Oper) : vOpsF T hd call F b ops l = vOps T hd call F b ops l := by
  induction l with
  | nil => rfl
  | cons o r ih =>
    funext st K
    show (guardK ops o st fun run st => match run with
      | true => bif hits F o st then False else vOp T hd (call F) b o st fun st v => st.put o.dst v fun st => vOpsF T hd call F b ops r st K
      | false => st.put o.dst (.tup []) fun st => vOpsF T hd call F b ops r st K) = _
    rw [ih]
    rfl
abbrev Pn := St → St → (St → Prop) → Prop
def takeF (i : Nat) (_ : VPlan) (ih : Pn) : Pn := fun sf st K => getK ops i fun o => guardK ops o sf fun run sf => guardK ops o st fun run' st => match run, run' with
      | true, true => vRead T hd o sf fun vf => vRead T hd o st fun v => sf.put o.dst vf fun sf => st.put o.dst v fun st => ih sf st K
      | false, false => sf.put o.dst (.tup []) fun sf => st.put o.dst (.tup []) fun st => ih sf st K
      | _, _ => True
def reckF (i : Nat) (_ : VPlan) (ih : Pn) : Pn := fun sf st K => getK ops i fun o => bif worldless o.op then guardK ops o st fun run st => match run with
      | true => reckK T hd o st fun st v => sf.put o.dst (.one .undef) fun sf => st.put o.dst v fun st => ih sf st K
      | false => sf.put o.dst (.one .undef) fun sf => st.put o.dst (.tup []) fun st => ih sf st K
      else False
def oneF (i : Nat) (_ : VPlan) (ih : Pn) : Pn := fun sf st K => vPlan.stepK T hd call F b ops i sf st (fun sf st => ih sf st K)
def twoF (i j : Nat) (_ _ : VPlan) (ih ih2 : Pn) : Pn := fun sf st K => vPlan.stepK T hd call F b ops i sf st (fun sf st => ih sf st K) ∧ vPlan.stepK T hd call F b ops j sf st (fun sf st => ih2 sf st K)
def threeF (i j k : Nat) (_ _ _ : VPlan) (ih ih2 ih3 : Pn) : Pn := fun sf st K => vPlan.stepK T hd call F b ops i sf st (fun sf st => ih sf st K) ∧ vPlan.stepK T hd call F b ops j sf st (fun sf st => ih2 sf st K) ∧ vPlan.stepK T hd call F b ops k sf st (fun sf st => ih3 sf st K)
def vPlanF (p : VPlan) : Pn :=
  VPlan.rec (motive := fun _ => Pn) (fun _ st K => K st) (takeF T hd ops) (reckF T hd ops) (oneF T hd call F b ops) (twoF T hd call F b ops) (threeF T hd call F b ops) p
theorem vPlanF_eq (p : VPlan) : vPlanF T hd call F b ops p = vPlan T hd call F b ops p := by
  induction p with
  | done => rfl
  | take i p ih =>
    funext sf st K
    show (getK ops i fun o => guardK ops o sf fun run sf => guardK ops o st fun run' st => match run, run' with
      | true, true => vRead T hd o sf fun vf => vRead T hd o st fun v => sf.put o.dst vf fun sf => st.put o.dst v fun st => vPlanF T hd call F b ops p sf st K
      | false, false => sf.put o.dst (.tup []) fun sf => st.put o.dst (.tup []) fun st => vPlanF T hd call F b ops p sf st K
      | _, _ => True) = _
    rw [ih]
    rfl
  | reck i p ih =>
    funext sf st K
    show (getK ops i fun o => bif worldless o.op then guardK ops o st fun run st => match run with
      | true => reckK T hd o st fun st v => sf.put o.dst (.one .undef) fun sf => st.put o.dst v fun st => vPlanF T hd call F b ops p sf st K
      | false => sf.put o.dst (.one .undef) fun sf => st.put o.dst (.tup []) fun st => vPlanF T hd call F b ops p sf st K
      else False) = _
    rw [ih]
    rfl
  | one i p ih =>
    funext sf st K
    show vPlan.stepK T hd call F b ops i sf st (fun sf st => vPlanF T hd call F b ops p sf st K) = _
    rw [ih]
    rfl
  | two i j p q ih ih2 =>
    funext sf st K
    show (vPlan.stepK T hd call F b ops i sf st (fun sf st => vPlanF T hd call F b ops p sf st K) ∧ vPlan.stepK T hd call F b ops j sf st (fun sf st => vPlanF T hd call F b ops q sf st K)) = _
    rw [ih, ih2]
    rfl
  | three i j k p q r ih ih2 ih3 =>
    funext sf st K
    show (vPlan.stepK T hd call F b ops i sf st (fun sf st => vPlanF T hd call F b ops p sf st K) ∧ vPlan.stepK T hd call F b ops j sf st (fun sf st => vPlanF T hd call F b ops q sf st K) ∧ vPlan.stepK T hd call F b ops k sf st (fun sf st => vPlanF T hd call F b ops r sf st K)) = _
    rw [ih, ih2, ih3]
    rfl
def condF (c : Operand) (x y : (Exit → St → Prop) → St → Prop) (Q : Exit → St → Prop) (st : St) : Prop := match c with
  | .tmp i => getK st.tmps i fun v => match v with
    | .one (.bool c) => match c with
      | true => st.set i (.one (.bool true)) fun st => x Q st
      | false => st.set i (.one (.bool false)) fun st => y Q st
    | _ => False
  | _ => False
def regionF (ops : Array Oper) (draw : Bool) (Q : Exit → St → Prop) (st : St) : Prop := match draw with
  | false => vOpsF T hd call F b ops.toList ops.toList st fun st => Q .normal st
  | true => ∃ p G, planFits ops p = true ∧ ∃ st', (match st with | ⟨t, m0, s⟩ => keepM G m0 fun m => vPlanF T hd call F b ops.toList p ⟨t, m, s⟩ ⟨t, m0, s⟩ fun st => st = st') ∧ Q .normal st'
abbrev Mn := (Exit → St → Prop) → St → Prop
def skipF : Mn := fun Q st => Q .normal st
def exitF (i : Nat) : Mn := fun Q st => Q (.exit i) st
def retF : Mn := fun Q st => Q .ret st
def seqF (_ _ : Code) (x y : Mn) : Mn := fun Q st => x (fun e st => match e with
      | .normal => y Q st
      | e => Q e st) st
def blockF (i : Nat) (_ : Code) (x : Mn) : Mn := fun Q st => x (fun e st => match e with
      | .exit j => bif Nat.beq j i then Q .normal st else Q (.exit j) st
      | e => Q e st) st
def scopeF (_ : Code) (x : Mn) : Mn := fun Q st => x (fun e st => match e with
      | .goto _ => False
      | e => Q e st) st
def loopF (_ : Code) (x : Mn) : Mn := fun Q st => ∃ rows L B n, rowsK rows st fun st => St.keep L B st fun st => VHold (vLoop (fun ih st => x (fun e st => match e with
      | .normal => rowsK rows st fun st => St.keep L B st ih
      | e => Q e st) st) n st)
def vCodeF (c : Code) : (Exit → St → Prop) → St → Prop :=
  Code.rec (motive := fun _ => (Exit → St → Prop) → St → Prop)
    (skip := skipF) (label := fun _ => skipF) (exit := exitF) (ret := retF) (seq := seqF) (cond := fun c _ _ => condF c) (block := blockF) (scope := scopeF) (loop := loopF)
    (region := fun _ => regionF T hd call F b) (rangeFunc := fun _ _ _ _ _ _ _ _ => False) (goto := fun _ _ _ => False)
    (refuse := fun _ _ _ => False) c
theorem vCodeF_eq (c : Code) : vCodeF T hd call F b c = vCode P T hd call F b c := by
  induction c with
  | seq x y ih ih2 =>
    funext Q st
    show vCodeF T hd call F b x (fun e st => match e with
      | .normal => vCodeF T hd call F b y Q st
      | e => Q e st) st = _
    rw [ih, ih2]
    rfl
  | cond c x y ih ih2 =>
    funext Q st
    show condF c (vCodeF T hd call F b x) (vCodeF T hd call F b y) Q st = _
    rw [ih, ih2]
    rfl
  | block i x ih =>
    funext Q st
    show vCodeF T hd call F b x (fun e st => match e with
      | .exit j => bif Nat.beq j i then Q .normal st else Q (.exit j) st
      | e => Q e st) st = _
    rw [ih]
    rfl
  | scope x ih =>
    funext Q st
    show vCodeF T hd call F b x (fun e st => match e with
      | .goto _ => False
      | e => Q e st) st = _
    rw [ih]
    rfl
  | loop x ih =>
    funext Q st
    show (∃ rows L B n, rowsK rows st fun st => St.keep L B st fun st => VHold (vLoop (fun i st => vCodeF T hd call F b x (fun e st => match e with
      | .normal => rowsK rows st fun st => St.keep L B st i
      | e => Q e st) st) n st)) = _
    rw [ih]
    rfl
  | region id ops draw =>
    funext Q st
    show regionF T hd call F b ops draw Q st = _
    unfold regionF
    simp only [vOpsF_eq, vPlanF_eq]
    cases draw <;> rfl
  | _ => rfl
end
def vCallF (P : Program) (T : Tab) (hd : Bool) (n : Nat) : List Nat → Nat → List SV → St → (St → SV → Prop) → Prop :=
  Nat.rec (motive := fun _ => List Nat → Nat → List SV → St → (St → SV → Prop) → Prop)
    (fun _ f vs st K => specCall P f vs st K)
    (fun _ ih F f vs st K => specCall P f vs st K ∨ ∃ (fn : Func) (c : Code) (b : Nat), P.funcs[f]? = some fn ∧ (goFunc P f = true ∧ fn.body = some c) ∧ (match st with
      | ⟨t, m, s⟩ => padK vs fn.ntmps fun ts => vCodeF T hd ih F b c (fun e st => bif isEnd e then (resK T st fn.results.toList fun rs => oneResK rs fun v => match st with
        | ⟨_, m, t :: s⟩ => K ⟨t, m, s⟩ v
        | _ => False) else False) ⟨ts, m, t :: s⟩)) n
theorem vCallF_eq (P : Program) (T : Tab) (hd : Bool) (n : Nat) : vCallF P T hd n = vCall P T hd n := by
  induction n with
  | zero => rfl
  | succ n ih =>
    funext F f vs st K
    show (specCall P f vs st K ∨ ∃ (fn : Func) (c : Code) (b : Nat), P.funcs[f]? = some fn ∧ (goFunc P f = true ∧ fn.body = some c) ∧ (match st with
      | ⟨t, m, s⟩ => padK vs fn.ntmps fun ts => vCodeF T hd (vCallF P T hd n) F b c (fun e st => bif isEnd e then (resK T st fn.results.toList fun rs => oneResK rs fun v => match st with
        | ⟨_, m, t :: s⟩ => K ⟨t, m, s⟩ v
        | _ => False) else False) ⟨ts, m, t :: s⟩)) = _
    rw [ih]
    simp only [vCodeF_eq P]
    rfl
section
variable {P : Program} {T : Tab}
theorem spec_introF (hd : Bool) (hT : T.ok P) {f : Nat} {fn : Func} {c : Code} {args : List SV} {res : SV} (n : Nat) (hfn : P.funcs[f]? = some fn) (hb : fn.body = some c) (hg : goFunc P f = true) (hr : res.data = true)
    (hk : padK args fn.ntmps fun ts => vCodeF T hd (vCallF P T hd n) [] 0 c (endsK T fn res) ⟨ts, [], []⟩) : Spec P f args res :=
  spec_introH hd hT n hfn hb hg hr (by rw [vCallF_eq] at hk; simp only [vCodeF_eq P] at hk; exact hk)
theorem specM_introF (hd : Bool) (hT : T.ok P) {f : Nat} {fn : Func} {c : Code} {args : List SV} {m : List (Int × C)} (n : Nat) (hfn : P.funcs[f]? = some fn) (hb : fn.body = some c) (hg : goFunc P f = true) (hr : fnsOnly m = true)
    (hk : padK args fn.ntmps fun ts => vCodeF T hd (vCallF P T hd n) [] 0 c (endsM T fn m) ⟨ts, [], []⟩) : SpecM P f args m :=
  specM_introH hd hT n hfn hb hg hr (by rw [vCallF_eq] at hk; simp only [vCodeF_eq P] at hk; exact hk)
end
end Go.Proofs.YtjeiopkfdgllhaaGreat.V
