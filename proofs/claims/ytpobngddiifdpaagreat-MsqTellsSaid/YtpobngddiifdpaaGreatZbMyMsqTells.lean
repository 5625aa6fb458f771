/- MsqTells: places, which ops these are, new queues, items, and a step, are as the document says; for all right systems, cores, queues and ops. -/
import Derived.Test.YtpobngddiifdpaaGreatRows
import Derived.Test.YtpobngddiifdpaaGreatZbP0
import Derived.Test.YtpobngddiifdpaaGreatZbW4
import Derived.WalkKit
import Derived.ProofKit
import Derived.OpenShut
import Derived.ShutString
import Derived.ChangeOld
import Derived.Below
import Derived.Carry
import Derived.SizedLaws
namespace Go.Proofs.YtpobngddiifdpaaGreat.msqTells
open Go.ChangeShapes Go.WideShapes Go.ChangeAt Go.RowKit Go.Proofs.YtpobngddiifdpaaGreat.V
theorem own : ownKnob Tryz.prog.godebug = none := by kernel_rfl
theorem laid : laidOutB Tryz.prog = true := by kernel_rfl
theorem links : T.link = true := by kernel_rfl
set_option maxRecDepth 100000 in
/-- An argument that is a struct reads as data. -/
theorem open_agg {H : Type} {enc : TypeId × Value → H} {W : World} {base : Nat} {t : TypeId} {v : Value} {d : DataW H} {ps : List MemPlace} {ty : Ty} {fs : Array Field} (ht : Tryz.prog.underlying t = some (.struct fs)) (hty : (T.at t).ty = some ty)
    (hval : Value.okWide Tryz.prog W .any base t v) (hd : DataW.Trod enc Tryz.prog W 0 (fun _ => true) true t v d ps) : ∃ y : Den ty, RV (fun _ => False) W env0 v (.agg (flat ty y)) ∧ WFd ty y := by
  unfold Value.okWide at hval
  rw [ht] at hval
  obtain ⟨cs, rfl, _, _⟩ := hval
  obtain ⟨fuel, hd⟩ := hd
  obtain ⟨y, hy, wy⟩ := opens tab_ok links fuel hty hd
  exact ⟨y, ⟨cs.toList, by simp, flat_is hy⟩, wy⟩
set_option maxRecDepth 100000 in
/-- What is a slice reads as data. -/
theorem open_sl {H : Type} {enc : TypeId × Value → H} {W : World} {base : Nat} {t e : TypeId} {v : Value} {d : DataW H} {ps : List MemPlace} {ty : Ty} (ht : Tryz.prog.underlying t = some (.slice e)) (hty : (T.at t).ty = some (.sl ty))
    (hval : Value.okWide Tryz.prog W .any base t v) (hd : DataW.Trod enc Tryz.prog W 0 (fun _ => true) true t v d ps) : ∃ y : List (Den ty), RV (fun _ => False) W env0 v (.one (.sl ty y false)) ∧ ∀ x ∈ y, WFd ty x := by
  have hone : v.cells.toList = [v] := by
    unfold Value.okWide at hval
    rw [ht] at hval
    simp only [Cell.okWide, ht] at hval
    cases v <;> first | rfl | (simp [Cell.ok, ht] at hval)
  obtain ⟨fuel, hd⟩ := hd
  obtain ⟨y, hy, wy⟩ := opens tab_ok links fuel hty hd
  rw [hone] at hy
  obtain ⟨u, hu, h⟩ := hy
  obtain rfl : v = u := by simpa using hu
  exact ⟨y, ⟨h, fun e => nomatch e⟩, wy⟩
set_option linter.unusedVariables false in
set_option maxRecDepth 100000 in
theorem lifted (os : Os) (started : os.Started) (H : Type) (enc : TypeId × Value → H) :
    ReturnsInHanded {} Tryz.checked os 3 .any (Rows.msqTellsSpec.pre6 enc Tryz.prog Tryz.f3 Rows.msqTellsRow.domain false) (Rows.msqTellsSpec.post enc Tryz.prog Tryz.f3 false true false false) := by
  refine returnsInHanded_of_change_sized (C := Tryz.checked) own started (by kernel_rfl) Tryz.func3
    (ChangeSpec.witness6 (enc := enc) (C := Tryz.checked) false ⟨#[], #[.agg #[.slice none 0 0, .slice none 0 0, .bool false, .slice none 0 0, .slice none 0 0, .int .i64 0, .int .i64 0, .int .i64 0]], []⟩ 8 (by kernel_rfl) (by kernel_rfl) (by kernel_rfl) (by kernel_rfl)) ?_
  intro W base args ds gs before hval0 hW hcnd hsz0 _
  have hval : ∀ (j : Nat) t v, Tryz.f3.params[j]? = some t → args[j]? = some v → Value.okWide Tryz.prog W .any base t v := hval0
  have hW' := hW
  obtain ⟨p, q, hA0, hV, rfl, hfz, hnd⟩ := hW
  have hA : DataW.TrodAll enc Tryz.prog W 0 (fun _ => true) true Tryz.f3.params.toList args.toList ds p := hA0
  rw [Tryz.params3] at hA hval
  obtain ⟨v0, vs0, d0, ds0, p0, q0, hargs, rfl, rfl, h0, r0⟩ := trodAll_cons hA
  obtain ⟨rfl, rfl, rfl⟩ := trodAll_nil r0
  obtain rfl : args = #[v0] := by cases args; simp_all
  obtain ⟨rfl, rfl⟩ := trodVars_none hV
  obtain ⟨a0, k0, wf0⟩ := open_agg Tryz.underlying30 (show (T.at 30).ty = some (.cons tSys tR3) from rfl) (hval 0 30 v0 rfl rfl) h0
  have t0 : ∀ x ∈ p0, x.block < W.heap.size := by obtain ⟨fu, hf⟩ := h0; exact DataW.trod_lt fu _ _ _ hf
  obtain ⟨_, hsp⟩ := s_MsqTellsA a0
  refine (hsp (fun _ => False) W [v0] (fun _ h => h.elim) ⟨k0, trivial⟩).mono fun e W' ⟨u, he, hu, hB⟩ => ?_
  subst he
  obtain rfl : u = .bool true := hu
  exact ⟨_, rfl, _, _, _, [], _, [], hW', trodAll_mk1 (shut_bool Tryz.underlying4 _), (trodAll_cons_mk (Below.trod laid (by kernel_rfl) (of_decide_eq_true (by kernel_rfl)) h0 hB t0) trodAll_mk0), rfl, hB.frame _, fun h => by cases h⟩
theorem over : Rows.msqTellsRow.holds Tryz.pinned (OpenSpec.ofChange Rows.msqTellsSpec) :=
  OpenClaim.holds_of_wide 3 Tryz.f3 rfl rfl rfl rfl rfl rfl rfl ⟨rfl, rfl, rfl, rfl, rfl⟩ rfl rfl rfl rfl rfl (by kernel_rfl) Tryz.func3 (by kernel_rfl)
    (of_decide_eq_true (by kernel_rfl)) (by unfold Func.isWrapper; first | (rw [if_pos (by decide +kernel)]; kernel_rfl) | (rw [if_neg (by decide +kernel)]; exact ⟨rfl, rfl⟩))
    (fun os started H enc _ => lifted os started H enc)
end Go.Proofs.YtpobngddiifdpaaGreat.msqTells
namespace Go.Proofs.YtpobngddiifdpaaGreat
/-- The row. -/
theorem msqTells_holds : Rows.MsqTellsSaid := msqTells.over
#print axioms msqTells_holds
end Go.Proofs.YtpobngddiifdpaaGreat
