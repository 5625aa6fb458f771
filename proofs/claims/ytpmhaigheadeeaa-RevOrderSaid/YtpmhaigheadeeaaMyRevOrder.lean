/- For every two names, size 1, 2, 4, 8 or 16, and other bucket: of two names of one bucket no key of another bucket lies between; no condition. -/
import Derived.Test.YtpmhaigheadeeaaRows
import Derived.Test.YtpmhaigheadeeaaRvLawsC
import Derived.WalkKit
import Derived.ProofKit
import Derived.OpenShut
import Derived.ShutString
import Derived.ChangeOld
import Derived.Below
import Derived.SizedLaws
import Derived.Lib.SmallJoins
namespace Go.Proofs.Ytpmhaigheadeeaa.revOrder
open Go.ChangeShapes Go.WideShapes Go.ChangeAt Go.RowKit Go.Joins
open Go.ChangeMaps (open_string shut_string)
theorem own : ownKnob Try.prog.godebug = none := by kernel_rfl
theorem cells36 : Try.prog.cellsOf 36 = 4 := by kernel_rfl
set_option linter.unusedVariables false in
set_option maxRecDepth 100000 in
theorem lifted (os : Os) (started : os.Started) (H : Type) (enc : TypeId × Value → H) :
    ReturnsInHanded {} Try.checked os 10 .any (Rows.revOrderSpec.pre6 enc Try.prog Try.f10 Rows.revOrderRow.domain false) (Rows.revOrderSpec.post enc Try.prog Try.f10 false true false false) := by
  refine returnsInHanded_of_change_sized (C := Try.checked) own started (by kernel_rfl) Try.func10
    (ChangeSpec.witness6 (enc := enc) (C := Try.checked) false ⟨#[], #[.agg #[.int .u16 0, .int .u16 0, .int .u8 0, .int .u8 0]], []⟩ 8 (by kernel_rfl) (by kernel_rfl) (by kernel_rfl) (by kernel_rfl)) ?_
  intro W base args ds gs before hval0 hW hcnd hsz0 _
  have hval : ∀ (j : Nat) t v, Try.f10.params[j]? = some t → args[j]? = some v → Value.okWide Try.prog W .any base t v := hval0
  have hW' := hW
  obtain ⟨p, q, hA0, hV, rfl, hfz, hnd⟩ := hW
  have hA : DataW.TrodAll enc Try.prog W 0 (fun _ => true) true Try.f10.params.toList args.toList ds p := hA0
  rw [Try.params10] at hA hval
  obtain ⟨v0, d0, rfl, rfl, h0⟩ := trodAll_one hA
  obtain ⟨rfl, rfl⟩ := trodVars_none hV
  obtain ⟨c0, c1, c2, c3, y0, y1, y2, y3, m, rfl, rfl, rfl, hy0, hy1, hy2, hy3⟩ := open_agg4 Try.underlying36 (by kernel_rfl) cells36 (hval 0 36 v0 rfl rfl) h0
  obtain ⟨a0, e0, rfl, w0⟩ := DataW.trod_int Try.underlying28 hy0
  obtain ⟨a1, e1, rfl, w1⟩ := DataW.trod_int Try.underlying28 hy1
  obtain ⟨a2, e2, rfl, w2⟩ := DataW.trod_int Try.underlying5 hy2
  obtain ⟨a3, e3, rfl, w3⟩ := DataW.trod_int Try.underlying5 hy3
  simp at e0 e1 e2 e3
  subst e0 e1 e2 e3
  clear hA0 hval0
  simp only [List.append_nil] at hW'
  have structReads : ∀ (W' : World) (sp : Nat → Bool), DataW.Trod enc Try.prog W' 0 sp true 36 (.agg #[.int .u16 a0, .int .u16 a1, .int .u8 a2, .int .u8 a3]) (.agg [.lit (.int .u16 a0), .lit (.int .u16 a1), .lit (.int .u8 a2), .lit (.int .u8 a3)]) [] := fun W' sp =>
    shut_agg4 (y0 := (.lit (.int .u16 a0), [])) (y1 := (.lit (.int .u16 a1), [])) (y2 := (.lit (.int .u8 a2), [])) (y3 := (.lit (.int .u8 a3), [])) Try.underlying36 (by kernel_rfl) cells36 ⟨1, by simp [DataW.trod, Try.underlying28, w0]⟩ ⟨1, by simp [DataW.trod, Try.underlying28, w1]⟩ ⟨1, by simp [DataW.trod, Try.underlying5, w2]⟩ ⟨1, by simp [DataW.trod, Try.underlying5, w3]⟩
  have b0 : 0 ≤ a0 ∧ a0 ≤ 65535 := by have h := w0; simp [Lit.wf, IntKind.min, IntKind.max, IntKind.bits, IntKind.signed] at h; omega
  have b1 : 0 ≤ a1 ∧ a1 ≤ 65535 := by have h := w1; simp [Lit.wf, IntKind.min, IntKind.max, IntKind.bits, IntKind.signed] at h; omega
  have b2 : 0 ≤ a2 ∧ a2 ≤ 255 := by have h := w2; simp [Lit.wf, IntKind.min, IntKind.max, IntKind.bits, IntKind.signed] at h; omega
  have b3 : 0 ≤ a3 ∧ a3 ≤ 255 := by have h := w3; simp [Lit.wf, IntKind.min, IntKind.max, IntKind.bits, IntKind.signed] at h; omega
  refine (RvLawsC.revOrder_any a0 a1 a2 a3 W b0.1 b0.2 b1.1 b1.2 b2.1 b2.2 b3.1 b3.2).mono fun e W' ⟨he, bel⟩ => ?_
  subst he
  exact ⟨_, rfl, _, _, _, [], _, [], hW', trodAll_mk1 (shut_bool Try.underlying4 _), trodAll_mk1 (structReads _ _), rfl, bel.frame _, fun h => by cases h⟩
theorem over : Rows.revOrderRow.holds Try.pinned (OpenSpec.ofChange Rows.revOrderSpec) :=
  OpenClaim.holds_of_wide 10 Try.f10 rfl rfl rfl rfl rfl rfl rfl ⟨rfl, rfl, rfl, rfl, rfl⟩ rfl rfl rfl rfl rfl (by kernel_rfl) Try.func10 (by kernel_rfl)
    (of_decide_eq_true (by kernel_rfl)) (by unfold Func.isWrapper; first | (rw [if_pos (by decide +kernel)]; kernel_rfl) | (rw [if_neg (by decide +kernel)]; exact ⟨rfl, rfl⟩))
    (fun os started H enc _ => lifted os started H enc)
end Go.Proofs.Ytpmhaigheadeeaa.revOrder
namespace Go.Proofs.Ytpmhaigheadeeaa
/-- The row. -/
theorem revOrder_holds : Rows.RevOrderSaid := revOrder.over
#print axioms revOrder_holds
end Go.Proofs.Ytpmhaigheadeeaa
