/- MsqEnds: whatever cores put into two queues, and take out, in any order of steps, if each core then steps alone until it is at nothing, no more than 1000 steps each: each comes to nothing; every node is in the free list, in a queue or kept for later, and counts are right; each tail is at its last node; for all cores, nodes and picks. -/
import Derived.Test.YtpobngddiifdpaaGreatRows
import Derived.Test.YtpobngddiifdpaaGreatZdP0
import Derived.Test.YtpobngddiifdpaaGreatZdT8
import Derived.WalkKit
import Derived.ProofKit
import Derived.OpenShut
import Derived.ShutString
import Derived.ChangeOld
import Derived.Below
import Derived.Carry
import Derived.SizedLaws
namespace Go.Proofs.YtpobngddiifdpaaGreat.msqEnds
open Go.ChangeShapes Go.WideShapes Go.ChangeAt Go.RowKit Go.Proofs.YtpobngddiifdpaaGreat.V
theorem own : ownKnob Tryz.prog.godebug = none := by kernel_rfl
theorem laid : laidOutB Tryz.prog = true := by kernel_rfl
theorem links : T.link = true := by kernel_rfl
set_option maxRecDepth 100000 in
/-- An argument that is a struct reads as data. -/
theorem open_agg {H : Type} {enc : TypeId × Value → H} {W : World} {base : Nat} {t : TypeId} {v : Value} {d : DataW H} {ps : List MemPlace} {ty : Ty} {fs : Array Field} (ht : Tryz.prog.underlying t = some (.struct fs)) (hty : (T.at t).ty = some ty)
    (hval : Value.okWide Tryz.prog W .any base t v) (hd : DataW.Trod enc Tryz.prog W 0 (fun _ => true) true t v d ps) : ∃ y : Den ty, RV (fun _ => False) W env0 v (.agg (flat ty y)) ∧ WFd ty y := by
  unfold Value.okWide at hval
  rw [ht] at hval
  obtain ⟨cs, rfl, _, _⟩ := hval
  obtain ⟨fuel, hd⟩ := hd
  obtain ⟨y, hy, wy⟩ := opens tab_ok links fuel hty hd
  exact ⟨y, ⟨cs.toList, by simp, flat_is hy⟩, wy⟩
set_option maxRecDepth 100000 in
/-- What is a slice reads as data. -/
theorem open_sl {H : Type} {enc : TypeId × Value → H} {W : World} {base : Nat} {t e : TypeId} {v : Value} {d : DataW H} {ps : List MemPlace} {ty : Ty} (ht : Tryz.prog.underlying t = some (.slice e)) (hty : (T.at t).ty = some (.sl ty))
    (hval : Value.okWide Tryz.prog W .any base t v) (hd : DataW.Trod enc Tryz.prog W 0 (fun _ => true) true t v d ps) : ∃ y : List (Den ty), RV (fun _ => False) W env0 v (.one (.sl ty y false)) ∧ ∀ x ∈ y, WFd ty x := by
  have hone : v.cells.toList = [v] := by
    unfold Value.okWide at hval
    rw [ht] at hval
    simp only [Cell.okWide, ht] at hval
    cases v <;> first | rfl | (simp [Cell.ok, ht] at hval)
  obtain ⟨fuel, hd⟩ := hd
  obtain ⟨y, hy, wy⟩ := opens tab_ok links fuel hty hd
  rw [hone] at hy
  obtain ⟨u, hu, h⟩ := hy
  obtain rfl : v = u := by simpa using hu
  exact ⟨y, ⟨h, fun e => nomatch e⟩, wy⟩
set_option linter.unusedVariables false in
set_option maxRecDepth 100000 in
theorem lifted (os : Os) (started : os.Started) (H : Type) (enc : TypeId × Value → H) :
    ReturnsInHanded {} Tryz.checked os 7 .any (Rows.msqEndsSpec.pre6 enc Tryz.prog Tryz.f7 Rows.msqEndsRow.domain false) (Rows.msqEndsSpec.post enc Tryz.prog Tryz.f7 false true false false) := by
  refine returnsInHanded_of_change_sized (C := Tryz.checked) own started (by kernel_rfl) Tryz.func7
    (ChangeSpec.witness6 (enc := enc) (C := Tryz.checked) false ⟨#[], #[.int .u8 0, .int .u8 0, .slice none 0 0], []⟩ 8 (by kernel_rfl) (by kernel_rfl) (by kernel_rfl) (by kernel_rfl)) ?_
  intro W base args ds gs before hval0 hW hcnd hsz0 _
  have hval : ∀ (j : Nat) t v, Tryz.f7.params[j]? = some t → args[j]? = some v → Value.okWide Tryz.prog W .any base t v := hval0
  have hW' := hW
  obtain ⟨p, q, hA0, hV, rfl, hfz, hnd⟩ := hW
  have hA : DataW.TrodAll enc Tryz.prog W 0 (fun _ => true) true Tryz.f7.params.toList args.toList ds p := hA0
  rw [Tryz.params7] at hA hval
  obtain ⟨v0, vs0, d0, ds0, p0, q0, hargs, rfl, rfl, h0, r0⟩ := trodAll_cons hA
  obtain ⟨v1, vs1, d1, ds1, p1, q1, rfl, rfl, rfl, h1, r1⟩ := trodAll_cons r0
  obtain ⟨v2, vs2, d2, ds2, p2, q2, rfl, rfl, rfl, h2, r2⟩ := trodAll_cons r1
  obtain ⟨rfl, rfl, rfl⟩ := trodAll_nil r2
  obtain rfl : args = #[v0, v1, v2] := by cases args; simp_all
  obtain ⟨rfl, rfl⟩ := trodVars_none hV
  obtain ⟨a0, rfl, rfl, rfl, w0⟩ := open_int Tryz.underlying5 (hval 0 5 v0 rfl rfl) h0
  have b0 : 0 ≤ a0 ∧ a0 ≤ 255 := by have h := w0; simp [Lit.wf, IntKind.min, IntKind.max, IntKind.bits, IntKind.signed] at h; omega
  obtain ⟨a1, rfl, rfl, rfl, w1⟩ := open_int Tryz.underlying5 (hval 1 5 v1 rfl rfl) h1
  have b1 : 0 ≤ a1 ∧ a1 ≤ 255 := by have h := w1; simp [Lit.wf, IntKind.min, IntKind.max, IntKind.bits, IntKind.signed] at h; omega
  obtain ⟨a2, k2, wf2⟩ := open_sl Tryz.underlying46 (show (T.at 46).ty = some (.sl (.int .u16)) from rfl) (hval 2 46 v2 rfl rfl) h2
  have t2 : ∀ x ∈ p2, x.block < W.heap.size := by obtain ⟨fu, hf⟩ := h2; exact DataW.trod_lt fu _ _ _ hf
  obtain ⟨_, hsp⟩ := s_MsqEnds a0 b0.1 b0.2 a1 b1.1 b1.2 a2 wf2
  refine (hsp (fun _ => False) W [.int .u8 a0, .int .u8 a1, v2] (fun _ h => h.elim) ⟨rfl, ⟨rfl, ⟨k2, trivial⟩⟩⟩).mono fun e W' ⟨u, he, hu, hB⟩ => ?_
  subst he
  obtain rfl : u = .bool true := hu
  exact ⟨_, rfl, _, _, _, [], _, [], hW', trodAll_mk1 (shut_bool Tryz.underlying4 _), (trodAll_cons_mk (shut_int Tryz.underlying5 w0) (trodAll_cons_mk (shut_int Tryz.underlying5 w1) (trodAll_cons_mk (Below.trod laid (by kernel_rfl) (of_decide_eq_true (by kernel_rfl)) h2 hB t2) trodAll_mk0))), rfl, hB.frame _, fun h => by cases h⟩
theorem over : Rows.msqEndsRow.holds Tryz.pinned (OpenSpec.ofChange Rows.msqEndsSpec) :=
  OpenClaim.holds_of_wide 7 Tryz.f7 rfl rfl rfl rfl rfl rfl rfl ⟨rfl, rfl, rfl, rfl, rfl⟩ rfl rfl rfl rfl rfl (by kernel_rfl) Tryz.func7 (by kernel_rfl)
    (of_decide_eq_true (by kernel_rfl)) (by unfold Func.isWrapper; first | (rw [if_pos (by decide +kernel)]; kernel_rfl) | (rw [if_neg (by decide +kernel)]; exact ⟨rfl, rfl⟩))
    (fun os started H enc _ => lifted os started H enc)
end Go.Proofs.YtpobngddiifdpaaGreat.msqEnds
namespace Go.Proofs.YtpobngddiifdpaaGreat
/-- The row. -/
theorem msqEnds_holds : Rows.MsqEndsSaid := msqEnds.over
#print axioms msqEnds_holds
end Go.Proofs.YtpobngddiifdpaaGreat
