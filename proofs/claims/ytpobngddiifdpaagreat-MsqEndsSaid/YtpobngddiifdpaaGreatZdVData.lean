/- Arrays and structs of numbers held against each other. -/
import Derived.Test.YtpobngddiifdpaaGreatZdVFast
import Derived.ChangeKeysEq
import Derived.Test.YtpobngddiifdpaaGreatProg
set_option linter.unusedSimpArgs false
set_option linter.unusedVariables false
namespace Go.Proofs.YtpobngddiifdpaaGreat.V
open Go Go.RowKit Go.Proofs.YtpobngddiifdpaaGreat.Hz

section
variable {P : Program} {w : World}
theorem part_int {e : TypeId} {k : IntKind} (he : P.underlying e = some (.int k)) {xs : Array Value} {off : Nat} {v : Value} (hx : xs[off]? = some v) : (part e xs off).run P w = .ok v w := by
  simp [part, isAgg, run_underlying he, hx]
theorem guard_no {t : TypeId} (hg : P.eqGuardType P.depth t = false) (op : BinOp) (x y : Operand) (xs ys : Array Value) : (eqGuard op t x y (.agg xs) (.agg ys)).run P w = .ok () w := by
  unfold eqGuard
  cases op <;> simp [hg]
theorem ints_at {xs : List Int} {i : Nat} {n : Int} (h : xs[i]? = some n) : ((xs.map (Value.int .i64)).toArray)[i]? = some (.int .i64 n) := by simp [h]
theorem eqItems_is {e : TypeId} {k : IntKind} {d : Nat} (he : P.underlying e = some (.int k)) (xs ys : List Int) : ∀ (n s : Nat), s + n = xs.length → s + n = ys.length →
    (Op.eqItems (d + 1) e 1 (xs.map (Value.int .i64)).toArray (ys.map (Value.int .i64)).toArray (List.range' s n)).run P w = .ok (eqInts (xs.drop s) (ys.drop s)) w
  | 0, s, h1, h2 => by
    rw [List.drop_eq_nil_of_le (by omega), List.drop_eq_nil_of_le (by omega)]
    simp [Op.eqItems, eqInts]
  | n + 1, s, h1, h2 => by
    have ha : s < xs.length := by omega
    have hb : s < ys.length := by omega
    have ih := eqItems_is (d := d) he xs ys n (s + 1) (by omega) (by omega)
    rw [List.drop_eq_getElem_cons ha, List.drop_eq_getElem_cons hb]
    simp only [List.range'_succ, Op.eqItems, Sem.run_bind, Nat.mul_one, part_int he (ints_at (List.getElem?_eq_getElem ha)), part_int he (ints_at (List.getElem?_eq_getElem hb)), Result.andThen_ok, run_equalIn_int w d e .i64 k _ _ he, eqInts]
    by_cases c : xs[s] = ys[s]
    · simpa [c] using ih
    · simp [c]
theorem eqOk_arr {t e : TypeId} {n : Nat} {k : IntKind} {i : TypeInfo} (hu : P.underlying t = some (.array n e)) (he : P.underlying e = some (.int k)) (hi : P.info? e = some i) (hz : i.size = 1) (hg : P.eqGuardType P.depth t = false) : EqOk P t n := by
  intro xs ys w h1 h2
  refine ⟨fun op x y => guard_no hg op x y _ _, ?_⟩
  have hc : P.cellsOf e = 1 := by simp [Program.cellsOf, hi, hz]
  have := eqItems_is (w := w) (d := 9998) he xs ys n 0 (by omega) (by omega)
  unfold ints
  rw [run_equalIn_array w 9999 _ _ hu hi, hc, List.range_eq_range', this, List.drop_zero, List.drop_zero]

theorem eqFields_is {d : Nat} (xs ys : List Int) : ∀ (fs : List Field) (s : Nat), (∀ j f, fs[j]? = some f → f.name ≠ "_" ∧ f.offset = s + j ∧ ∃ k, P.underlying f.type = some (.int k)) → s + fs.length = xs.length → s + fs.length = ys.length →
    (Op.eqFields (d + 1) (xs.map (Value.int .i64)).toArray (ys.map (Value.int .i64)).toArray fs).run P w = .ok (eqInts (xs.drop s) (ys.drop s)) w
  | [], s, _, h1, h2 => by
    simp only [List.length_nil] at h1 h2
    rw [List.drop_eq_nil_of_le (by omega), List.drop_eq_nil_of_le (by omega)]
    simp [Op.eqFields, eqInts]
  | f :: fs, s, hf, h1, h2 => by
    simp only [List.length_cons] at h1 h2
    have ha : s < xs.length := by omega
    have hb : s < ys.length := by omega
    obtain ⟨n1, n2, k, he⟩ := hf 0 f rfl
    rw [Nat.add_zero] at n2
    have ih := eqFields_is (d := d) xs ys fs (s + 1) (fun j g hg => by
      obtain ⟨m1, m2, m3⟩ := hf (j + 1) g (by simpa using hg)
      exact ⟨m1, by omega, m3⟩) (by omega) (by omega)
    rw [List.drop_eq_getElem_cons ha, List.drop_eq_getElem_cons hb]
    simp only [Op.eqFields, ne_eq, n1, not_false_eq_true, if_true, n2, Sem.run_bind, part_int he (ints_at (List.getElem?_eq_getElem ha)), part_int he (ints_at (List.getElem?_eq_getElem hb)), Result.andThen_ok, run_equalIn_int w d f.type .i64 k _ _ he, eqInts]
    by_cases c : xs[s] = ys[s]
    · simpa [c] using ih
    · simp [c]
theorem eqOk_str {t : TypeId} {n : Nat} (hu : P.underlying t = some (.struct (P.fieldsOf t))) (hp : P.stoodInHeld t = false) (hn : (P.fieldsOf t).toList.length = n)
    (hf : ∀ j f, (P.fieldsOf t).toList[j]? = some f → f.name ≠ "_" ∧ f.offset = 0 + j ∧ ∃ k, P.underlying f.type = some (.int k)) (hg : P.eqGuardType P.depth t = false) : EqOk P t n := by
  intro xs ys w h1 h2
  refine ⟨fun op x y => guard_no hg op x y _ _, ?_⟩
  have := eqFields_is (P := P) (w := w) (d := 9998) xs ys (P.fieldsOf t).toList 0 hf (by omega) (by omega)
  unfold ints
  rw [run_equalIn_struct w 9999 t _ _ hu hp, this, List.drop_zero, List.drop_zero]
end

/-- For the kernel: what a type must be. -/
def Array.intsOk (P : Program) (t : TypeId) (n : Nat) : Bool :=
  match P.underlying t with
  | some (.array m e) => m == n && (match P.underlying e with | some (.int _) => true | _ => false) && (match P.info? e with | some i => i.size == 1 | _ => false) && !P.eqGuardType P.depth t
  | some (.struct fs) => fs.toList.length == n && !P.stoodInHeld t && !P.eqGuardType P.depth t && (List.range n).all fun j => match fs.toList[j]? with | some f => f.name != "_" && f.offset == j && (match P.underlying f.type with | some (.int _) => true | _ => false) | none => false
  | _ => false
theorem eqOk_of {P : Program} {t : TypeId} {n : Nat} (h : Array.intsOk P t n = true) : EqOk P t n := by
  unfold Array.intsOk at h
  split at h
  · rename_i m e hu
    simp only [Bool.and_eq_true, beq_iff_eq, Bool.not_eq_true'] at h
    obtain ⟨⟨⟨rfl, h1⟩, h2⟩, h3⟩ := h
    split at h1
    · rename_i k he
      split at h2
      · rename_i i hi
        exact eqOk_arr hu he hi (by simpa using h2) h3
      · cases h2
    · cases h1
  · rename_i fs hu
    simp only [Bool.and_eq_true, beq_iff_eq, Bool.not_eq_true'] at h
    obtain ⟨⟨⟨h1, h2⟩, h3⟩, h4⟩ := h
    have hfs : P.fieldsOf t = fs := by simp [Program.fieldsOf, hu]
    refine eqOk_str (by rw [hfs]; exact hu) h2 (by rw [hfs]; exact h1) (fun j f hj => ?_) h3
    rw [hfs] at hj
    have hjn : j < n := by have := (List.getElem?_eq_some_iff.1 hj).1; omega
    have h5 := List.all_eq_true.1 h4 j (List.mem_range.2 hjn)
    rw [hj] at h5
    simp only [Bool.and_eq_true, bne_iff_ne, beq_iff_eq] at h5
    obtain ⟨⟨a1, a2⟩, a3⟩ := h5
    refine ⟨a1, by omega, ?_⟩
    split at a3
    · rename_i k hk; exact ⟨k, hk⟩
    · cases a3
  · cases h
end Go.Proofs.YtpobngddiifdpaaGreat.V

set_option linter.unusedSimpArgs false
set_option linter.unusedVariables false
namespace Go.Proofs.YtpobngddiifdpaaGreat.V
open Go Go.RowKit Go.Proofs.YtpobngddiifdpaaGreat.Hz
abbrev tI : Ty := .int .i64
abbrev tL : Ty := .sl tI
abbrev tR3 : Ty := .cons tI (.cons tI (.cons tI .nil))
abbrev tR8 : Ty := .cons tI (.cons tI (.cons tI (.cons tI (.cons tI (.cons tI (.cons tI (.cons tI .nil)))))))
abbrev tFrame : Ty := .cons tI (.cons tI (.cons tR8 (.cons tL .nil)))
abbrev tCore : Ty := .cons (.sl tFrame) (.cons tI (.cons tI (.cons tR3 (.cons tL .nil))))
abbrev tEv : Ty := .cons tI (.cons tI (.cons tI (.cons tI (.cons tI .nil))))
abbrev tMem : Ty := .cons tL (.cons tL (.cons .bool .nil))
abbrev tSys : Ty := .cons tMem (.cons (.sl tCore) (.cons (.sl tEv) .nil))

def T : Tab := [TI.no,
  ⟨.fn, none, 1, false⟩,
  ⟨.int .i64, some tI, 1, false⟩,
  ⟨.int .i64, some tI, 1, false⟩,
  ⟨.bool, some .bool, 1, false⟩,
  ⟨.int .u8, some (.int .u8), 1, false⟩,
  ⟨.int .u8, some (.int .u8), 1, false⟩,
  ⟨.str [(0, 2), (1, 3), (2, 4), (3, 6)], some (.cons tI (.cons tI (.cons .bool (.cons (.int .u8) .nil)))), 4, false⟩,
  ⟨.str [(0, 2), (1, 3), (2, 4), (3, 6)], some (.cons tI (.cons tI (.cons .bool (.cons (.int .u8) .nil)))), 4, false⟩,
  TI.no,
  TI.no,
  TI.no,
  ⟨.int .u64, some (.int .u64), 1, false⟩,
  ⟨.str [(0, 9), (1, 12)], none, 2, false⟩,
  ⟨.str [(0, 9), (1, 12)], none, 2, false⟩,
  ⟨.ptr 167, none, 1, false⟩,
  ⟨.ptr 170, none, 1, false⟩,
  ⟨.ptr 180, none, 1, false⟩,
  ⟨.str [(0, 17)], none, 1, false⟩,
  ⟨.str [(0, 17)], none, 1, false⟩,
  TI.no,
  ⟨.int .i32, some (.int .i32), 1, false⟩,
  ⟨.sl 3, some tL, 1, false⟩,
  ⟨.str [(0, 22), (1, 22), (2, 4)], some tMem, 3, false⟩,
  ⟨.str [(0, 22), (1, 22), (2, 4)], some tMem, 3, false⟩,
  ⟨.sl 61, some (.sl tCore), 1, false⟩,
  ⟨.sl 63, some (.sl tEv), 1, false⟩,
  ⟨.str [(0, 24), (3, 25), (4, 26)], some tSys, 5, false⟩,
  ⟨.str [(0, 24), (3, 25), (4, 26)], some tSys, 5, false⟩,
  ⟨.str [(0, 28), (5, 3), (6, 3), (7, 3)], some (.cons tSys tR3), 8, false⟩,
  ⟨.str [(0, 28), (5, 3), (6, 3), (7, 3)], some (.cons tSys tR3), 8, false⟩,
  ⟨.fn, none, 1, false⟩,
  ⟨.fn, none, 1, false⟩,
  ⟨.int .i64, some tI, 1, false⟩,
  TI.no,
  ⟨.fn, none, 1, false⟩,
  TI.no,
  ⟨.fn, none, 1, false⟩,
  TI.no,
  ⟨.fn, none, 1, false⟩,
  ⟨.fn, none, 1, false⟩,
  ⟨.fn, none, 1, false⟩,
  ⟨.fn, none, 1, false⟩,
  ⟨.fn, none, 1, false⟩,
  ⟨.fn, none, 1, false⟩,
  ⟨.fn, none, 1, false⟩,
  ⟨.sl 49, some (.sl (.int .u16)), 1, false⟩,
  TI.no,
  ⟨.fn, none, 1, false⟩,
  ⟨.int .u16, some (.int .u16), 1, false⟩,
  ⟨.arr 8 3, some tR8, 8, true⟩,
  ⟨.str [(0, 3), (1, 3), (2, 50), (10, 22)], some tFrame, 11, false⟩,
  ⟨.str [(0, 3), (1, 3), (2, 50), (10, 22)], some tFrame, 11, false⟩,
  TI.no,
  ⟨.fn, none, 1, false⟩,
  ⟨.fn, none, 1, false⟩,
  ⟨.fn, none, 1, false⟩,
  ⟨.fn, none, 1, false⟩,
  ⟨.sl 52, some (.sl tFrame), 1, false⟩,
  ⟨.arr 3 3, some tR3, 3, true⟩,
  ⟨.str [(0, 58), (1, 3), (2, 33), (3, 59), (6, 22)], some tCore, 7, false⟩,
  ⟨.str [(0, 58), (1, 3), (2, 33), (3, 59), (6, 22)], some tCore, 7, false⟩,
  ⟨.str [(0, 3), (1, 3), (2, 3), (3, 3), (4, 3)], some tEv, 5, true⟩,
  ⟨.str [(0, 3), (1, 3), (2, 3), (3, 3), (4, 3)], some tEv, 5, true⟩,
  ⟨.fn, none, 1, false⟩,
  TI.no,
  ⟨.fn, none, 1, false⟩,
  ⟨.fn, none, 1, false⟩,
  ⟨.str [(0, 28), (5, 3), (6, 3), (7, 3)], some (.cons tSys tR3), 8, false⟩,
  ⟨.str [(0, 28), (5, 3), (6, 3), (7, 3)], some (.cons tSys tR3), 8, false⟩,
  TI.no,
  ⟨.fn, none, 1, false⟩,
  ⟨.fn, none, 1, false⟩,
  ⟨.fn, none, 1, false⟩,
  ⟨.str [(0, 22), (1, 22)], some (.cons tL (.cons tL .nil)), 2, false⟩,
  ⟨.str [(0, 22), (1, 22)], some (.cons tL (.cons tL .nil)), 2, false⟩,
  TI.no,
  ⟨.fn, none, 1, false⟩,
  TI.no,
  ⟨.fn, none, 1, false⟩,
  ⟨.fn, none, 1, false⟩,
  ⟨.fn, none, 1, false⟩,
  ⟨.fn, none, 1, false⟩,
  ⟨.fn, none, 1, false⟩,
  ⟨.fn, none, 1, false⟩,
  ⟨.fn, none, 1, false⟩,
  TI.no,
  ⟨.fn, none, 1, false⟩,
  ⟨.fn, none, 1, false⟩,
  ⟨.fn, none, 1, false⟩,
  TI.no,
  ⟨.fn, none, 1, false⟩,
  ⟨.fn, none, 1, false⟩,
  ⟨.sl 4, some (.sl .bool), 1, false⟩,
  ⟨.fn, none, 1, false⟩,
  ⟨.fn, none, 1, false⟩,
  ⟨.fn, none, 1, false⟩,
  ⟨.fn, none, 1, false⟩,
  ⟨.fn, none, 1, false⟩,
  ⟨.arr 12 98, none, 12, false⟩,
  ⟨.fn, none, 1, false⟩,
  ⟨.arr 11 98, none, 11, false⟩,
  ⟨.fn, none, 1, false⟩,
  ⟨.sl 98, none, 1, false⟩,
  ⟨.ptr 106, none, 1, false⟩,
  ⟨.str [(0, 28), (5, 3), (6, 52)], some (.cons tSys (.cons tI (.cons tFrame .nil))), 17, false⟩,
  ⟨.str [(0, 28), (5, 3), (6, 52)], some (.cons tSys (.cons tI (.cons tFrame .nil))), 17, false⟩,
  ⟨.fn, none, 1, false⟩,
  ⟨.fn, none, 1, false⟩,
  ⟨.fn, none, 1, false⟩,
  ⟨.ptr 112, none, 1, false⟩,
  ⟨.str [(0, 28), (5, 3), (6, 52)], some (.cons tSys (.cons tI (.cons tFrame .nil))), 17, false⟩,
  ⟨.str [(0, 28), (5, 3), (6, 52)], some (.cons tSys (.cons tI (.cons tFrame .nil))), 17, false⟩,
  ⟨.fn, none, 1, false⟩,
  ⟨.fn, none, 1, false⟩,
  ⟨.fn, none, 1, false⟩,
  ⟨.fn, none, 1, false⟩,
  ⟨.fn, none, 1, false⟩,
  ⟨.fn, none, 1, false⟩,
  ⟨.fn, none, 1, false⟩,
  ⟨.map 3 4, none, 1, false⟩,
  ⟨.fn, none, 1, false⟩,
  ⟨.fn, none, 1, false⟩,
  ⟨.fn, none, 1, false⟩,
  ⟨.fn, none, 1, false⟩,
  ⟨.fn, none, 1, false⟩,
  ⟨.fn, none, 1, false⟩,
  ⟨.fn, none, 1, false⟩,
  ⟨.fn, none, 1, false⟩,
  ⟨.fn, none, 1, false⟩,
  ⟨.fn, none, 1, false⟩,
  TI.no,
  ⟨.fn, none, 1, false⟩,
  ⟨.fn, none, 1, false⟩,
  ⟨.ptr 50, none, 1, false⟩,
  ⟨.fn, none, 1, false⟩,
  ⟨.fn, none, 1, false⟩,
  ⟨.fn, none, 1, false⟩,
  ⟨.fn, none, 1, false⟩,
  ⟨.fn, none, 1, false⟩,
  ⟨.fn, none, 1, false⟩,
  ⟨.fn, none, 1, false⟩,
  ⟨.fn, none, 1, false⟩,
  ⟨.fn, none, 1, false⟩,
  ⟨.fn, none, 1, false⟩,
  ⟨.fn, none, 1, false⟩,
  ⟨.fn, none, 1, false⟩,
  ⟨.fn, none, 1, false⟩,
  ⟨.arr 2 3, some (.cons tI (.cons tI .nil)), 2, true⟩,
  ⟨.map 3 107, none, 1, false⟩,
  ⟨.fn, none, 1, false⟩,
  ⟨.fn, none, 1, false⟩,
  ⟨.fn, none, 1, false⟩,
  ⟨.ptr 61, none, 1, false⟩,
  ⟨.fn, none, 1, false⟩,
  ⟨.fn, none, 1, false⟩,
  ⟨.fn, none, 1, false⟩,
  ⟨.fn, none, 1, false⟩,
  ⟨.fn, none, 1, false⟩,
  ⟨.fn, none, 1, false⟩,
  ⟨.fn, none, 1, false⟩,
  ⟨.fn, none, 1, false⟩,
  ⟨.fn, none, 1, false⟩,
  ⟨.sl 22, some (.sl tL), 1, false⟩,
  ⟨.fn, none, 1, false⟩,
  ⟨.fn, none, 1, false⟩,
  ⟨.str [(0, 17), (1, 17), (2, 17), (3, 9)], none, 4, false⟩,
  ⟨.str [(0, 17), (1, 17), (2, 17), (3, 9)], none, 4, false⟩,
  ⟨.arr 0 16, none, 0, false⟩,
  ⟨.str [(0, 168)], none, 0, false⟩,
  ⟨.str [(0, 168)], none, 0, false⟩,
  ⟨.fn, none, 1, false⟩,
  ⟨.int .u32, some (.int .u32), 1, false⟩,
  ⟨.int .u8, some (.int .u8), 1, false⟩,
  ⟨.int .u8, some (.int .u8), 1, false⟩,
  ⟨.fn, none, 1, false⟩,
  ⟨.ptr 5, none, 1, false⟩,
  ⟨.int .i32, some (.int .i32), 1, false⟩,
  ⟨.int .i32, some (.int .i32), 1, false⟩,
  ⟨.str [(0, 12), (1, 12), (2, 172), (3, 173), (4, 5), (5, 5), (6, 174), (7, 175), (8, 176), (9, 177), (10, 178)], none, 11, false⟩,
  ⟨.str [(0, 12), (1, 12), (2, 172), (3, 173), (4, 5), (5, 5), (6, 174), (7, 175), (8, 176), (9, 177), (10, 178)], none, 11, false⟩,
  TI.no]

theorem tab_ok : T.ok Tryz.prog where
  mixed := by kernel_rfl
  is := by kernel_rfl
  eq := fun t ht => by
    have h : (List.range T.length).all (fun t => !(T.at t).plainEq || Array.intsOk Tryz.prog t (T.at t).size) = true := by kernel_rfl
    by_cases c : t < T.length
    · have := List.all_eq_true.1 h t (List.mem_range.2 c)
      rw [ht] at this
      exact eqOk_of (by simpa using this)
    · have : T.at t = TI.no := by simp [Tab.at, List.getD, c]
      rw [this] at ht; cases ht
end Go.Proofs.YtpobngddiifdpaaGreat.V

set_option linter.unusedSimpArgs false
set_option linter.unusedVariables false
namespace Go.Proofs.YtpobngddiifdpaaGreat.V
open Go Go.RowKit Go.Proofs.YtpobngddiifdpaaGreat.Hz

abbrev R3 := Den tR3
abbrev R8 := Den tR8
abbrev Frm := Den tFrame
abbrev Cor := Den tCore
abbrev Evt := Den tEv
abbrev Me := Den tMem
abbrev Sy := Den tSys

/-- Values of these. -/
abbrev vI (n : Int) : SV := .one (.int .i64 n)
abbrev vB (b : Bool) : SV := .one (.bool b)
abbrev Li := List (Den tI)
abbrev vL (l : Li) : SV := .one (.sl tI l false)
abbrev vM (m : Me) : SV := .agg [.sl tI m.1 false, .sl tI m.2.1 false, .bool m.2.2.1]
abbrev vF (f : Frm) : SV := .agg [.int .i64 f.1, .int .i64 f.2.1, .int .i64 f.2.2.1.1, .int .i64 f.2.2.1.2.1, .int .i64 f.2.2.1.2.2.1, .int .i64 f.2.2.1.2.2.2.1, .int .i64 f.2.2.1.2.2.2.2.1, .int .i64 f.2.2.1.2.2.2.2.2.1, .int .i64 f.2.2.1.2.2.2.2.2.2.1, .int .i64 f.2.2.1.2.2.2.2.2.2.2.1, .sl tI f.2.2.2.1 false]
abbrev vC (c : Cor) : SV := .agg [.sl tFrame c.1 false, .int .i64 c.2.1, .int .i64 c.2.2.1, .int .i64 c.2.2.2.1.1, .int .i64 c.2.2.2.1.2.1, .int .i64 c.2.2.2.1.2.2.1, .sl tI c.2.2.2.2.1 false]
abbrev vS (s : Sy) : SV := .agg [.sl tI s.1.1 false, .sl tI s.1.2.1 false, .bool s.1.2.2.1, .sl tCore s.2.1 false, .sl tEv s.2.2.1 false]

/-- Two ways. -/
theorem dcase {p : Prop} {_ : Decidable p} {A B : Prop} (h1 : p → A) (h2 : ¬ p → B) : (match decide p with | true => A | false => B) := by
  by_cases h : p
  · rw [decide_eq_true h]; exact h1 h
  · rw [decide_eq_false h]; exact h2 h
theorem ncase {p : Prop} {_ : Decidable p} {A B : Prop} (h1 : ¬ p → A) (h2 : p → B) : (match !decide p with | true => A | false => B) := by
  by_cases h : p
  · rw [decide_eq_true h]; exact h2 h
  · rw [decide_eq_false h]; exact h1 h
theorem bcase {b : Bool} {A B : Prop} (h1 : b = true → A) (h2 : b = false → B) : (match (generalizing := false) b with | true => A | false => B) := by
  cases b
  · exact h2 rfl
  · exact h1 rfl
/-- An element. -/
abbrev nI (l : Li) (i : Int) : Int := l.getD i.toNat (0 : Int)
theorem le_most {n : Nat} (h : n ≤ 1000000) : n ≤ mostElems := by unfold mostElems; omega

/-! ### Words -/
/-! ### The arena -/
def atI (node cell : Int) : Int := wrap64 (wrap64 (128 + wrap64 (4 * wrap64 (node - 1))) + cell)
end Go.Proofs.YtpobngddiifdpaaGreat.V
