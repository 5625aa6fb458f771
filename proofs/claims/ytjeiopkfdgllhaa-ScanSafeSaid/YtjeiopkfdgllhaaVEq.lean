/- Arrays and structs of numbers held against each other. -/
import Derived.Test.YtjeiopkfdgllhaaVFast
import Derived.ChangeKeysEq
set_option linter.unusedSimpArgs false
set_option linter.unusedVariables false
namespace Go.Proofs.Ytjeiopkfdgllhaa.V
open Go Go.RowKit Go.Proofs.Ytjeiopkfdgllhaa.Hz

section
variable {P : Program} {w : World}
theorem part_int {e : TypeId} {k : IntKind} (he : P.underlying e = some (.int k)) {xs : Array Value} {off : Nat} {v : Value} (hx : xs[off]? = some v) : (part e xs off).run P w = .ok v w := by
  simp [part, isAgg, run_underlying he, hx]
theorem guard_no {t : TypeId} (hg : P.eqGuardType P.depth t = false) (op : BinOp) (x y : Operand) (xs ys : Array Value) : (eqGuard op t x y (.agg xs) (.agg ys)).run P w = .ok () w := by
  unfold eqGuard
  cases op <;> simp [hg]
theorem ints_at {xs : List Int} {i : Nat} {n : Int} (h : xs[i]? = some n) : ((xs.map (Value.int .i64)).toArray)[i]? = some (.int .i64 n) := by simp [h]
theorem eqItems_is {e : TypeId} {k : IntKind} {d : Nat} (he : P.underlying e = some (.int k)) (xs ys : List Int) : ∀ (n s : Nat), s + n = xs.length → s + n = ys.length →
    (Op.eqItems (d + 1) e 1 (xs.map (Value.int .i64)).toArray (ys.map (Value.int .i64)).toArray (List.range' s n)).run P w = .ok (eqInts (xs.drop s) (ys.drop s)) w
  | 0, s, h1, h2 => by
    rw [List.drop_eq_nil_of_le (by omega), List.drop_eq_nil_of_le (by omega)]
    simp [Op.eqItems, eqInts]
  | n + 1, s, h1, h2 => by
    have ha : s < xs.length := by omega
    have hb : s < ys.length := by omega
    have ih := eqItems_is (d := d) he xs ys n (s + 1) (by omega) (by omega)
    rw [List.drop_eq_getElem_cons ha, List.drop_eq_getElem_cons hb]
    simp only [List.range'_succ, Op.eqItems, Sem.run_bind, Nat.mul_one, part_int he (ints_at (List.getElem?_eq_getElem ha)), part_int he (ints_at (List.getElem?_eq_getElem hb)), Result.andThen_ok, run_equalIn_int w d e .i64 k _ _ he, eqInts]
    by_cases c : xs[s] = ys[s]
    · simpa [c] using ih
    · simp [c]
theorem eqOk_arr {t e : TypeId} {n : Nat} {k : IntKind} {i : TypeInfo} (hu : P.underlying t = some (.array n e)) (he : P.underlying e = some (.int k)) (hi : P.info? e = some i) (hz : i.size = 1) (hg : P.eqGuardType P.depth t = false) : EqOk P t n := by
  intro xs ys w h1 h2
  refine ⟨fun op x y => guard_no hg op x y _ _, ?_⟩
  have hc : P.cellsOf e = 1 := by simp [Program.cellsOf, hi, hz]
  have := eqItems_is (w := w) (d := 9998) he xs ys n 0 (by omega) (by omega)
  unfold ints
  rw [run_equalIn_array w 9999 _ _ hu hi, hc, List.range_eq_range', this, List.drop_zero, List.drop_zero]

theorem eqFields_is {d : Nat} (xs ys : List Int) : ∀ (fs : List Field) (s : Nat), (∀ j f, fs[j]? = some f → f.name ≠ "_" ∧ f.offset = s + j ∧ ∃ k, P.underlying f.type = some (.int k)) → s + fs.length = xs.length → s + fs.length = ys.length →
    (Op.eqFields (d + 1) (xs.map (Value.int .i64)).toArray (ys.map (Value.int .i64)).toArray fs).run P w = .ok (eqInts (xs.drop s) (ys.drop s)) w
  | [], s, _, h1, h2 => by
    simp only [List.length_nil] at h1 h2
    rw [List.drop_eq_nil_of_le (by omega), List.drop_eq_nil_of_le (by omega)]
    simp [Op.eqFields, eqInts]
  | f :: fs, s, hf, h1, h2 => by
    simp only [List.length_cons] at h1 h2
    have ha : s < xs.length := by omega
    have hb : s < ys.length := by omega
    obtain ⟨n1, n2, k, he⟩ := hf 0 f rfl
    rw [Nat.add_zero] at n2
    have ih := eqFields_is (d := d) xs ys fs (s + 1) (fun j g hg => by
      obtain ⟨m1, m2, m3⟩ := hf (j + 1) g (by simpa using hg)
      exact ⟨m1, by omega, m3⟩) (by omega) (by omega)
    rw [List.drop_eq_getElem_cons ha, List.drop_eq_getElem_cons hb]
    simp only [Op.eqFields, ne_eq, n1, not_false_eq_true, if_true, n2, Sem.run_bind, part_int he (ints_at (List.getElem?_eq_getElem ha)), part_int he (ints_at (List.getElem?_eq_getElem hb)), Result.andThen_ok, run_equalIn_int w d f.type .i64 k _ _ he, eqInts]
    by_cases c : xs[s] = ys[s]
    · simpa [c] using ih
    · simp [c]
theorem eqOk_str {t : TypeId} {n : Nat} (hu : P.underlying t = some (.struct (P.fieldsOf t))) (hp : P.stoodInHeld t = false) (hn : (P.fieldsOf t).toList.length = n)
    (hf : ∀ j f, (P.fieldsOf t).toList[j]? = some f → f.name ≠ "_" ∧ f.offset = 0 + j ∧ ∃ k, P.underlying f.type = some (.int k)) (hg : P.eqGuardType P.depth t = false) : EqOk P t n := by
  intro xs ys w h1 h2
  refine ⟨fun op x y => guard_no hg op x y _ _, ?_⟩
  have := eqFields_is (P := P) (w := w) (d := 9998) xs ys (P.fieldsOf t).toList 0 hf (by omega) (by omega)
  unfold ints
  rw [run_equalIn_struct w 9999 t _ _ hu hp, this, List.drop_zero, List.drop_zero]
end

/-- For the kernel: what a type must be. -/
def Array.intsOk (P : Program) (t : TypeId) (n : Nat) : Bool :=
  match P.underlying t with
  | some (.array m e) => m == n && (match P.underlying e with | some (.int _) => true | _ => false) && (match P.info? e with | some i => i.size == 1 | _ => false) && !P.eqGuardType P.depth t
  | some (.struct fs) => fs.toList.length == n && !P.stoodInHeld t && !P.eqGuardType P.depth t && (List.range n).all fun j => match fs.toList[j]? with | some f => f.name != "_" && f.offset == j && (match P.underlying f.type with | some (.int _) => true | _ => false) | none => false
  | _ => false
theorem eqOk_of {P : Program} {t : TypeId} {n : Nat} (h : Array.intsOk P t n = true) : EqOk P t n := by
  unfold Array.intsOk at h
  split at h
  · rename_i m e hu
    simp only [Bool.and_eq_true, beq_iff_eq, Bool.not_eq_true'] at h
    obtain ⟨⟨⟨rfl, h1⟩, h2⟩, h3⟩ := h
    split at h1
    · rename_i k he
      split at h2
      · rename_i i hi
        exact eqOk_arr hu he hi (by simpa using h2) h3
      · cases h2
    · cases h1
  · rename_i fs hu
    simp only [Bool.and_eq_true, beq_iff_eq, Bool.not_eq_true'] at h
    obtain ⟨⟨⟨h1, h2⟩, h3⟩, h4⟩ := h
    have hfs : P.fieldsOf t = fs := by simp [Program.fieldsOf, hu]
    refine eqOk_str (by rw [hfs]; exact hu) h2 (by rw [hfs]; exact h1) (fun j f hj => ?_) h3
    rw [hfs] at hj
    have hjn : j < n := by have := (List.getElem?_eq_some_iff.1 hj).1; omega
    have h5 := List.all_eq_true.1 h4 j (List.mem_range.2 hjn)
    rw [hj] at h5
    simp only [Bool.and_eq_true, bne_iff_ne, beq_iff_eq] at h5
    obtain ⟨⟨a1, a2⟩, a3⟩ := h5
    refine ⟨a1, by omega, ?_⟩
    split at a3
    · rename_i k hk; exact ⟨k, hk⟩
    · cases a3
  · cases h
end Go.Proofs.Ytjeiopkfdgllhaa.V
