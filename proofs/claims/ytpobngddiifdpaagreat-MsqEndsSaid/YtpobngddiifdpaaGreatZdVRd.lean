/- Operations that look and reckon: what they yield is what the symbolic state says. -/
import Derived.Test.YtpobngddiifdpaaGreatZdVSt
import Derived.WalkSpells
import Derived.Laws.Sem
set_option linter.unusedSimpArgs false
set_option linter.unusedVariables false
namespace Go.Proofs.YtpobngddiifdpaaGreat.V
open Go Go.RowKit Go.Proofs.YtpobngddiifdpaaGreat.Hz

/-! ### The table -/
def zeroV : Ty → List Value
  | .int k => [.int k 0]
  | .bool => [.bool false]
  | .sl _ => [.slice none 0 0]
  | .nil => []
  | .cons a b => zeroV a ++ zeroV b
def sameLit : Value → Value → Bool
  | .int k n, .int k' n' => k == k' && n == n'
  | .bool b, .bool b' => b == b'
  | .slice none 0 0, .slice none 0 0 => true
  | _, _ => false
def sameLits : List Value → List Value → Bool
  | [], [] => true
  | v :: vs, u :: us => sameLit v u && sameLits vs us
  | _, _ => false
theorem sameLit_is {v u : Value} (h : sameLit v u = true) : v = u := by
  unfold sameLit at h
  split at h
  · simp at h; rw [h.1, h.2]
  · simp at h; rw [h]
  · rfl
  · cases h
theorem sameLits_is : ∀ {vs us : List Value}, sameLits vs us = true → vs = us
  | [], [], _ => rfl
  | v :: vs, u :: us, h => by simp only [sameLits, Bool.and_eq_true] at h; rw [sameLit_is h.1, sameLits_is h.2]
  | [], _ :: _, h => by cases h
  | _ :: _, [], h => by cases h

/-- So many nil functions. -/
def noFns : Nat → List Value → Bool
  | 0, [] => true
  | n + 1, .nilFunc :: r => noFns n r
  | _, _ => false
theorem noFns_is : ∀ {n : Nat} {l : List Value}, noFns n l = true → l = List.replicate n .nilFunc
  | 0, [], _ => rfl
  | 0, _ :: _, h => by simp [noFns] at h
  | n + 1, [], h => by simp [noFns] at h
  | n + 1, v :: r, h => by
    cases v <;> first | (simp [noFns] at h; done) | (have h : noFns n r = true := h; rw [noFns_is h]; rfl)
def TK.ok (k : TK) (d : TypeDesc) : Bool :=
  match k, d with
  | .int k, .int k' => k == k'
  | .bool, .bool => true
  | .sl e, .slice e' => e == e'
  | .ptr e, .pointer e' => e == e'
  | .arr n e, .array n' e' => n == n' && e == e'
  | .str fs, .struct gs => gs.toList.map (fun g => (g.offset, g.type)) == fs
  | .map k v, .map k' v' => k == k' && v == v'
  | .fn, .func _ _ _ => true
  | _, _ => false
def tyAgg : Ty → Bool
  | .cons _ _ => true
  | .nil => true
  | _ => false
def TI.ok (P : Program) (T : Tab) (t : TypeId) (i : TI) : Bool :=
  match i.kind with
  | .other => i.size == 0 && i.ty.isNone
  | k => (P.underlying t).any k.ok && (P.info? t).map (·.size) == some i.size && (match i.ty with
      | none => true
      | some ty => i.size == ty.size && (match (P.info? t).bind (·.zero) with
        | some (.agg cs) => tyAgg ty && sameLits cs.toList (zeroV ty)
        | some v => !tyAgg ty && sameLits [v] (zeroV ty)
        | none => false)) &&
      (match k with
      | .fn => match (P.info? t).bind (·.zero) with
        | some .nilFunc => true
        | _ => false
      | .sl e => match (T.at e).ty with
        | some _ => cloneOk P t == some (e, (T.at e).size)
        | none => true
      | .arr n e => match (T.at e).kind with
        | .fn => match (P.info? t).bind (·.zero) with
          | some (.agg cs) => noFns n cs.toList
          | _ => false
        | _ => true
      | _ => true)
def Tab.okB (T : Tab) (P : Program) : Bool := (List.range T.length).all fun t => TI.ok P T t (T.at t)
def eqInts : List Int → List Int → Bool
  | [], [] => true
  | m :: xs, n :: ys => decide (m = n) && eqInts xs ys
  | _, _ => false
def ints (xs : List Int) : Value := .agg (xs.map (Value.int .i64)).toArray
/-- Structs or arrays of so many numbers are held against each other. -/
def EqOk (P : Program) (t : TypeId) (n : Nat) : Prop := ∀ (xs ys : List Int) (w : World), xs.length = n → ys.length = n →
  (∀ op x y, (eqGuard op t x y (ints xs) (ints ys)).run P w = .ok () w) ∧ (Op.equalIn 10000 t (ints xs) (ints ys)).run P w = .ok (eqInts xs ys) w
structure Tab.ok (T : Tab) (P : Program) : Prop where
  mixed : P.follows .mixedOrders = true
  is : T.okB P = true
  eq : ∀ t, (T.at t).plainEq = true → EqOk P t (T.at t).size

section
variable {P : Program} {T : Tab}
theorem tab_at (h : T.ok P) (t : TypeId) : TI.ok P T t (T.at t) = true := by
  by_cases c : t < T.length
  · exact List.all_eq_true.1 h.is t (List.mem_range.2 c)
  · have : T.at t = TI.no := by simp [Tab.at, List.getD, c]
    rw [this]; rfl
theorem tab_desc (h : T.ok P) {t : TypeId} (hk : (T.at t).kind ≠ .other) : ∃ d, P.underlying t = some d ∧ (T.at t).kind.ok d = true := by
  have := tab_at h t
  unfold TI.ok at this
  split at this
  · rename_i e; exact absurd e hk
  · simp only [Bool.and_eq_true] at this
    obtain ⟨⟨⟨h1, _⟩, _⟩, _⟩ := this
    cases hu : P.underlying t with
    | none => rw [hu] at h1; cases h1
    | some d => rw [hu] at h1; exact ⟨d, rfl, h1⟩
theorem tab_size (h : T.ok P) {t : TypeId} (hk : (T.at t).size ≠ 0) : (P.info? t).map (·.size) = some (T.at t).size := by
  have := tab_at h t
  unfold TI.ok at this
  split at this
  · simp only [Bool.and_eq_true, beq_iff_eq] at this; exact absurd this.1 hk
  · simp only [Bool.and_eq_true, beq_iff_eq] at this
    exact this.1.1.2
theorem tab_size' (h : T.ok P) {t : TypeId} (hk : (T.at t).kind ≠ .other) : (P.info? t).map (·.size) = some (T.at t).size := by
  have := tab_at h t
  unfold TI.ok at this
  split at this
  · rename_i e; exact absurd e hk
  · simp only [Bool.and_eq_true, beq_iff_eq] at this
    exact this.1.1.2
theorem tab_ty (h : T.ok P) {t : TypeId} {ty : Ty} (hk : (T.at t).ty = some ty) : (T.at t).size = ty.size ∧ (T.at t).kind ≠ .other ∧ ∃ z, (P.info? t).bind (·.zero) = some z ∧ z.cells.toList = zeroV ty ∧ (tyAgg ty = true → ∃ cs, z = .agg cs) := by
  have := tab_at h t
  unfold TI.ok at this
  split at this
  · simp only [Bool.and_eq_true] at this; rw [hk] at this; exact absurd this.2 (by simp)
  · rename_i hne
    simp only [Bool.and_eq_true, hk] at this
    obtain ⟨⟨_, h2, h3⟩, _⟩ := this
    refine ⟨by simpa using h2, fun e => hne e, ?_⟩
    split at h3
    · rename_i cs hz
      simp only [Bool.and_eq_true] at h3
      exact ⟨_, hz, by rw [← sameLits_is h3.2]; rfl, fun _ => ⟨cs, rfl⟩⟩
    · rename_i v hna hz
      simp only [Bool.and_eq_true] at h3
      have := sameLits_is h3.2
      refine ⟨v, hz, ?_, fun ha => (by rw [ha] at h3; cases h3.1)⟩
      rw [← this]
      cases v <;> first | rfl | exact absurd rfl (hna _)
    · cases h3
theorem tab_sl (h : T.ok P) {t e : TypeId} (hk : (T.at t).kind = .sl e) : P.underlying t = some (.slice e) := by
  obtain ⟨d, h1, h2⟩ := tab_desc h (t := t) (by rw [hk]; exact fun e => nomatch e)
  rw [hk] at h2
  cases d <;> first | (simp [TK.ok] at h2; rw [h1, h2]) | (simp [TK.ok] at h2)
theorem tab_arr (h : T.ok P) {t e : TypeId} {n : Nat} (hk : (T.at t).kind = .arr n e) : P.underlying t = some (.array n e) := by
  obtain ⟨d, h1, h2⟩ := tab_desc h (t := t) (by rw [hk]; exact fun e => nomatch e)
  rw [hk] at h2
  cases d <;> first | (simp [TK.ok] at h2; rw [h1, h2.1, h2.2]) | (simp [TK.ok] at h2)
theorem tab_int (h : T.ok P) {t : TypeId} {k : IntKind} (hk : (T.at t).kind = .int k) : P.underlying t = some (.int k) := by
  obtain ⟨d, h1, h2⟩ := tab_desc h (t := t) (by rw [hk]; exact fun e => nomatch e)
  rw [hk] at h2
  cases d <;> first | (simp [TK.ok] at h2; rw [h1, h2]) | (simp [TK.ok] at h2)
theorem tab_bool (h : T.ok P) {t : TypeId} (hk : (T.at t).kind = .bool) : P.underlying t = some .bool := by
  obtain ⟨d, h1, h2⟩ := tab_desc h (t := t) (by rw [hk]; exact fun e => nomatch e)
  rw [hk] at h2
  cases d <;> first | exact h1 | (simp [TK.ok] at h2)
theorem tab_fn (h : T.ok P) {t : TypeId} (hk : (T.at t).kind = .fn) : ∃ a b c, P.underlying t = some (.func a b c) := by
  obtain ⟨d, h1, h2⟩ := tab_desc h (t := t) (by rw [hk]; exact fun e => nomatch e)
  rw [hk] at h2
  cases d <;> first | exact ⟨_, _, _, h1⟩ | (simp [TK.ok] at h2)
theorem tab_map (h : T.ok P) {t k v : TypeId} (hk : (T.at t).kind = .map k v) : P.underlying t = some (.map k v) := by
  obtain ⟨d, h1, h2⟩ := tab_desc h (t := t) (by rw [hk]; exact fun e => nomatch e)
  rw [hk] at h2
  cases d <;> first | (simp [TK.ok] at h2; rw [h1, h2.1, h2.2]) | (simp [TK.ok] at h2)
theorem tab_str (h : T.ok P) {t : TypeId} {fs : List (Nat × TypeId)} (hk : (T.at t).kind = .str fs) : ∃ gs, P.underlying t = some (.struct gs) ∧ gs.toList.map (fun g => (g.offset, g.type)) = fs := by
  obtain ⟨d, h1, h2⟩ := tab_desc h (t := t) (by rw [hk]; exact fun e => nomatch e)
  rw [hk] at h2
  cases d <;> first | (simp only [TK.ok, beq_iff_eq] at h2; exact ⟨_, h1, h2⟩) | (simp [TK.ok] at h2)
theorem tab_fnz (h : T.ok P) {t : TypeId} (hk : (T.at t).kind = .fn) : (P.info? t).bind (·.zero) = some .nilFunc := by
  have := tab_at h t
  unfold TI.ok at this
  rw [hk] at this
  simp only [Bool.and_eq_true] at this
  obtain ⟨_, h3⟩ := this
  split at h3
  · rename_i e; exact e
  · cases h3
theorem tab_fns (h : T.ok P) {t e : TypeId} {n : Nat} (hk : (T.at t).kind = .arr n e) (he : (T.at e).kind = .fn) : ∃ z, (P.info? t).bind (·.zero) = some z ∧ z.cells.toList = List.replicate n .nilFunc := by
  have := tab_at h t
  unfold TI.ok at this
  rw [hk] at this
  simp only [Bool.and_eq_true, he] at this
  obtain ⟨_, h3⟩ := this
  split at h3
  · rename_i cs e; exact ⟨_, e, noFns_is h3⟩
  · cases h3
theorem tab_bool0 (h : T.ok P) {t : TypeId} (hk : (T.at t).ty = some .bool) : (P.info? t).bind (·.zero) = some (.bool false) := by
  have := tab_at h t
  unfold TI.ok at this
  split at this
  · simp only [Bool.and_eq_true] at this; rw [hk] at this; exact absurd this.2 (by simp)
  · simp only [Bool.and_eq_true, hk] at this
    obtain ⟨⟨_, _, h3⟩, _⟩ := this
    split at h3
    · simp [tyAgg] at h3
    · rename_i v _ hz
      simp only [Bool.and_eq_true] at h3
      have e := sameLits_is h3.2
      have e2 : v = .bool false := by simpa [zeroV] using e
      rw [hz, e2]
    · cases h3
theorem tab_clone (h : T.ok P) {t e : TypeId} {ty : Ty} (hk : (T.at t).kind = .sl e) (hty : (T.at e).ty = some ty) : cloneOk P t = some (e, ty.size) := by
  have := tab_at h t
  unfold TI.ok at this
  rw [hk] at this
  simp only [Bool.and_eq_true, hty, beq_iff_eq] at this
  rw [this.2, (tab_ty h hty).1]
end

/-! ### Data and its cells -/
section
variable {X X' X0 : Nat → Prop} {w w' w0 : World} {E E' : Env} {as : Cx} {st : St} {a : Act} {P : Program} {T : Tab}

theorem flat_is : ∀ {t : Ty} {c : List Value} {x : Den t}, DC X w t c x → RCs X w E c (flat t x)
  | .int _, _, _, h => by rw [show _ = _ from h]; exact ⟨rfl, trivial⟩
  | .bool, _, _, h => by rw [show _ = _ from h]; exact ⟨rfl, trivial⟩
  | .sl _, _, _, ⟨v, e, h⟩ => by rw [e]; exact ⟨⟨h, fun hf => nomatch hf⟩, trivial⟩
  | .nil, _, _, h => by rw [show _ = _ from h]; exact trivial
  | .cons _ _, _, _, ⟨c1, c2, e, h1, h2⟩ => by rw [e]; exact (flat_is h1).append (flat_is h2)
theorem zero_is : ∀ (t : Ty), RCs X w E (zeroV t) (zeroC t)
  | .int _ => ⟨rfl, trivial⟩
  | .bool => ⟨rfl, trivial⟩
  | .sl _ => ⟨⟨⟨[], SX.empty, rfl⟩, fun _ => ⟨none, rfl⟩⟩, trivial⟩
  | .nil => trivial
  | .cons a b => (zero_is a).append (zero_is b)
theorem nofn_is : ∀ (n : Nat), RCs X w E (List.replicate n .nilFunc) (List.replicate n .nilfn)
  | 0 => trivial
  | n + 1 => ⟨rfl, nofn_is n⟩
theorem dflt_is : ∀ (t : Ty), DC X w t (zeroV t) (dflt t)
  | .int _ => rfl
  | .bool => rfl
  | .sl _ => ⟨_, rfl, [], SX.empty, rfl⟩
  | .nil => rfl
  | .cons a b => ⟨_, _, rfl, dflt_is a, dflt_is b⟩
theorem castK_is {t t' : Ty} {l : List (Den t')} {K : List (Den t) → Prop} (h : castK t t' l K) : ∃ e : t' = t, K (e ▸ l) := by
  unfold castK at h
  split at h
  · rename_i e; subst e; exact ⟨rfl, h⟩
  · exact h.elim
theorem unflatK_is : ∀ {t : Ty} {cs : List C} {us : List Value} {K : Den t → List C → Prop}, unflatK t cs K → RCs X w E us cs →
    ∃ x r c1 c2, us = c1 ++ c2 ∧ DC X w t c1 x ∧ RCs X w E c2 r ∧ K x r
  | .int k, .int k' n :: r, u :: us, K, h, hu => by
    simp only [unflatK] at h
    split at h
    · rename_i e; subst e
      exact ⟨n, r, [u], us, rfl, by rw [show u = _ from hu.1]; rfl, hu.2, h⟩
    · exact h.elim
  | .bool, .bool b :: r, u :: us, K, h, hu => ⟨b, r, [u], us, rfl, by rw [show u = _ from hu.1]; rfl, hu.2, h⟩
  | .sl t, .sl t' l c :: r, u :: us, K, h, hu => by
    obtain ⟨e, h⟩ := castK_is h
    subst e
    exact ⟨l, r, [u], us, rfl, ⟨u, rfl, hu.1.1⟩, hu.2, h⟩
  | .sl t, .nilsl :: r, u :: us, K, h, hu => ⟨[], r, [u], us, rfl, ⟨u, rfl, [], .inl (.inl ⟨hu.1, rfl, rfl⟩), rfl⟩, hu.2, h⟩
  | .sl t, .emp _ :: r, u :: us, K, h, hu => ⟨[], r, [u], us, rfl, ⟨u, rfl, [], by
      obtain ⟨base, e⟩ := hu.1
      rw [e]; exact SX.empty, rfl⟩, hu.2, h⟩
  | .nil, r, us, K, h, hu => ⟨(), r, [], us, rfl, rfl, hu, by cases r <;> exact h⟩
  | .cons a b, cs, us, K, h, hu => by
    have h : unflatK a cs fun x r => unflatK b r fun y r => K (x, y) r := by cases cs <;> exact h
    obtain ⟨x, r, c1, c2, e, hx, hr, h⟩ := unflatK_is h hu
    obtain ⟨y, r', c3, c4, e', hy, hr', h⟩ := unflatK_is h hr
    exact ⟨(x, y), r', c1 ++ c3, c4, by rw [e, e', List.append_assoc], ⟨c1, c3, rfl, hx, hy⟩, hr', h⟩
  | .int _, [], _, _, h, _ => h.elim
  | .bool, [], _, _, h, _ => h.elim
  | .sl _, [], _, _, h, _ => h.elim
  | .int _, .bool _ :: _, _, _, h, _ => h.elim
  | .int _, .sl _ _ _ :: _, _, _, h, _ => h.elim
  | .int _, .nilsl :: _, _, _, h, _ => h.elim
  | .int _, .emp _ :: _, _, _, h, _ => h.elim
  | .int _, .ptr _ _ :: _, _, _, h, _ => h.elim
  | .int _, .row _ :: _, _, _, h, _ => h.elim
  | .int _, .elt _ _ _ _ :: _, _, _, h, _ => h.elim
  | .int _, .ielt _ _ _ _ :: _, _, _, h, _ => h.elim
  | .int _, .fn _ _ :: _, _, _, h, _ => h.elim
  | .int _, .nilfn :: _, _, _, h, _ => h.elim
  | .int _, .map _ :: _, _, _, h, _ => h.elim
  | .int _, .arr _ _ _ _ _ :: _, _, _, h, _ => h.elim
  | .int _, .undef :: _, _, _, h, _ => h.elim
  | .bool, .int _ _ :: _, _, _, h, _ => h.elim
  | .bool, .sl _ _ _ :: _, _, _, h, _ => h.elim
  | .bool, .nilsl :: _, _, _, h, _ => h.elim
  | .bool, .emp _ :: _, _, _, h, _ => h.elim
  | .bool, .ptr _ _ :: _, _, _, h, _ => h.elim
  | .bool, .row _ :: _, _, _, h, _ => h.elim
  | .bool, .elt _ _ _ _ :: _, _, _, h, _ => h.elim
  | .bool, .ielt _ _ _ _ :: _, _, _, h, _ => h.elim
  | .bool, .fn _ _ :: _, _, _, h, _ => h.elim
  | .bool, .nilfn :: _, _, _, h, _ => h.elim
  | .bool, .map _ :: _, _, _, h, _ => h.elim
  | .bool, .arr _ _ _ _ _ :: _, _, _, h, _ => h.elim
  | .bool, .undef :: _, _, _, h, _ => h.elim
  | .sl _, .int _ _ :: _, _, _, h, _ => h.elim
  | .sl _, .bool _ :: _, _, _, h, _ => h.elim
  | .sl _, .ptr _ _ :: _, _, _, h, _ => h.elim
  | .sl _, .row _ :: _, _, _, h, _ => h.elim
  | .sl _, .elt _ _ _ _ :: _, _, _, h, _ => h.elim
  | .sl _, .ielt _ _ _ _ :: _, _, _, h, _ => h.elim
  | .sl _, .fn _ _ :: _, _, _, h, _ => h.elim
  | .sl _, .nilfn :: _, _, _, h, _ => h.elim
  | .sl _, .map _ :: _, _, _, h, _ => h.elim
  | .sl _, .arr _ _ _ _ _ :: _, _, _, h, _ => h.elim
  | .sl _, .undef :: _, _, _, h, _ => h.elim
  | .int _, .int _ _ :: _, [], _, _, hu => hu.elim
  | .bool, .bool _ :: _, [], _, _, hu => hu.elim
  | .sl _, .sl _ _ _ :: _, [], _, _, hu => hu.elim
  | .sl _, .nilsl :: _, [], _, _, hu => hu.elim
  | .sl _, .emp _ :: _, [], _, _, hu => hu.elim

theorem RC.one : ∀ {u : Value} {c : C}, RC X w E u c → c ≠ .undef → u.oneCell' = true
  | _, .int _ _, h, _ => by rw [show _ = _ from h]; rfl
  | _, .bool _, h, _ => by rw [show _ = _ from h]; rfl
  | _, .sl _ _ _, h, _ => by obtain ⟨cs, h, _⟩ := h.1; exact h.one
  | _, .nilsl, h, _ => by rw [show _ = _ from h]; rfl
  | _, .emp _, h, _ => by
    obtain ⟨base, e⟩ := h
    rw [e]; rfl
  | _, .ptr _ _, h, _ => by rw [show _ = _ from h]; rfl
  | _, .elt _ _ _ _, h, _ => by rw [show _ = _ from h]; rfl
  | _, .ielt _ _ _ _, h, _ => by obtain ⟨_, b, o, cs, e, _⟩ := h; rw [e]; rfl
  | _, .fn _ _, h, _ => by rw [show _ = _ from h]; rfl
  | _, .nilfn, h, _ => by rw [show _ = _ from h]; rfl
  | _, .map _, h, _ => by rw [show _ = _ from h]; rfl
  | _, .row _, h, _ => h.2
  | _, .arr _ _ _ _ _, h, _ => by rw [h.1]; rfl
  | _, .undef, _, hn => absurd rfl hn

/-! ### Operands -/
theorem eval_is {x : Operand} {K : SV → Prop} (hk : evalK st x K) (h : RE X0 w0 as E st a w) : ∃ v, K v ∧ RV (own X0 E st.mem) w E (a.eval x) v := by
  unfold evalK at hk
  split at hk
  · rename_i i
    obtain ⟨c, hc, hk⟩ := getK_is hk
    obtain ⟨u, hu, hr⟩ := h.tmps.at hc
    refine ⟨c, hk, ?_⟩
    have : a.eval (.tmp i) = u := by
      simp only [Act.eval, Array.getD_eq_getD_getElem?]
      rw [← Array.getElem?_toList, hu]; rfl
    rw [this]; exact hr
  · exact ⟨_, hk, rfl⟩
  · exact ⟨_, hk, rfl⟩
  · exact ⟨_, hk, rfl⟩
  · exact ⟨_, hk, rfl⟩
  · exact ⟨_, hk, trivial⟩
  · exact ⟨_, hk, rfl⟩
  · exact hk.elim

/-! ### Operations -/
def Yields (P : Program) (o : Oper) (a : Act) (u : Value) (w : World) : Prop := (execOp a.eval o).run P w = .ok (.value u) w

theorem wrapK_is (k : IntKind) (n : Int) : wrapK k n = k.wrap n := by
  cases k <;> first | rfl | exact (IntWalk.i64_left n).symm

theorem equalIn_bool (w : World) (d : Nat) (t : TypeId) (m n : Bool) (h : P.underlying t = some .bool) : (Op.equalIn (d + 1) t (.bool m) (.bool n)).run P w = .ok (m == n) w := by simp [Op.equalIn, run_underlying h]
theorem equalIn_fn (w : World) (d : Nat) (t : TypeId) {x y z} (f : Fn) (u v : Array Value) (h : P.underlying t = some (.func x y z)) : (Op.equalIn (d + 1) t (.func f u v) .nilFunc).run P w = .ok false w := by simp [Op.equalIn, run_underlying h]
theorem equalIn_nilfn (w : World) (d : Nat) (t : TypeId) {x y z} (h : P.underlying t = some (.func x y z)) : (Op.equalIn (d + 1) t .nilFunc .nilFunc).run P w = .ok true w := by simp [Op.equalIn, run_underlying h]
theorem run_eq {x y : Value} {w : World} {t : TypeId} {b : Bool} (h : (Op.equalIn 10000 t x y).run P w = .ok b w) (hn : (∀ k a, x ≠ .int k a) ∧ (∀ k a, x ≠ .float k a) ∧ (∀ k a b, x ≠ .complex k a b) ∧ (∀ s, x ≠ .string s)) :
    (binOp .eql t x y).run P w = .ok (.bool b) w ∧ (binOp .neq t x y).run P w = .ok (.bool (!b)) w := by
  obtain ⟨h1, h2, h3, h4⟩ := hn
  cases x <;> first | exact absurd rfl (h1 _ _) | exact absurd rfl (h2 _ _) | exact absurd rfl (h3 _ _ _) | exact absurd rfl (h4 _) | (constructor <;> (simp only [binOp, Op.equal, Op.maxDepth, Sem.run_bind, h]; rfl))
theorem yields_bin {op : BinOp} {t r : TypeId} {x y : Operand} {o : Oper} {vx vy u : Value} {w : World} (ho : o.op = .binOp op t x y r) (hx : a.eval x = vx) (hy : a.eval y = vy) (hg : ∀ w, (eqGuard op t x y vx vy).run P w = .ok () w) (h : (binOp op t vx vy).run P w = .ok u w) : Yields P o a u w := by
  unfold Yields execOp
  simp only [ho, hx, hy, Sem.run_bind, hg, h, Result.andThen_ok, Sem.run_pure]
theorem eqCs_is : ∀ {us vs : List Value} {xs ys : List C} {K : Bool → Prop}, eqCs xs ys K → RCs X w E us xs → RCs X w E vs ys → ∃ ms ns : List Int, us = ms.map (Value.int .i64) ∧ vs = ns.map (Value.int .i64) ∧ ms.length = ns.length ∧ K (eqInts ms ns)
  | [], [], [], [], _, h, _, _ => ⟨[], [], rfl, rfl, rfl, h⟩
  | u :: us, v :: vs, .int .i64 m :: xs, .int .i64 n :: ys, K, h, hu, hv => by
    obtain ⟨ms, ns, e1, e2, e3, hk⟩ := eqCs_is (xs := xs) (ys := ys) h hu.2 hv.2
    exact ⟨m :: ms, n :: ns, by rw [e1, show u = _ from hu.1]; rfl, by rw [e2, show v = _ from hv.1]; rfl, by simp [e3], hk⟩
  | [], _, _ :: _, _, _, _, hu, _ => hu.elim
  | _ :: _, _, [], _, _, _, hu, _ => hu.elim
  | _, [], _, _ :: _, _, _, _, hv => hv.elim
  | _, _ :: _, _, [], _, _, _, hv => hv.elim
  | _ :: _, [], c :: _, [], _, h, _, _ => by
    cases c with
    | int k n => cases k <;> exact h.elim
    | _ => exact h.elim
  | _ :: _, _ :: _, .int .i8 _ :: _, _ :: _, _, h, _, _ => h.elim
  | _ :: _, _ :: _, .int .i16 _ :: _, _ :: _, _, h, _, _ => h.elim
  | _ :: _, _ :: _, .int .i32 _ :: _, _ :: _, _, h, _, _ => h.elim
  | _ :: _, _ :: _, .int .u8 _ :: _, _ :: _, _, h, _, _ => h.elim
  | _ :: _, _ :: _, .int .u16 _ :: _, _ :: _, _, h, _, _ => h.elim
  | _ :: _, _ :: _, .int .u32 _ :: _, _ :: _, _, h, _, _ => h.elim
  | _ :: _, _ :: _, .int .u64 _ :: _, _ :: _, _, h, _, _ => h.elim
  | _ :: _, _ :: _, .bool _ :: _, _ :: _, _, h, _, _ => h.elim
  | _ :: _, _ :: _, .sl _ _ _ :: _, _ :: _, _, h, _, _ => h.elim
  | _ :: _, _ :: _, .nilsl :: _, _ :: _, _, h, _, _ => h.elim
  | _ :: _, _ :: _, .emp _ :: _, _ :: _, _, h, _, _ => h.elim
  | _ :: _, _ :: _, .ptr _ _ :: _, _ :: _, _, h, _, _ => h.elim
  | _ :: _, _ :: _, .row _ :: _, _ :: _, _, h, _, _ => h.elim
  | _ :: _, _ :: _, .elt _ _ _ _ :: _, _ :: _, _, h, _, _ => h.elim
  | _ :: _, _ :: _, .ielt _ _ _ _ :: _, _ :: _, _, h, _, _ => h.elim
  | _ :: _, _ :: _, .fn _ _ :: _, _ :: _, _, h, _, _ => h.elim
  | _ :: _, _ :: _, .nilfn :: _, _ :: _, _, h, _, _ => h.elim
  | _ :: _, _ :: _, .map _ :: _, _ :: _, _, h, _, _ => h.elim
  | _ :: _, _ :: _, .arr _ _ _ _ _ :: _, _ :: _, _, h, _, _ => h.elim
  | _ :: _, _ :: _, .undef :: _, _ :: _, _, h, _, _ => h.elim
  | _ :: _, _ :: _, .int .i64 _ :: _, .int .i8 _ :: _, _, h, _, _ => h.elim
  | _ :: _, _ :: _, .int .i64 _ :: _, .int .i16 _ :: _, _, h, _, _ => h.elim
  | _ :: _, _ :: _, .int .i64 _ :: _, .int .i32 _ :: _, _, h, _, _ => h.elim
  | _ :: _, _ :: _, .int .i64 _ :: _, .int .u8 _ :: _, _, h, _, _ => h.elim
  | _ :: _, _ :: _, .int .i64 _ :: _, .int .u16 _ :: _, _, h, _, _ => h.elim
  | _ :: _, _ :: _, .int .i64 _ :: _, .int .u32 _ :: _, _, h, _, _ => h.elim
  | _ :: _, _ :: _, .int .i64 _ :: _, .int .u64 _ :: _, _, h, _, _ => h.elim
  | _ :: _, _ :: _, .int .i64 _ :: _, .bool _ :: _, _, h, _, _ => h.elim
  | _ :: _, _ :: _, .int .i64 _ :: _, .sl _ _ _ :: _, _, h, _, _ => h.elim
  | _ :: _, _ :: _, .int .i64 _ :: _, .nilsl :: _, _, h, _, _ => h.elim
  | _ :: _, _ :: _, .int .i64 _ :: _, .emp _ :: _, _, h, _, _ => h.elim
  | _ :: _, _ :: _, .int .i64 _ :: _, .ptr _ _ :: _, _, h, _, _ => h.elim
  | _ :: _, _ :: _, .int .i64 _ :: _, .row _ :: _, _, h, _, _ => h.elim
  | _ :: _, _ :: _, .int .i64 _ :: _, .elt _ _ _ _ :: _, _, h, _, _ => h.elim
  | _ :: _, _ :: _, .int .i64 _ :: _, .ielt _ _ _ _ :: _, _, h, _, _ => h.elim
  | _ :: _, _ :: _, .int .i64 _ :: _, .fn _ _ :: _, _, h, _, _ => h.elim
  | _ :: _, _ :: _, .int .i64 _ :: _, .nilfn :: _, _, h, _, _ => h.elim
  | _ :: _, _ :: _, .int .i64 _ :: _, .map _ :: _, _, h, _, _ => h.elim
  | _ :: _, _ :: _, .int .i64 _ :: _, .arr _ _ _ _ _ :: _, _, h, _, _ => h.elim
  | _ :: _, _ :: _, .int .i64 _ :: _, .undef :: _, _, h, _, _ => h.elim
theorem bin_is {hd : Bool} {op : BinOp} {t r : TypeId} {x y : Operand} {o : Oper} {vx vy : SV} {K : SV → Prop} (hT : T.ok P) (ho : o.op = .binOp op t x y r) (hk : binK T hd t op vx vy K) (hx : RV X w E (a.eval x) vx) (hy : RV X w E (a.eval y) vy) :
    ∃ v u, K v ∧ RV X w E u v ∧ ∀ w', Yields P o a u w' := by
  unfold binK at hk
  split at hk
  · rename_i k m k' n
    have ex : a.eval x = .int k m := hx
    have ey : a.eval y = .int k' n := hy
    split at hk
    · refine ⟨_, _, wrapC_is hk.2, rfl, fun w' => ?_⟩
      have h0 : ¬ n < 0 := by have := hk.1; omega
      unfold Yields execOp; simp only [ho, ex, ey]; simp [go_sem, eqGuard, binOp, Op.shift, h0, wrapK_is]
    · refine ⟨_, _, hk.2, rfl, fun w' => ?_⟩
      have h0 : ¬ n < 0 := by have := hk.1; omega
      unfold Yields execOp; simp only [ho, ex, ey]; simp [go_sem, eqGuard, binOp, Op.shift, h0]
    · split at hk
      · rename_i e
        subst e
        split at hk
        · refine ⟨_, _, wrapC_is hk, rfl, fun w' => ?_⟩
          unfold Yields execOp; simp only [ho, ex, ey]; simp [go_sem, eqGuard, binOp, Op.intArith, wrapK_is]
        · refine ⟨_, _, wrapC_is hk, rfl, fun w' => ?_⟩
          unfold Yields execOp; simp only [ho, ex, ey]; simp [go_sem, eqGuard, binOp, Op.intArith, wrapK_is]
        · refine ⟨_, _, wrapC_is hk, rfl, fun w' => ?_⟩
          unfold Yields execOp; simp only [ho, ex, ey]; simp [go_sem, eqGuard, binOp, Op.intArith, wrapK_is]
        · refine ⟨_, _, wrapC_is hk.2, rfl, fun w' => ?_⟩
          unfold Yields execOp; simp only [ho, ex, ey]; simp [go_sem, eqGuard, binOp, Op.intDiv, wrapK_is, hk.1]
        · refine ⟨_, _, hk.2, rfl, fun w' => ?_⟩
          unfold Yields execOp; simp only [ho, ex, ey]; simp [go_sem, eqGuard, binOp, Op.intDiv, hk.1]
        · refine ⟨_, _, wrapC_is hk, rfl, fun w' => ?_⟩
          unfold Yields execOp; simp only [ho, ex, ey]; simp [go_sem, eqGuard, binOp, Op.intBits, wrapK_is]
        · refine ⟨_, _, wrapC_is hk, rfl, fun w' => ?_⟩
          unfold Yields execOp; simp only [ho, ex, ey]; simp [go_sem, eqGuard, binOp, Op.intBits, wrapK_is]
        · refine ⟨_, _, hk, rfl, fun w' => ?_⟩
          unfold Yields execOp; simp only [ho, ex, ey]; simp [go_sem, eqGuard, binOp, Op.intCmp]; rw [Bool.eq_iff_iff]; simp
        · refine ⟨_, _, hk, rfl, fun w' => ?_⟩
          unfold Yields execOp; simp only [ho, ex, ey]; simp [go_sem, eqGuard, binOp, Op.intCmp]; rw [Bool.eq_iff_iff]; simp
        · refine ⟨_, _, hk, rfl, fun w' => ?_⟩
          unfold Yields execOp; simp only [ho, ex, ey]; simp [go_sem, eqGuard, binOp, Op.intCmp]
        · refine ⟨_, _, hk, rfl, fun w' => ?_⟩
          unfold Yields execOp; simp only [ho, ex, ey]; simp [go_sem, eqGuard, binOp, Op.intCmp]
        · refine ⟨_, _, hk, rfl, fun w' => ?_⟩
          unfold Yields execOp; simp only [ho, ex, ey]; simp [go_sem, eqGuard, binOp, Op.intCmp]
        · refine ⟨_, _, hk, rfl, fun w' => ?_⟩
          unfold Yields execOp; simp only [ho, ex, ey]; simp [go_sem, eqGuard, binOp, Op.intCmp]
        · exact hk.elim
      · exact hk.elim
  · rename_i m n
    have ex : a.eval x = .bool m := hx
    have ey : a.eval y = .bool n := hy
    split at hk
    · rename_i hkind
      have hu := tab_bool hT hkind
      split at hk
      · exact ⟨_, _, hk, rfl, fun w' => yields_bin ho ex ey (fun w => rfl) (run_eq (equalIn_bool w' 9999 t m n hu) ⟨(fun _ _ h => nomatch h), (fun _ _ h => nomatch h), (fun _ _ _ h => nomatch h), (fun _ h => nomatch h)⟩).1⟩
      · exact ⟨_, _, hk, rfl, fun w' => yields_bin ho ex ey (fun w => rfl) (run_eq (equalIn_bool w' 9999 t m n hu) ⟨(fun _ _ h => nomatch h), (fun _ _ h => nomatch h), (fun _ _ _ h => nomatch h), (fun _ h => nomatch h)⟩).2⟩
      · exact hk.elim
    · exact hk.elim
  · rename_i ty l c
    obtain ⟨⟨cs, hsc, _⟩, _⟩ := hx
    have ey : a.eval y = .slice none 0 0 := hy
    obtain ⟨ad, cap, ex, _⟩ := hsc.len
    split at hk
    · rename_i e hkind
      have hu := tab_sl hT hkind
      split at hk
      · refine ⟨_, _, hk ad.isNone fun hn => ?_, rfl, fun w' => ?_⟩
        · rcases hsc with (⟨_, h0, _⟩ | ⟨b, o, c', e', _⟩) | ⟨_, h0, _⟩
          · exact List.eq_nil_of_length_eq_zero h0
          · rw [ex] at e'
            simp at e'
            rw [e'.1] at hn; cases hn
          · exact List.eq_nil_of_length_eq_zero h0
        · have hr := Lib.run_eql_slice_nil (P := P) w' t e ad l.length cap 0 0 hu
          exact yields_bin ho ex ey (fun w => rfl) hr
      · exact hk.elim
    · exact hk.elim
  · have ex : a.eval x = .slice none 0 0 := hx
    have ey : a.eval y = .slice none 0 0 := hy
    split at hk
    · rename_i e hkind
      have hu := tab_sl hT hkind
      split at hk
      · refine ⟨_, _, hk, rfl, fun w' => ?_⟩
        have hr := Lib.run_eql_slice_nil (P := P) w' t e none 0 0 0 0 hu
        exact yields_bin ho ex ey (fun w => rfl) hr
      · exact hk.elim
    · exact hk.elim
  · have ex := hx
    have ey : a.eval y = .nilFunc := hy
    have ex : a.eval x = _ := hx
    split at hk
    · rename_i hkind
      obtain ⟨ps, rs, vd, hu⟩ := tab_fn hT hkind
      split at hk
      · exact ⟨_, _, hk, rfl, fun w' => yields_bin ho ex ey (fun w => rfl) (run_eq (equalIn_fn w' 9999 t _ _ _ hu) ⟨(fun _ _ h => nomatch h), (fun _ _ h => nomatch h), (fun _ _ _ h => nomatch h), (fun _ h => nomatch h)⟩).1⟩
      · exact ⟨_, _, hk, rfl, fun w' => yields_bin ho ex ey (fun w => rfl) (run_eq (equalIn_fn w' 9999 t _ _ _ hu) ⟨(fun _ _ h => nomatch h), (fun _ _ h => nomatch h), (fun _ _ _ h => nomatch h), (fun _ h => nomatch h)⟩).2⟩
      · exact hk.elim
    · exact hk.elim
  · have ey : a.eval y = .nilFunc := hy
    have ex : a.eval x = .nilFunc := hx
    split at hk
    · rename_i hkind
      obtain ⟨ps, rs, vd, hu⟩ := tab_fn hT hkind
      split at hk
      · exact ⟨_, _, hk, rfl, fun w' => yields_bin ho ex ey (fun w => rfl) (run_eq (equalIn_nilfn w' 9999 t hu) ⟨(fun _ _ h => nomatch h), (fun _ _ h => nomatch h), (fun _ _ _ h => nomatch h), (fun _ h => nomatch h)⟩).1⟩
      · exact ⟨_, _, hk, rfl, fun w' => yields_bin ho ex ey (fun w => rfl) (run_eq (equalIn_nilfn w' 9999 t hu) ⟨(fun _ _ h => nomatch h), (fun _ _ h => nomatch h), (fun _ _ _ h => nomatch h), (fun _ h => nomatch h)⟩).2⟩
      · exact hk.elim
    · exact hk.elim
  · rename_i xs ys
    obtain ⟨us, ex, hxs⟩ := hx
    obtain ⟨vs, ey, hys⟩ := hy
    split at hk
    · rename_i hpe
      have hl : ∀ {Q : Prop}, (bif Nat.beq xs.length (T.at t).size then Q else False) → us.length = (T.at t).size ∧ Q := fun {Q} hq => by
        cases hb : Nat.beq xs.length (T.at t).size with
        | false => rw [hb] at hq; exact hq.elim
        | true => rw [hb] at hq; exact ⟨by rw [hxs.len, Nat.eq_of_beq_eq_true hb], hq⟩
      split at hk
      · obtain ⟨hlen, hk⟩ := hl hk
        obtain ⟨ms, ns, e1, e2, e3, hk⟩ := eqCs_is hk hxs hys
        subst e1 e2
        rw [List.length_map] at hlen
        have hq := fun w => hT.eq t hpe ms ns w hlen (by rw [← e3, hlen])
        exact ⟨_, _, hk, rfl, fun w' => yields_bin ho ex ey (fun w => (hq w).1 _ _ _) (run_eq (hq w').2 ⟨(fun _ _ h => nomatch h), (fun _ _ h => nomatch h), (fun _ _ _ h => nomatch h), (fun _ h => nomatch h)⟩).1⟩
      · obtain ⟨hlen, hk⟩ := hl hk
        obtain ⟨ms, ns, e1, e2, e3, hk⟩ := eqCs_is hk hxs hys
        subst e1 e2
        rw [List.length_map] at hlen
        have hq := fun w => hT.eq t hpe ms ns w hlen (by rw [← e3, hlen])
        exact ⟨_, _, hk, rfl, fun w' => yields_bin ho ex ey (fun w => (hq w).1 _ _ _) (run_eq (hq w').2 ⟨(fun _ _ h => nomatch h), (fun _ _ h => nomatch h), (fun _ _ _ h => nomatch h), (fun _ h => nomatch h)⟩).2⟩
      · exact hk.elim
    · exact hk.elim
  · exact hk.elim

theorem beq_of {a b : Nat} (h : Nat.beq a b = true) : a = b := Nat.eq_of_beq_eq_true h
/-- The kinds that take one cell. -/
def TK.plain : TK → Bool
  | .str _ => false
  | .arr _ _ => false
  | .other => false
  | _ => true
theorem plain_is (hT : T.ok P) {t : TypeId} (h : (T.at t).kind.plain = true) : plainType P t = true ∧ ∀ w, (isAgg t).run P w = .ok false w := by
  obtain ⟨d, h1, h2⟩ := tab_desc hT (t := t) (by intro e; rw [e] at h; cases h)
  have hd : ∀ fs n e, d ≠ .struct fs ∧ d ≠ .array n e := fun fs n e => by
    constructor
    · rintro rfl
      cases hk : (T.at t).kind <;> rw [hk] at h h2 <;> simp [TK.ok, TK.plain] at h h2
    · rintro rfl
      cases hk : (T.at t).kind <;> rw [hk] at h h2 <;> simp [TK.ok, TK.plain] at h h2
  constructor
  · unfold plainType; rw [h1]
    cases d <;> first | rfl | exact absurd rfl (hd _ 0 0).1 | exact absurd rfl (hd #[] _ _).2
  · intro w
    unfold isAgg
    rw [Sem.run_bind, run_underlying h1 w]
    cases d <;> first | rfl | exact absurd rfl (hd _ 0 0).1 | exact absurd rfl (hd #[] _ _).2
theorem agg_is (hT : T.ok P) {t : TypeId} (h : (∃ fs, (T.at t).kind = .str fs) ∨ ∃ n e, (T.at t).kind = .arr n e) : aggSize P t = some (T.at t).size ∧ ∀ w, (isAgg t).run P w = .ok true w := by
  have hs := tab_size' hT (t := t) (by rcases h with ⟨_, e⟩ | ⟨_, _, e⟩ <;> rw [e] <;> exact fun e => nomatch e)
  rcases h with ⟨fs, e⟩ | ⟨n, e', e⟩
  · obtain ⟨gs, hu, _⟩ := tab_str hT e
    exact ⟨by unfold aggSize; rw [hu]; exact hs, fun w => by unfold isAgg; rw [Sem.run_bind, run_underlying hu w]; rfl⟩
  · have hu := tab_arr hT e
    exact ⟨by unfold aggSize; rw [hu]; exact hs, fun w => by unfold isAgg; rw [Sem.run_bind, run_underlying hu w]; rfl⟩
/-- What loadK says, whatever way the cells are come by. -/
theorem loadK_cases {t : TypeId} {cs : List C} {off : Nat} {K : SV → Prop} (hk : loadK T t cs off K) :
    (((∃ fs, (T.at t).kind = .str fs) ∨ ∃ n e, (T.at t).kind = .arr n e) ∧ ((cs.drop off).take (T.at t).size).length = (T.at t).size ∧ K (.agg ((cs.drop off).take (T.at t).size))) ∨
    ((T.at t).kind.plain = true ∧ ∃ c, cs[off]? = some c ∧ K (.one c)) := by
  unfold loadK at hk
  split at hk
  · rename_i fs e
    have := normL_is hk
    cases hb : Nat.beq ((cs.drop off).take (T.at t).size).length (T.at t).size with
    | true => rw [hb] at this; exact .inl ⟨.inl ⟨_, e⟩, beq_of hb, this⟩
    | false => rw [hb] at this; exact this.elim
  · rename_i n e' e
    have := normL_is hk
    cases hb : Nat.beq ((cs.drop off).take (T.at t).size).length (T.at t).size with
    | true => rw [hb] at this; exact .inl ⟨.inr ⟨_, _, e⟩, beq_of hb, this⟩
    | false => rw [hb] at this; exact this.elim
  · exact hk.elim
  · rename_i h1 h2 h3
    obtain ⟨c, hc, hk⟩ := getK_is hk
    refine .inr ⟨?_, c, hc, hk⟩
    cases hkd : (T.at t).kind <;> first | rfl | exact absurd hkd (h1 _) | exact absurd hkd (h2 _ _) | exact absurd hkd h3
theorem loadK_is {t : TypeId} {cs : List C} {us : List Value} {off b oo : Nat} {x : Operand} {o : Oper} {K : SV → Prop} (hT : T.ok P) (ho : o.op = .load t x) (hk : loadK T t cs off K) (hcs : RCs X w E us cs)
    (hx : a.eval x = .pointer (some ⟨b, oo + off, none⟩)) : ∃ v u, K v ∧ RV X w E u v ∧ ∀ w', Row w' b oo us → Yields P o a u w' := by
  rcases loadK_cases hk with ⟨h1, h2, h3⟩ | ⟨h1, c, hc, h3⟩
  · have hl : ((us.drop off).take (T.at t).size).length = (T.at t).size := by
      rw [List.length_take, List.length_drop, hcs.len]
      rwa [List.length_take, List.length_drop] at h2
    refine ⟨_, .agg ((us.drop off).take (T.at t).size).toArray, h3, ⟨_, rfl, (hcs.drop off).take _⟩, fun w' hr => ?_⟩
    exact ev_load t x b oo off us _ ho hx hr (by rw [(agg_is hT h1).1, hl]) (by rw [hl])
  · obtain ⟨u, hu, hr⟩ := hcs.at hc
    exact ⟨_, u, h3, hr, fun w' hrow => ev_load1 t x b oo off us u ho hx hrow (plain_is hT h1).1 hu⟩
theorem part_is {t : TypeId} {cs : List C} {us : List Value} {off : Nat} {K : SV → Prop} (hT : T.ok P) (hk : loadK T t cs off K) (hcs : RCs X w E us cs) :
    ∃ v u, K v ∧ RV X w E u v ∧ ∀ w', (part t us.toArray off).run P w' = .ok u w' := by
  rcases loadK_cases hk with ⟨h1, h2, h3⟩ | ⟨h1, c, hc, h3⟩
  · have hs := tab_size' hT (t := t) (by rcases h1 with ⟨_, e⟩ | ⟨_, _, e⟩ <;> rw [e] <;> exact fun e => nomatch e)
    refine ⟨_, .agg ((us.drop off).take (T.at t).size).toArray, h3, ⟨_, rfl, (hcs.drop off).take _⟩, fun w' => ?_⟩
    cases hq : P.info? t with
    | none => rw [hq] at hs; cases hs
    | some i =>
      have hi : i.size = (T.at t).size := by rw [hq] at hs; simpa using hs
      unfold part
      rw [Sem.run_bind, (agg_is hT h1).2 w']
      simp [sizeOf, typeInfo, hq, hi]
  · obtain ⟨u, hu, hr⟩ := hcs.at hc
    refine ⟨_, u, h3, hr, fun w' => ?_⟩
    unfold part
    rw [Sem.run_bind, (plain_is hT h1).2 w']
    simp [hu]

theorem own_of_mem {k : Nat} {bx : Box} (h : RE X0 w0 as E st a w) (hm : (k, bx) ∈ st.mem) (hl : E.live k = true) : ¬ X0 (E.blk k) := fun hx => (h.apart _ hx).2 k bx hm hl rfl
theorem Row.same {w w' : World} {b o : Nat} {cs : List Value} (h : Row w b o cs) (k : w'.heap[b]? = w.heap[b]?) : Row w' b o cs := h.to k

/-- A load. -/
theorem loadAt_is {t : TypeId} {x : Operand} {o : Oper} {v : SV} {K : SV → Prop} (hT : T.ok P) (ho : o.op = .load t x) (h : RE X0 w0 as E st a w) (hx : RV (own X0 E st.mem) w E (a.eval x) v) (hk : loadAtK T t st v K) :
    ∃ v u, K v ∧ RV (own X0 E st.mem) w E u v ∧ ∀ w', (∀ b, b < w.heap.size → ¬ X0 b → w'.heap[b]? = w.heap[b]?) → Yields P o a u w' := by
  unfold loadAtK at hk
  split at hk
  · rename_i k off
    obtain ⟨bx, hm, hk⟩ := findK_is hk
    have hr := h.mem k bx hm
    split at hk
    · rename_i t' cs
      obtain ⟨hl, vs, hb, hcs⟩ := hr
      obtain ⟨v, u, h1, h2, h3⟩ := loadK_is (a := a) (b := E.blk k) (oo := 0) (off := off) hT ho hk hcs (by rw [Nat.zero_add]; exact hx)
      refine ⟨v, u, h1, h2, fun w' hw => h3 w' ?_⟩
      have := row_box hb
      exact Row.same this (hw _ (Array.getElem?_eq_some_iff.1 hb).1 (own_of_mem h hm hl))
    · exact hk.elim
  · rename_i k i sz off
    obtain ⟨bx, hm, hk⟩ := findK_is hk
    have hr := h.mem k bx hm
    split at hk
    · rename_i e ty l
      cases hsz : Nat.beq sz ty.size with
      | false => rw [hsz] at hk; exact hk.elim
      | true =>
        rw [hsz] at hk
        obtain ⟨hi, hk⟩ := hk
        have hsz := beq_of hsz
        unfold RB at hr
        cases hl : E.live k with
        | false => rw [hl] at hr; obtain ⟨_, hr⟩ := hr; rw [hr] at hi; simp at hi
        | true =>
          rw [hl] at hr
          obtain ⟨pre, cap, cur, e1, e2, e3, e4, e5, e6⟩ := hr
          obtain ⟨lc, d, rc, q1, q2, q3, _, _⟩ := Chunks.at ty.size (fun _ _ h => DC.len h) e6 (List.getElem?_eq_getElem hi)
          have hget : l.getD i (dflt ty) = l[i] := by simp [List.getD, hi]
          rw [hget] at hk
          have hxx : a.eval x = .pointer (some ⟨E.blk k, pre.length + i * ty.size + off, none⟩) := by
            have := (show a.eval x = .pointer (some ⟨E.blk k, ofV (E.rv k) + i * sz + off, none⟩) from hx)
            rw [e1, hsz] at this; exact this
          obtain ⟨v, u, h1, h2, h3⟩ := loadK_is (a := a) (b := E.blk k) (oo := pre.length + i * ty.size) (off := off) hT ho hk (flat_is (E := E) q3) hxx
          refine ⟨v, u, h1, h2, fun w' hw => h3 w' ?_⟩
          have hrow : Row w (E.blk k) pre.length (cur.take (l.length * ty.size)) := fun j u hj => row_body e2 j u (by
            have hlt := (List.getElem?_eq_some_iff.1 hj).1
            rw [List.length_take] at hlt
            rwa [List.getElem?_take_of_lt (by omega)] at hj)
          rw [q1] at hrow
          have := hrow.right.left
          rw [q2] at this
          exact Row.same this (hw _ (Array.getElem?_eq_some_iff.1 e2).1 (own_of_mem h hm hl))
    · rename_i e ty l j cs
      cases hsz : Nat.beq sz ty.size with
      | false => rw [hsz] at hk; exact hk.elim
      | true =>
        rw [hsz] at hk
        obtain ⟨hij, hk⟩ := hk
        have hsz := beq_of hsz
        obtain ⟨hl, pre, cap, cur, us, c1, c3, e1, e2, e3, e4, e5, e6, e7, e8, e9, e10, _, _⟩ := hr
        have hxx : a.eval x = .pointer (some ⟨E.blk k, pre.length + i * ty.size + off, none⟩) := by
          have := (show a.eval x = .pointer (some ⟨E.blk k, ofV (E.rv k) + i * sz + off, none⟩) from hx)
          rw [e1, hsz] at this; exact this
        obtain ⟨v, u, h1, h2, h3⟩ := loadK_is (a := a) (b := E.blk k) (oo := pre.length + i * ty.size) (off := off) hT ho hk e10 hxx
        refine ⟨v, u, h1, h2, fun w' hw => h3 w' ?_⟩
        have hrow : Row w (E.blk k) pre.length (cur.take (l.length * ty.size)) := fun j u hj => row_body e2 j u (by
          have hlt := (List.getElem?_eq_some_iff.1 hj).1
          rw [List.length_take] at hlt
          rwa [List.getElem?_take_of_lt (by omega)] at hj)
        rw [e7] at hrow
        have := hrow.right.left
        rw [e8, ← hij] at this
        exact Row.same this (hw _ (Array.getElem?_eq_some_iff.1 e2).1 (own_of_mem h hm hl))
    · exact hk.elim
  · rename_i ty l i off
    obtain ⟨hi, b, oo, cs, e, hnx, hlt, hch, hrow⟩ := hx
    obtain ⟨lc, d, rc, q1, q2, q3, _, _⟩ := Chunks.at ty.size (fun _ _ h => DC.len h) hch (List.getElem?_eq_getElem hi)
    have hget : l.getD i (dflt ty) = l[i] := by simp [List.getD, hi]
    rw [hget] at hk
    obtain ⟨v, u, h1, h2, h3⟩ := loadK_is (a := a) (b := b) (oo := oo + i * ty.size) (off := off) hT ho hk (flat_is (E := E) q3) e
    refine ⟨v, u, h1, h2, fun w' hw => h3 w' ?_⟩
    rw [q1] at hrow
    have := hrow.right.left
    rw [q2] at this
    exact Row.same this (hw _ hlt fun hx => hnx (.inl hx))
  · exact hk.elim

/-- A field's address. -/
theorem field_is {t : TypeId} {x : Operand} {f : Nat} {o : Oper} {v : SV} {fs : List (Nat × TypeId)} {K : SV → Prop} (hT : T.ok P) (ho : o.op = .fieldAddr t x f) (hkd : (T.at t).kind = .str fs) (hx : RV X w E (a.eval x) v) (hk : fieldK T fs f v K) :
    ∃ v u, K v ∧ RV X w E u v ∧ ∀ w', Yields P o a u w' := by
  unfold fieldK at hk
  split at hk
  · rename_i d ft hf
    cases hz : Nat.beq (T.at ft).size 0 with
    | true => rw [hz] at hk; exact hk.elim
    | false =>
      rw [hz] at hk
      have hz := beq_false hz
      obtain ⟨gs, hu, hg⟩ := tab_str hT hkd
      have hoff : fieldOff P t f = some d := by
        unfold fieldOff
        rw [hu]
        simp only
        rw [← hg, List.getElem?_map] at hf
        cases hgf : gs.toList[f]? with
        | none => rw [hgf] at hf; cases hf
        | some fl =>
          rw [hgf] at hf
          simp only [Option.map_some, Option.some.injEq, Prod.mk.injEq] at hf
          rw [← Array.getElem?_toList, hgf]
          simp only [hf.2]
          have hs := tab_size hT (t := ft) hz
          cases hq : P.info? ft with
          | none => rw [hq] at hs; cases hs
          | some i =>
            have hi : i.size = (T.at ft).size := by rw [hq] at hs; simpa using hs
            simp only [hi, hz, if_false, hf.1]
      split at hk
      · exact ⟨_, _, hk, rfl, fun w' => ev_field t x f _ _ d ho hx hoff⟩
      · rename_i k i sz off
        refine ⟨_, _, hk, (rfl : _ = Value.pointer (some ⟨E.blk k, ofV (E.rv k) + i * sz + (off + d), none⟩)), fun w' => ?_⟩
        have := ev_field (P := P) (w := w') t x f _ _ d ho hx hoff
        rw [Nat.add_assoc] at this
        exact this
      · rename_i ty l i off
        obtain ⟨hi, b, oo, cs, e, h1⟩ := hx
        refine ⟨_, _, hk, ⟨hi, b, oo, cs, rfl, h1⟩, fun w' => ?_⟩
        have := ev_field (P := P) (w := w') t x f _ _ d ho e hoff
        rw [Nat.add_assoc] at this
        exact this
      · exact hk.elim
  · exact hk.elim

theorem szOk_is {a b : Nat} (h : szOk a b = true) : a ≠ 0 ∧ a = b := by
  unfold szOk at h
  cases hz : Nat.beq a 0 with
  | true => rw [hz] at h; cases h
  | false => rw [hz] at h; exact ⟨beq_false hz, beq_of h⟩
theorem elem_size (hT : T.ok P) {t e : TypeId} {n : Nat} (hkd : (T.at t).kind = .sl e) (hz : szOk (T.at e).size n = true) : elemSize P t = some n := by
  obtain ⟨h0, h1⟩ := szOk_is hz
  unfold elemSize; rw [tab_sl hT hkd]; simp only
  rw [tab_size hT h0, h1]
theorem yields_array (hT : T.ok P) {t e : TypeId} {n : Nat} (hkd : (T.at t).kind = .arr n e) (hz : Nat.beq (T.at e).size 0 = false) {o : Oper} {x ix : Operand} {b oo j : Nat} (ho : o.op = .indexAddr t x ix) (hx : a.eval x = .pointer (some ⟨b, oo, none⟩)) (hi : a.eval ix = .int .i64 (j : Int)) (hj : j < n) (w' : World) :
    Yields P o a (.pointer (some ⟨b, oo + j * (T.at e).size, none⟩)) w' := by
  have hs := tab_size hT (beq_false hz)
  cases hq : P.info? e with
  | none => rw [hq] at hs; cases hs
  | some q =>
    have hqs : q.size = (T.at e).size := by rw [hq] at hs; simpa using hs
    unfold Yields execOp
    simp [ho, hx, hi, Instr.indexAt, asIntOf, Sem.run_bind, run_underlying (tab_arr hT hkd), hj, sizeOf, typeInfo, hq, hqs, Addr.add_mid, Instr.sureAddr]

/-- An element's address. -/
theorem index_is {t : TypeId} {x ix : Operand} {i : Int} {o : Oper} {v : SV} {K : SV → Prop} (hT : T.ok P) (ho : o.op = .indexAddr t x ix) (h : RE X0 w0 as E st a w) (hx : RV (own X0 E st.mem) w E (a.eval x) v) (hi : a.eval ix = .int .i64 i) (hk : indexK T t st v i K) :
    ∃ v u, K v ∧ RV (own X0 E st.mem) w E u v ∧ ∀ w', Yields P o a u w' := by
  unfold indexK at hk
  split at hk
  · rename_i e ty l c hkd
    cases hz : szOk (T.at e).size ty.size with
    | false => rw [hz] at hk; exact hk.elim
    | true =>
      rw [hz] at hk
      obtain ⟨⟨h0, h1⟩, hk⟩ := hk
      obtain ⟨j, rfl⟩ := Int.eq_ofNat_of_zero_le h0
      have hj : j < l.length := by omega
      obtain ⟨⟨cs, hsc, hch⟩, _⟩ := hx
      have hs := elem_size hT hkd hz
      rcases hsc with (⟨_, h0', _⟩ | ⟨b, oo, cap, e', hnx, hlt, hcap, hmax, hrow⟩) | ⟨_, h0', _⟩
      · omega
      rotate_left
      · omega
      · refine ⟨_, _, hk, ⟨by simpa using hj, b, oo, cs, rfl, hnx, hlt, hch, hrow⟩, fun w' => ?_⟩
        rw [Int.toNat_natCast, Nat.add_zero]
        exact ev_index t x ix b oo _ cap j _ ho e' hi hj hs
  · rename_i e k hkd
    obtain ⟨bx, hm, hk⟩ := findK_is hk
    have hr := h.mem k bx hm
    split at hk
    · rename_i e' ty l
      cases hz : szOk (T.at e).size ty.size with
      | false => rw [hz] at hk; exact hk.elim
      | true =>
        rw [hz] at hk
        obtain ⟨⟨h0, h1⟩, hk⟩ := hk
        obtain ⟨j, rfl⟩ := Int.eq_ofNat_of_zero_le h0
        have hj : j < l.length := by omega
        unfold RB at hr
        cases hl : E.live k with
        | false => rw [hl] at hr; obtain ⟨_, hr⟩ := hr; rw [hr] at hj; simp at hj
        | true =>
          rw [hl] at hr
          obtain ⟨pre, cap, cur, e1, e2, e3, e4, e5, e6⟩ := hr
          have hs := elem_size hT hkd hz
          refine ⟨_, _, hk, (rfl : _ = Value.pointer (some ⟨E.blk k, ofV (E.rv k) + (j : Int).toNat * ty.size + 0, none⟩)), fun w' => ?_⟩
          have := ev_index (P := P) (w := w') t x ix (E.blk k) pre.length l.length cap j _ ho (hx.1.trans e1) hi hj hs
          rw [Int.toNat_natCast, Nat.add_zero, show ofV (E.rv k) = pre.length by rw [e1]; rfl]
          exact this
    · exact hk.elim
  · rename_i e k off n cap ty hkd
    cases hz : szOk (T.at e).size ty.size with
    | false => rw [hz] at hk; exact hk.elim
    | true =>
      rw [hz] at hk
      obtain ⟨⟨h0, h1⟩, hk⟩ := hk
      obtain ⟨j, rfl⟩ := Int.eq_ofNat_of_zero_le h0
      refine ⟨_, _, hk, rfl, fun w' => ?_⟩
      rw [Int.toNat_natCast]
      exact ev_index t x ix _ off n cap j _ ho hx.1 hi (by omega) (elem_size hT hkd hz)
  · rename_i n e k off hkd
    cases hz : Nat.beq (T.at e).size 0 with
    | true => rw [hz] at hk; exact hk.elim
    | false =>
      rw [hz] at hk
      obtain ⟨⟨h0, h1⟩, hk⟩ := hk
      obtain ⟨j, rfl⟩ := Int.eq_ofNat_of_zero_le h0
      refine ⟨_, _, hk, rfl, fun w' => ?_⟩
      rw [Int.toNat_natCast]
      exact yields_array hT hkd hz ho hx hi (by omega) w'
  · rename_i n e k j0 sz off hkd
    cases hz : Nat.beq (T.at e).size 0 with
    | true => rw [hz] at hk; exact hk.elim
    | false =>
      rw [hz] at hk
      obtain ⟨⟨h0, h1⟩, hk⟩ := hk
      obtain ⟨j, rfl⟩ := Int.eq_ofNat_of_zero_le h0
      refine ⟨_, _, hk, (rfl : _ = Value.pointer (some ⟨E.blk k, ofV (E.rv k) + j0 * sz + (off + (j : Int).toNat * (T.at e).size), none⟩)), fun w' => ?_⟩
      rw [Int.toNat_natCast, ← Nat.add_assoc]
      exact yields_array hT hkd hz ho hx hi (by omega) w'
  · rename_i n e ty l j0 off hkd
    cases hz : Nat.beq (T.at e).size 0 with
    | true => rw [hz] at hk; exact hk.elim
    | false =>
      rw [hz] at hk
      obtain ⟨⟨h0, h1⟩, hk⟩ := hk
      obtain ⟨j, rfl⟩ := Int.eq_ofNat_of_zero_le h0
      obtain ⟨hj0, b, oo, cs, e', h2⟩ := hx
      refine ⟨_, _, hk, ⟨hj0, b, oo, cs, rfl, h2⟩, fun w' => ?_⟩
      rw [Int.toNat_natCast, ← Nat.add_assoc]
      exact yields_array hT hkd hz ho e' hi (by omega) w'
  · exact hk.elim

/-- A length. -/
theorem len_is {x : Operand} {o : Oper} {v : SV} {t : TypeId} {K : Nat → Prop} (ho : o.op = .call { callee := .builtin .len, args := #[x], argTypes := #[t] }) (ht : (elemSize P t).isSome = true) (h : RE X0 w0 as E st a w) (hx : RV (own X0 E st.mem) w E (a.eval x) v) (hk : lenK st v K) :
    ∃ n : Nat, K n ∧ ∀ w', Yields P o a (.int .i64 n) w' := by
  unfold lenK at hk
  split at hk
  · obtain ⟨⟨cs, hsc, _⟩, _⟩ := hx
    obtain ⟨ad, c, e, _⟩ := hsc.len
    exact ⟨_, hk, fun w' => ev_len x t ad _ c ho e ht⟩
  · exact ⟨0, hk, fun w' => ev_len x t none 0 0 ho hx ht⟩
  · obtain ⟨base, e⟩ := hx
    exact ⟨0, hk, fun w' => ev_len x t _ 0 0 ho e ht⟩
  · exact ⟨_, hk, fun w' => ev_len x t _ _ _ ho hx.1 ht⟩
  · rename_i k
    obtain ⟨bx, hm, hk⟩ := findK_is hk
    have hr := h.mem k bx hm
    split at hk
    · rename_i e' ty l
      refine ⟨_, hk, fun w' => ?_⟩
      unfold RB at hr
      cases hl : E.live k with
      | false =>
        rw [hl] at hr
        obtain ⟨hr, rfl⟩ := hr
        obtain ⟨base, e⟩ := hr
        exact ev_len x t _ 0 0 ho (hx.1.trans e) ht
      | true =>
        rw [hl] at hr
        obtain ⟨pre, cap, cur, e1, _⟩ := hr
        exact ev_len x t _ _ cap ho (hx.1.trans e1) ht
    · exact hk.elim
  · exact hk.elim

/-! ### Cuts -/
/-- What a bound says. -/
def Bd (a : Act) (x : Option Operand) (n : Option Int) : Prop := (x = none ∧ n = none) ∨ ∃ y i, x = some y ∧ n = some i ∧ a.eval y = .int .i64 i
theorem optInt_is {x : Option Operand} {K : Option Int → Prop} (hk : optIntK st x K) (h : RE X0 w0 as E st a w) : ∃ n, K n ∧ Bd a x n := by
  unfold optIntK at hk
  split at hk
  · exact ⟨none, hk, .inl ⟨rfl, rfl⟩⟩
  · rename_i y
    obtain ⟨v, hk, hv⟩ := eval_is hk h
    split at hk
    · rename_i i
      exact ⟨_, hk, .inr ⟨y, i, rfl, rfl, hv⟩⟩
    · exact hk.elim
theorem yields_slice {t e : TypeId} {x : Operand} {lo hi mx : Option Operand} {o : Oper} {ad : Option Addr} {n cap size l h m : Nat} (ho : o.op = .slice t x lo hi mx) (hu : P.underlying t = some (.slice e)) (hs : elemSize P t = some size)
    (hx : a.eval x = .slice ad n cap) (hl : Bd a lo none ∧ l = 0 ∨ Bd a lo (some l)) (hh : Bd a hi none ∧ Bd a mx none ∧ h = n ∧ m = cap ∨ Bd a hi (some h) ∧ (Bd a mx none ∧ m = cap ∨ Bd a mx (some m))) (h1 : l ≤ h) (h2 : h ≤ m) (h3 : m ≤ cap) (w' : World) :
    Yields P o a (.slice (if m = l then ad else ad.map (·.add (l * size))) (h - l) (m - l)) w' := by
  have hq : ∃ q, P.info? e = some q ∧ q.size = size := by
    unfold elemSize at hs; rw [hu] at hs; simp only at hs
    cases hq : P.info? e with
    | none => rw [hq] at hs; cases hs
    | some q => rw [hq] at hs; exact ⟨q, rfl, by simpa using hs⟩
  obtain ⟨q, hq, hqs⟩ := hq
  have hi1 : ∀ k : Nat, IntKind.i64 = IntKind.i64 := fun _ => rfl
  have key : ∀ (lo' hi' mx' : Option Value), lo' = lo.map a.eval → hi' = hi.map a.eval → mx' = mx.map a.eval → (Instr.sliceBounds true n cap lo' hi' mx').run P w' = .ok (l, h, m) w' := by
    intro lo' hi' mx' e1 e2 e3
    rcases hl with ⟨⟨rfl, _⟩ | ⟨_, _, _, c, _⟩, rfl⟩ | ⟨_, c⟩ | ⟨y, i, rfl, c, hy⟩ <;> try cases c
    all_goals
      rcases hh with ⟨⟨rfl, _⟩ | ⟨_, _, _, c, _⟩, ⟨rfl, _⟩ | ⟨_, _, _, c, _⟩, rfl, rfl⟩ | ⟨⟨_, c⟩ | ⟨y2, i2, rfl, c, hy2⟩, ⟨⟨rfl, _⟩ | ⟨_, _, _, c', _⟩, rfl⟩ | ⟨_, c'⟩ | ⟨y3, i3, rfl, c', hy3⟩⟩ <;> (try cases c) <;> (try cases c')
    all_goals
      subst e1 e2 e3
      simp [Instr.sliceBounds, Instr.sliceBound, asIntOf, *]
  unfold Yields execOp
  simp only [ho, Instr.sliceAt, Sem.run_bind, run_underlying hu, Result.andThen_ok, Instr.slice, hx]
  rw [key _ _ _ rfl rfl rfl]
  simp [sizeOf, typeInfo, hq, hqs]

theorem Chunks.takeL {α : Type} {Q : List Value → α → Prop} (k : Nat) (hk : ∀ c x, Q c x → c.length = k) : ∀ {xs : List α} {cs : List Value} (n : Nat), Chunks Q xs cs → Chunks Q (xs.take n) (cs.take (n * k))
  | _, _, 0, _ => by rw [Nat.zero_mul]; exact rfl
  | [], _, n + 1, h => by obtain rfl := h; simp; exact rfl
  | x :: xs, _, n + 1, ⟨c, r, e, h1, h2⟩ => by
    refine ⟨c, r.take (n * k), ?_, h1, Chunks.takeL k hk n h2⟩
    rw [e, Nat.add_mul, Nat.one_mul, Nat.add_comm, List.take_append, hk _ _ h1, List.take_of_length_le (by rw [hk _ _ h1]; omega), Nat.add_sub_cancel_left]
theorem Chunks.dropL {α : Type} {Q : List Value → α → Prop} (k : Nat) (hk : ∀ c x, Q c x → c.length = k) : ∀ {xs : List α} {cs : List Value} (n : Nat), Chunks Q xs cs → Chunks Q (xs.drop n) (cs.drop (n * k))
  | _, _, 0, h => by rw [Nat.zero_mul]; exact h
  | [], _, n + 1, h => by obtain rfl := h; simp; exact rfl
  | x :: xs, _, n + 1, ⟨c, r, e, h1, h2⟩ => by
    have hd : c.drop (k + n * k) = [] := List.drop_eq_nil_of_le (by rw [hk _ _ h1]; omega)
    rw [e, Nat.add_mul, Nat.one_mul, Nat.add_comm (n * k), List.drop_append, hk _ _ h1, hd, Nat.add_sub_cancel_left, List.nil_append]
    exact Chunks.dropL k hk n h2
theorem Row.takeL {b o n : Nat} {cs : List Value} (h : Row w b o cs) : Row w b o (cs.take n) := fun i v hv => by
  have hlt := (List.getElem?_eq_some_iff.1 hv).1
  rw [List.length_take] at hlt
  rw [List.getElem?_take_of_lt (by omega)] at hv
  exact h i v hv
theorem Row.dropL {b o n : Nat} {cs : List Value} (h : Row w b o cs) : Row w b (o + n) (cs.drop n) := fun i v hv => by
  rw [List.getElem?_drop] at hv
  rw [Nat.add_assoc]
  exact h _ v hv
theorem slice_reads {ad : Option Addr} {t : Ty} {l : List (Den t)} {cap p h m : Nat} (hx : RSl X w (.slice ad l.length cap) t l) (hp : p ≤ h) (hh : h ≤ l.length) (hm : h ≤ m) (hc : m ≤ cap) (hcap : ad = none → cap = 0) :
    RSl X w (.slice (if m = p then ad else ad.map (·.add (p * t.size))) (h - p) (m - p)) t ((l.take h).drop p) := by
  obtain ⟨cs, hsc, hch⟩ := hx
  have hlen : ((l.take h).drop p).length = h - p := by rw [List.length_drop, List.length_take]; omega
  have hch2 := Chunks.dropL t.size (fun _ _ h => DC.len h) p (Chunks.takeL t.size (fun _ _ h => DC.len h) h hch)
  refine ⟨(cs.take (h * t.size)).drop (p * t.size), ?_, hch2⟩
  rw [hlen]
  have emp : l.length = 0 → cap = 0 → SX X w (.slice (if m = p then ad else ad.map (·.add (p * t.size))) (h - p) (m - p)) (h - p) ((cs.take (h * t.size)).drop (p * t.size)) := fun h0 h3 => by
    have : p = 0 ∧ h = 0 ∧ m = 0 := by omega
    obtain ⟨rfl, rfl, rfl⟩ := this
    simp only [if_true, Nat.zero_mul, List.take_zero, List.drop_nil, Nat.sub_self]
    exact SX.empty
  rcases hsc with (⟨e, h0, hnil⟩ | ⟨b, o, c, e, hnx, hlt, h1, h2, hrow⟩) | ⟨⟨ad', e⟩, h0, _⟩
  · injection e with e1 e2 e3
    exact emp h0 e3
  rotate_left
  · injection e with e1 e2 e3
    exact emp h0 e3
  · injection e with e1 e2 e3
    subst e1 e3
    by_cases hmp : m = p
    · subst hmp
      have : h = m := by omega
      subst this
      refine .inl (.inr ⟨b, o, 0, by simp, hnx, hlt, by omega, by decide, ?_⟩)
      rw [List.drop_eq_nil_of_le (by rw [List.length_take]; omega)]
      exact Row.nil _ _ _
    · refine .inl (.inr ⟨b, o + p * t.size, m - p, by simp [hmp, Addr.add_mid], hnx, hlt, by omega, by omega, Row.dropL (Row.takeL hrow)⟩)
theorem slice_cap {X : Nat → Prop} {t : Ty} {l : List (Den t)} {ad : Option Addr} {cap : Nat} (h : RSl X w (.slice ad l.length cap) t l) : l.length ≤ cap ∧ cap ≤ maxLen ∧ (ad = none → cap = 0) := by
  obtain ⟨cs, hsc, _⟩ := h
  rcases hsc with (⟨e, h0, _⟩ | ⟨b, o, c, e, _, _, h1, h2, _⟩) | ⟨⟨ad', e⟩, h0, _⟩
  · injection e with e1 e2 e3; subst e3; exact ⟨by omega, by decide, fun _ => rfl⟩
  · injection e with e1 e2 e3; subst e1 e3; exact ⟨h1, h2, fun e => nomatch e⟩
  · injection e with e1 e2 e3; subst e3; exact ⟨by omega, by decide, fun _ => rfl⟩
theorem bd_nat {x : Option Operand} {i : Int} (h : Bd a x (some i)) (h0 : 0 ≤ i) : Bd a x (some ((i.toNat : Nat) : Int)) := by rwa [Int.toNat_of_nonneg h0]
/-- A cut of a slice of data. -/
theorem slice_is {t : TypeId} {x : Operand} {xl xh xm : Option Operand} {lo hi mx : Option Int} {o : Oper} {v : SV} {K : SV → Prop} (hT : T.ok P) (ho : o.op = .slice t x xl xh xm) (hx : RV X w E (a.eval x) v)
    (hl : Bd a xl lo) (hh : Bd a xh hi) (hm : Bd a xm mx) (hk : sliceK T t v lo hi mx K) :
    ∃ v u, K v ∧ RV X w E u v ∧ ∀ w', Yields P o a u w' := by
  unfold sliceK at hk
  split at hk
  · rename_i e ty l c hkd
    cases hz : szOk (T.at e).size ty.size with
    | false => rw [hz] at hk; exact hk.elim
    | true =>
      rw [hz] at hk
      have hs := elem_size hT hkd hz
      have hu := tab_sl hT hkd
      obtain ⟨hsl, hc⟩ := hx
      obtain ⟨ad, cap, ex, _⟩ := hsl.elim fun _ h => h.1.len
      rw [ex] at hsl hc
      obtain ⟨hc1, hc2, hc3⟩ := slice_cap hsl
      have hlo : 0 ≤ lo.getD 0 → Bd a xl none ∧ (lo.getD 0).toNat = 0 ∨ Bd a xl (some ((lo.getD 0).toNat : Nat)) := fun h0 => by
        rcases hl with ⟨e1, rfl⟩ | ⟨y, i, e1, rfl, hy⟩
        · exact .inl ⟨.inl ⟨e1, rfl⟩, rfl⟩
        · exact .inr (bd_nat (.inr ⟨y, i, e1, rfl, hy⟩) h0)
      unfold cutK at hk
      simp only [cond_true] at hk
      split at hk
      · obtain ⟨⟨h0, h1⟩, hk⟩ := hk
        refine ⟨_, _, hk, ⟨?_, fun e' => ?_⟩, fun w' => yields_slice ho hu hs ex (hlo h0) (.inl ⟨hh, hm, rfl, rfl⟩) (by omega) hc1 (Nat.le_refl _) w'⟩
        · have := slice_reads hsl (p := (lo.getD 0).toNat) (h := l.length) (m := cap) (by omega) (Nat.le_refl _) hc1 (Nat.le_refl _) hc3
          rwa [List.take_length] at this
        · obtain ⟨ad', h2⟩ := hc e'
          injection h2 with _ _ h2
          subst h2
          rw [List.length_drop]
          exact ⟨_, rfl⟩
      · rename_i hv
        obtain ⟨⟨h0, h1, h2⟩, hk⟩ := hk
        refine ⟨_, _, hk, ⟨slice_reads hsl (p := (lo.getD 0).toNat) (h := hv.toNat) (m := cap) (by omega) (by omega) (by omega) (Nat.le_refl _) hc3, fun e' => nomatch e'⟩,
          fun w' => yields_slice ho hu hs ex (hlo h0) (.inr ⟨bd_nat hh (by omega), .inl ⟨hm, rfl⟩⟩) (by omega) (by omega) (Nat.le_refl _) w'⟩
      · rename_i hv mv
        obtain ⟨⟨h0, h1, rfl, h2⟩, hk⟩ := hk
        refine ⟨_, _, hk, ⟨slice_reads hsl (p := (lo.getD 0).toNat) (h := hv.toNat) (m := hv.toNat) (by omega) (by omega) (Nat.le_refl _) (by omega) hc3, fun _ => ?_⟩,
          fun w' => yields_slice ho hu hs ex (hlo h0) (.inr ⟨bd_nat hh (by omega), .inr (bd_nat hm (by omega))⟩) (by omega) (Nat.le_refl _) (by omega) w'⟩
        rw [List.length_drop, List.length_take, Nat.min_eq_left (by omega)]
        exact ⟨_, rfl⟩
      · exact hk.elim
  · rename_i e ty hkd
    cases hz : szOk (T.at e).size ty.size with
    | false => rw [hz] at hk; exact hk.elim
    | true =>
      rw [hz] at hk
      simp only [cond_true] at hk
      split at hk
      · rename_i hv
        obtain ⟨h0, hk⟩ := hk
        subst h0
        have hs := elem_size hT hkd hz
        have hu := tab_sl hT hkd
        have hsl : ∃ ad, a.eval x = .slice ad ([] : List (Den ty)).length 0 ∧ RSl X w (.slice ad ([] : List (Den ty)).length 0) ty [] := by
          obtain ⟨base, e⟩ := (show Emp X w (a.eval x) from hx)
          exact ⟨base, e, [], SX.empty, rfl⟩
        obtain ⟨ad, ex, hsl⟩ := hsl
        have hc3 : ad = none → 0 = 0 := fun _ => rfl
        have hlo : Bd a xl none ∧ 0 = 0 ∨ Bd a xl (some ((0 : Nat) : Int)) := .inl ⟨hl, rfl⟩
        exact ⟨_, _, hk, ⟨slice_reads hsl (p := 0) (h := 0) (m := 0) (Nat.le_refl _) (Nat.zero_le _) (Nat.le_refl _) (Nat.le_refl _) hc3, fun _ => ⟨_, rfl⟩⟩,
          fun w' => yields_slice ho hu hs ex hlo (.inr ⟨bd_nat hh (by omega), .inl ⟨hm, rfl⟩⟩) (Nat.le_refl _) (Nat.zero_le _) (Nat.le_refl _) w'⟩
      · exact hk.elim
  · rename_i n e k off hkd
    cases hz : Nat.beq (T.at e).size 0 with
    | true => rw [hz] at hk; exact hk.elim
    | false =>
      rw [hz] at hk
      simp only [cond_false] at hk
      split at hk
      · rename_i ty hty
        have hl0 : xl = none := by
          rcases hl with ⟨e, _⟩ | ⟨_, _, _, e, _⟩
          · exact e
          · cases e
        have hm0 : xm = none := by
          rcases hm with ⟨e, _⟩ | ⟨_, _, _, e, _⟩
          · exact e
          · cases e
        subst hl0 hm0
        have hu := tab_arr hT hkd
        have hs := tab_size hT (beq_false hz)
        have hx : a.eval x = .pointer (some ⟨E.blk k, off, none⟩) := hx
        have run : ∀ (hn : Nat), hn ≤ n → (∀ w' : World, (Instr.sliceBounds false n n none (xh.map a.eval) none).run P w' = .ok (0, hn, n) w') → ∀ w', Yields P o a (.slice (some ⟨E.blk k, off, none⟩) hn n) w' := fun hn hle hb w' => by
          cases hq : P.info? e with
          | none => rw [hq] at hs; cases hs
          | some q =>
            unfold Yields execOp
            simp only [ho, Instr.sliceAt, Sem.run_bind, run_underlying hu, Result.andThen_ok, hx, Instr.sureAddr, Sem.run_pure, Option.map_none, hb w']
            have : (if n = 0 then (⟨E.blk k, off, none⟩ : Addr) else Addr.add ⟨E.blk k, off, none⟩ (0 * q.size)) = ⟨E.blk k, off, none⟩ := by
              split <;> simp [Addr.add]
            simp [sizeOf, typeInfo, hq, Addr.add]
        split at hk
        · have hh0 : xh = none := by
            rcases hh with ⟨e, _⟩ | ⟨_, _, _, e, _⟩
            · exact e
            · cases e
          subst hh0
          exact ⟨_, _, hk, ⟨rfl, Nat.le_refl _⟩, run n (Nat.le_refl _) fun w' => by simp [Instr.sliceBounds]⟩
        · rename_i hv
          obtain ⟨⟨h0, h1⟩, hk⟩ := hk
          rcases hh with ⟨_, e⟩ | ⟨y, i, rfl, e, hy⟩
          · cases e
          · injection e with e
            subst e
            obtain ⟨j, rfl⟩ := Int.eq_ofNat_of_zero_le h0
            exact ⟨_, _, hk, ⟨rfl, by omega⟩, run _ (by omega) fun w' => by
              have h2 : ¬ n < j := by omega
              have h3 : j ≤ n := by omega
              simp [Instr.sliceBounds, Instr.sliceBound, asIntOf, hy, h1, h2, h3]⟩
      · exact hk.elim
  · exact hk.elim

/-! ### Aggregates -/
theorem RP.get : ∀ {vs : List Value} {ps : List (Bool × List C)} {i : Nat} {p : Bool × List C}, RPs X w E vs ps → ps[i]? = some p → ∃ v, vs[i]? = some v ∧ RP X w E v p
  | [], [], _, _, _, hc => by simp at hc
  | v :: _, c' :: _, 0, c, h, hc => ⟨v, rfl, (show c' = c by simpa using hc) ▸ h.1⟩
  | _ :: vs, _ :: cs, i + 1, c, h, hc => by simpa using RP.get (i := i) h.2 (by simpa using hc)
  | [], _ :: _, _, _, h, _ => h.elim
  | _ :: _, [], _, _, h, _ => h.elim
theorem extract_is {x : Operand} {i : Nat} {o : Oper} {v : SV} {K : SV → Prop} (ho : o.op = .extract x i) (hx : RV X w E (a.eval x) v) (hk : extractK v i K) : ∃ v u, K v ∧ RV X w E u v ∧ ∀ w', Yields P o a u w' := by
  unfold extractK at hk
  split at hk
  · rename_i vs
    obtain ⟨us, e, hp⟩ := hx
    obtain ⟨p, hp1, hk⟩ := getK_is hk
    obtain ⟨u, hu, hr⟩ := RP.get hp hp1
    split at hk
    · rename_i cs
      exact ⟨_, u, hk, hr, fun w' => ev_extract x i us.toArray u ho e (by simpa using hu)⟩
    · rename_i c
      obtain ⟨c', e1, hr⟩ := hr
      obtain rfl : c = c' := by simpa using e1
      exact ⟨_, u, hk, hr, fun w' => ev_extract x i us.toArray u ho e (by simpa using hu)⟩
    · exact hk.elim
  · exact hk.elim
theorem caps_is : ∀ {xs : List Operand} {K : List (Nat × Nat) → Prop}, capsK st xs K → RE X0 w0 as E st a w → ∃ ps, K ps ∧ xs.map a.eval = ps.map fun p => Value.pointer (some ⟨E.blk p.1, p.2, none⟩)
  | [], _, hk, _ => ⟨[], hk, rfl⟩
  | x :: xs, K, hk, h => by
    obtain ⟨v, hk, hv⟩ := eval_is hk h
    split at hk
    · rename_i k off
      obtain ⟨ps, hk, e⟩ := caps_is (xs := xs) hk h
      exact ⟨_, hk, by rw [List.map_cons, List.map_cons, e]; exact congrArg (· :: _) hv⟩
    · exact hk.elim
theorem cells_is {u : Value} {v : SV} {K : List C → Prop} (hv : RV X w E u v) (hk : v.cellsK K) : ∃ us cs, K cs ∧ u.cells = us.toArray ∧ RCs X w E us cs := by
  unfold SV.cellsK at hk
  split at hk
  · rename_i c
    cases hc : c.isUndef with
    | true => rw [hc] at hk; exact hk.elim
    | false =>
      rw [hc] at hk
      refine ⟨[u], _, hk, ?_, hv, trivial⟩
      have := RC.one hv (fun e => by rw [e] at hc; cases hc)
      cases u <;> first | rfl | (simp [Value.oneCell'] at this)
  · obtain ⟨us, e, h⟩ := hv
    exact ⟨us, _, hk, by rw [e]; rfl, h⟩
  · exact hk.elim

theorem fill_vals (vs : List Value) : ∀ (off : Nat) (cells : List Value), off + vs.length ≤ cells.length →
    ((vs.toArray.zipIdx.foldl (fun cs (p : Value × Nat) => cs.setIfInBounds (off + p.2) p.1) cells.toArray)) = (cells.take off ++ (vs ++ cells.drop (off + vs.length))).toArray := by
  have key : ∀ (vs : List Value) (off j : Nat) (cells : List Value), off + j + vs.length ≤ cells.length →
      (vs.zipIdx j).foldl (fun (cs : Array Value) (p : Value × Nat) => cs.setIfInBounds (off + p.2) p.1) cells.toArray = (cells.take (off + j) ++ (vs ++ cells.drop (off + j + vs.length))).toArray := by
    intro vs
    induction vs with
    | nil => intro off j cells _; simp
    | cons v vs ih =>
      intro off j cells h
      simp only [List.zipIdx_cons, List.foldl_cons, List.length_cons] at h ⊢
      rw [List.setIfInBounds_toArray]
      have := ih off (j + 1) (cells.set (off + j) v) (by simp; omega)
      rw [this]
      congr 1
      rw [show off + (j + 1) = off + j + 1 by omega, List.take_succ_eq_append_getElem (by simp; omega), List.take_set_of_le (Nat.le_refl _), List.getElem_set_self, List.drop_set_of_lt (by omega), show off + j + 1 + vs.length = off + j + (vs.length + 1) by omega]
      simp
  intro off cells h
  have := key vs off 0 cells (by simpa using h)
  simpa using this
theorem fillK_is {place : Nat → Option (Nat × Nat)} : ∀ {parts : List (Nat × Operand)} {cs : List C} {us : List Value} {K : List C → Prop}, fillK place st cs parts K → RE X0 w0 as E st a w → RCs (own X0 E st.mem) w E us cs →
    ∃ cs' us', K cs' ∧ RCs (own X0 E st.mem) w E us' cs' ∧ Instr.fill place us.toArray (parts.map fun p => (p.1, a.eval p.2)) = some us'.toArray
  | [], cs, us, K, hk, _, hc => ⟨cs, us, by unfold fillK at hk; exact hk, hc, rfl⟩
  | (i, x) :: r, cs, us, K, hk, h, hc => by
    unfold fillK at hk
    cases hp : place i with
    | none => rw [hp] at hk; exact hk.elim
    | some q =>
      obtain ⟨off, size⟩ := q
      rw [hp] at hk
      obtain ⟨v, hk, hv⟩ := eval_is hk h
      obtain ⟨vs, ds, hk, hcells, hds⟩ := cells_is hv hk
      cases hb : Nat.beq ds.length size with
      | false => rw [hb] at hk; exact hk.elim
      | true =>
        rw [hb] at hk
        have hb := beq_of hb
        obtain ⟨hlen, hk⟩ := spliceK_is hk
        have hvl := hds.len
        have hcl := hc.len
        obtain ⟨cs', us', h1, h2, h3⟩ := fillK_is (parts := r) hk h (us := us.take off ++ (vs ++ us.drop (off + vs.length))) ((hc.take off).append (hds.append (by rw [hvl]; exact hc.drop _)))
        refine ⟨cs', us', h1, h2, ?_⟩
        rw [List.map_cons, Instr.fill, hp]
        simp only [hcells, List.size_toArray]
        have hno : ¬ ((vs.length ≠ size || off + vs.length > us.length : Bool) = true) := by simp; omega
        rw [if_neg (by simpa using hno), fill_vals vs off us (by omega)]
        exact h3

theorem run_mapM {α β : Type} {f : α → Sem β} {g : α → β} {w : World} : ∀ {l : List α}, (∀ x ∈ l, (f x).run P w = .ok (g x) w) → (l.mapM f).run P w = .ok (l.map g) w
  | [], _ => by simp [List.mapM_nil]
  | x :: l, h => by
    rw [List.mapM_cons]
    have h1 := h x (by simp)
    have h2 := run_mapM (l := l) fun y hy => h y (List.mem_cons_of_mem _ hy)
    simp [Sem.run_bind, h1, h2]
theorem run_mapMA {α β : Type} {f : α → Sem β} {g : α → β} {w : World} {l : Array α} (h : ∀ x ∈ l.toList, (f x).run P w = .ok (g x) w) : (l.mapM f).run P w = .ok (l.map g) w := by
  rw [Array.mapM_eq_mapM_toList]
  simp only [map_eq_pure_bind]
  have := run_mapM h
  rw [Sem.run_bind, this]
  simp only [Result.andThen_ok, Sem.run_pure]
  congr 1
  apply Array.ext'
  simp
/-- A struct or an array is built. -/
theorem build_is {t : TypeId} {parts : Array (Nat × Operand)} {o : Oper} {K : SV → Prop} (hT : T.ok P) (ho : o.op = .build t parts) (h : RE X0 w0 as E st a w) (hk : buildK T t st parts.toList K) :
    ∃ v u, K v ∧ RV (own X0 E st.mem) w E u v ∧ ∀ w', Yields P o a u w' := by
  have hrun : ∀ z : Value, (P.info? t).bind (·.zero) = some z → ∀ w', (do let x ← zeroValue t; pure x.cells : Sem (Array Value)).run P w' = .ok z.cells w' := fun z hz w' => by
    cases hq : P.info? t with
    | none => rw [hq] at hz; cases hz
    | some i =>
      have : i.zero = some z := by rw [hq] at hz; exact hz
      simp [zeroValue, typeInfo, hq, this]
  have hval : ∀ (ty : Ty), (T.at t).ty = some ty → ∃ z, z.toList = zeroV ty ∧ ∀ w', (do let x ← zeroValue t; pure x.cells : Sem (Array Value)).run P w' = .ok z w' := fun ty hty => by
    obtain ⟨_, _, z, hz, hz2, _⟩ := tab_ty hT hty
    exact ⟨z.cells, hz2, hrun z hz⟩
  have harr : ∀ {n : Nat} {e : TypeId} {zs : List Value} {zc : List C} {z : Array Value}, (T.at t).kind = .arr n e → Nat.beq (T.at e).size 0 = false → z.toList = zs → (∀ w', (do let x ← zeroValue t; pure x.cells : Sem (Array Value)).run P w' = .ok z w') → RCs (own X0 E st.mem) w E zs zc → fillK (fun i => some (i * (T.at e).size, (T.at e).size)) st zc parts.toList (fun cs => K (.agg cs)) →
      ∃ v u, K v ∧ RV (own X0 E st.mem) w E u v ∧ ∀ w', Yields P o a u w' := by
    intro n e zs zc z hkd hb hz1 hz2 hzc hk
    have hu := tab_arr hT hkd
    obtain ⟨cs', us', h1, h2, h3⟩ := fillK_is hk h hzc
    refine ⟨_, .agg us'.toArray, h1, ⟨us', rfl, h2⟩, fun w' => ?_⟩
    refine ev_build t parts (parts.map fun p => (p.1, a.eval p.2)) us'.toArray ho rfl fun w'' => ?_
    have hs := tab_size hT (beq_false hb)
    have hz3 := hz2 w''
    simp only [Sem.run_bind] at hz3
    unfold Instr.build
    cases hzz : (zeroValue t).run P w'' with
    | halt => rw [hzz] at hz3; cases hz3
    | ok zv wz =>
      rw [hzz] at hz3
      simp only [Result.andThen_ok, Sem.run_pure] at hz3
      injection hz3 with e1 e2
      subst e2
      cases hq : P.info? e with
      | none => rw [hq] at hs; cases hs
      | some i =>
        have hi : i.size = (T.at e).size := by rw [hq] at hs; simpa using hs
        have hfill : Instr.fill (fun i => some (i * (T.at e).size, (T.at e).size)) z ((parts.map fun p => (p.1, a.eval p.2)).toList) = some us'.toArray := by
          rw [Array.toList_map, ← h3]
          congr 1
          rw [← hz1]
        simp only [Sem.run_bind, hzz, Result.andThen_ok, run_underlying hu, e1, sizeOf, typeInfo]
        simp only [Array.toList_map] at hfill
        simp [hq, hi, hfill]
  unfold buildK at hk
  split at hk
  · rename_i fs ty hkd hty
    cases hb : (fs.any fun f => Nat.beq (T.at f.2).size 0) with
    | true => rw [hb] at hk; exact hk.elim
    | false =>
      rw [hb] at hk
      have hk := normL_is hk
      obtain ⟨z, hz1, hz2⟩ := hval ty hty
      obtain ⟨gs, hu, hg⟩ := tab_str hT hkd
      obtain ⟨cs', us', h1, h2, h3⟩ := fillK_is hk h (zero_is (X := own X0 E st.mem) (w := w) (E := E) ty)
      refine ⟨_, .agg us'.toArray, h1, ⟨us', rfl, h2⟩, fun w' => ?_⟩
      refine ev_build t parts (parts.map fun p => (p.1, a.eval p.2)) us'.toArray ho rfl fun w'' => ?_
      have hpl : (gs.mapM fun f => do let s ← sizeOf f.type; pure (f.offset, s) : Sem (Array (Nat × Nat))).run P w'' = .ok (gs.map fun f => (f.offset, (T.at f.type).size)) w'' := run_mapMA fun f hf => by
        have hfs : (f.offset, f.type) ∈ fs := by rw [← hg]; exact List.mem_map.2 ⟨f, hf, rfl⟩
        have hne : (T.at f.type).size ≠ 0 := fun e => by
          rw [List.any_eq_false] at hb
          exact hb _ hfs (by simp [e])
        have hs := tab_size hT hne
        cases hq : P.info? f.type with
        | none => rw [hq] at hs; cases hs
        | some i =>
          have : i.size = (T.at f.type).size := by rw [hq] at hs; simpa using hs
          simp [sizeOf, typeInfo, hq, this]
      have hz3 := hz2 w''
      simp only [Sem.run_bind] at hz3
      unfold Instr.build
      cases hzz : (zeroValue t).run P w'' with
      | halt => rw [hzz] at hz3; cases hz3
      | ok zv wz =>
        rw [hzz] at hz3
        simp only [Result.andThen_ok, Sem.run_pure] at hz3
        injection hz3 with e1 e2
        subst e2
        simp only [Sem.run_bind, hzz, Result.andThen_ok, run_underlying hu, hpl, e1]
        have hfill : Instr.fill (fun i => (gs.map fun f => (f.offset, (T.at f.type).size))[i]?) z ((parts.map fun p => (p.1, a.eval p.2)).toList) = some us'.toArray := by
          rw [Array.toList_map, ← h3]
          congr 1
          · funext i
            rw [← hg, List.getElem?_map, Array.getElem?_map, ← Array.getElem?_toList]
            cases gs.toList[i]? <;> rfl
          · rw [← hz1]
        rw [hfill]
        simp
  · rename_i n e ty hkd hty
    cases hb : Nat.beq (T.at e).size 0 with
    | true => rw [hb] at hk; exact hk.elim
    | false =>
      rw [hb] at hk
      have hk := normL_is hk
      obtain ⟨z, hz1, hz2⟩ := hval ty hty
      exact harr hkd hb hz1 hz2 (zero_is ty) hk
  · rename_i n e hkd hty
    split at hk
    · rename_i he
      cases hb : Nat.beq (T.at e).size 0 with
      | true => rw [hb] at hk; exact hk.elim
      | false =>
        rw [hb] at hk
        have hk := normL_is hk
        obtain ⟨z, hz, hz1⟩ := tab_fns hT hkd he
        exact harr hkd hb hz1 (hrun z hz) (nofn_is n) hk
    · exact hk.elim
  · exact hk.elim

theorem typed_is {t : TypeId} {v : SV} {u : Value} {K : SV → Prop} (hk : typedK T t v K) (h : RV X w E u v) : ∃ v, K v ∧ RV X w E u v := by
  unfold typedK at hk
  split at hk
  · have h : u = .slice none 0 0 := h
    split at hk
    · split at hk
      · exact ⟨_, hk, ⟨none, h⟩⟩
      · exact ⟨_, hk, h⟩
    · exact ⟨_, hk, h⟩
  · exact ⟨_, hk, h⟩
theorem lookB {i : Int} {K : SV → Prop} : ∀ {l : List Int}, K (.one (.bool (decide (i ∈ l)))) → lookupK i (.one (.bool false)) (trues l) K
  | [], h => by
    have e : decide (i ∈ ([] : List Int)) = false := decide_eq_false (fun h => nomatch h)
    rw [e] at h
    exact h
  | p :: l, h => by
    refine ⟨fun e => ?_, fun e => lookB (l := l) ?_⟩
    · rw [decide_eq_true (show i ∈ p :: l by rw [e]; exact List.mem_cons_self ..)] at h
      exact h
    · have e2 : decide (i ∈ p :: l) = decide (i ∈ l) := decide_eq_decide.2 ⟨fun h => (List.mem_cons.1 h).resolve_left e, fun h => List.mem_cons_of_mem _ h⟩
      rw [e2] at h
      exact h
theorem lookup_is {key : Int} {K : SV → Prop} {z : SV} {zu : Value} (hz : RV X w E zu z) : ∀ {m : List (Int × SV)} {es : List MapEntry}, lookupK key z m K → RFm X w E es m →
    ∃ c u, K c ∧ RV X w E u c ∧ ∀ ki n, (∃ j, Instr.findNow (.int ki) (.int .i64 key) es n = some (some (j, u))) ∨ (Instr.findNow (.int ki) (.int .i64 key) es n = some none ∧ u = zu)
  | [], [], hk, _ => ⟨z, zu, hk, hz, fun _ _ => .inr ⟨rfl, rfl⟩⟩
  | (k, c) :: m, e :: es, hk, h => by
    obtain ⟨h1, h2⟩ := hk
    by_cases hc : key = k
    · refine ⟨c, e.val, h1 hc, h.2.1, fun ki n => .inl ⟨n, ?_⟩⟩
      unfold Instr.findNow
      rw [h.1]
      simp [Instr.sameNow, hc]
    · obtain ⟨c', u, q1, q2, q3⟩ := lookup_is hz (m := m) (es := es) (h2 hc) h.2.2
      refine ⟨c', u, q1, q2, fun ki n => ?_⟩
      have hne : (key == k) = false := by simpa using hc
      have : Instr.findNow (.int ki) (.int .i64 key) (e :: es) n = Instr.findNow (.int ki) (.int .i64 key) es (n + 1) := by
        rw [Instr.findNow, h.1]
        simp [Instr.sameNow, hne]
      rw [this]
      exact q3 ki (n + 1)
  | [], _ :: _, _, h => h.elim
  | _ :: _, [], _, h => h.elim
/-- An operation that looks and reckons: what it yields, here, and in each world in which nothing of this call's, or of what it can see, is changed. -/
theorem read_is {hd : Bool} {o : Oper} {K : SV → Prop} (hT : T.ok P) (h : RE X0 w0 as E st a w) (hk : vRead T hd o st K) :
    ∃ v u, K v ∧ RV (own X0 E st.mem) w E u v ∧ ∀ w', (worldless o.op = true ∨ ∀ b, b < w.heap.size → ¬ X0 b → w'.heap[b]? = w.heap[b]?) → Yields P o a u w' := by
  have quiet : ∀ {Q : SV → Prop}, (∃ v u, Q v ∧ RV (own X0 E st.mem) w E u v ∧ ∀ w', Yields P o a u w') → ∃ v u, Q v ∧ RV (own X0 E st.mem) w E u v ∧ ∀ w', (worldless o.op = true ∨ ∀ b, b < w.heap.size → ¬ X0 b → w'.heap[b]? = w.heap[b]?) → Yields P o a u w' :=
    fun ⟨v, u, h1, h2, h3⟩ => ⟨v, u, h1, h2, fun w' _ => h3 w'⟩
  unfold vRead at hk
  split at hk
  · rename_i x ho
    obtain ⟨v, hk, h2⟩ := eval_is hk h
    obtain ⟨v, h1, h2⟩ := typed_is hk h2
    exact quiet ⟨v, _, h1, h2, fun w' => ev_move x _ ho rfl⟩
  · rename_i x ho
    obtain ⟨v, hk, h2⟩ := eval_is hk h
    obtain ⟨v, h1, h2⟩ := typed_is hk h2
    exact quiet ⟨v, _, h1, h2, fun w' => ev_assign x _ ho rfl⟩
  · rename_i c x y ho
    obtain ⟨vc, hk, hc⟩ := eval_is hk h
    split at hk
    · rename_i bc
      split at hk
      · obtain ⟨v, h1, h2⟩ := eval_is hk h
        exact quiet ⟨v, _, h1, h2, fun w' => ev_pick c x y true _ ho hc rfl⟩
      · obtain ⟨v, h1, h2⟩ := eval_is hk h
        exact quiet ⟨v, _, h1, h2, fun w' => ev_pick c x y false _ ho hc rfl⟩
    · exact hk.elim
  · rename_i t parts ho
    exact quiet (build_is hT ho h hk)
  · rename_i t x ho
    obtain ⟨v, hk, hv⟩ := eval_is hk h
    obtain ⟨v', u, h1, h2, h3⟩ := loadAt_is hT ho h hv hk
    refine ⟨v', u, h1, h2, fun w' hw => h3 w' ?_⟩
    rcases hw with hw | hw
    · rw [ho] at hw; cases hw
    · exact hw
  · rename_i x ho
    obtain ⟨v, hk, hv⟩ := eval_is hk h
    have nc : ∀ (p : Addr), a.eval x = .pointer (some p) → ∀ w', Yields P o a (.pointer (some p)) w' := fun p hp w' => by
      unfold Yields execOp; simp only [ho, hp]; rfl
    split at hk
    · exact quiet ⟨_, _, hk, hv, fun w' => (hv : a.eval x = _) ▸ nc _ hv w'⟩
    · exact quiet ⟨_, _, hk, hv, fun w' => (hv : a.eval x = _) ▸ nc _ hv w'⟩
    · obtain ⟨hi, b, oo, cs, e, h2⟩ := hv
      exact quiet ⟨_, _, hk, ⟨hi, b, oo, cs, rfl, h2⟩, nc _ e⟩
    · exact hk.elim
  · rename_i op t x y r ho
    obtain ⟨vx, hk, hx⟩ := eval_is hk h
    obtain ⟨vy, hk, hy⟩ := eval_is hk h
    exact quiet (bin_is hT ho hk hx hy)
  · rename_i op t x ho
    split at hk
    · obtain ⟨v, hk, hv⟩ := eval_is hk h
      split at hk
      · exact quiet ⟨_, _, hk, rfl, fun w' => ev_not x t _ _ ho hv rfl⟩
      · exact hk.elim
    · exact hk.elim
  · rename_i t0 t x ho
    split at hk
    · rename_i k1 hkd0
      obtain ⟨v, hk, hv⟩ := eval_is hk h
      split at hk
      · rename_i k0 n
        split at hk
        · rename_i k hkd
          have hu := tab_int hT hkd
          have hu0 := tab_int hT hkd0
          have hv : a.eval x = .int k0 n := hv
          refine quiet ⟨_, _, wrapC_is hk, rfl, fun w' => ?_⟩
          unfold Yields execOp
          simp only [ho, convert, Sem.run_bind, run_underlying hu, run_underlying hu0, Result.andThen_ok, hv]
          simp [Conv.intToInt, wrapK_is]
        · exact hk.elim
      · exact hk.elim
    · exact hk.elim
  · rename_i f first caps ho
    split at hk
    · split at hk
      · rename_i fn hfirst
        obtain ⟨ps, hk, e⟩ := caps_is hk h
        refine quiet ⟨_, _, hk, rfl, fun w' => ?_⟩
        have e1 : first = #[] := by apply Array.ext'; simpa using hfirst
        have e2 : caps.map a.eval = (ps.map fun p => Value.pointer (some ⟨E.blk p.1, p.2, none⟩)).toArray := by apply Array.ext'; simpa using e
        unfold Yields execOp
        simp only [ho, Instr.makeFunc, e1, e2]
        simp [go_sem]
      · exact hk.elim
    · exact hk.elim
  · rename_i t x lo hi mx ho
    obtain ⟨v, hk, hv⟩ := eval_is hk h
    obtain ⟨l, hk, hl⟩ := optInt_is hk h
    obtain ⟨hh, hk, hh2⟩ := optInt_is hk h
    obtain ⟨m, hk, hm⟩ := optInt_is hk h
    exact quiet (slice_is hT ho hv hl hh2 hm hk)
  · rename_i t x f ho
    split at hk
    · rename_i fs hkd
      obtain ⟨v, hk, hv⟩ := eval_is hk h
      exact quiet (field_is hT ho hkd hv hk)
    · exact hk.elim
  · rename_i t x f ho
    split at hk
    · rename_i fs hkd
      split at hk
      · rename_i d ft hf
        obtain ⟨v, hk, hv⟩ := eval_is hk h
        split at hk
        · obtain ⟨us, e, hcs⟩ := hv
          obtain ⟨v', u, h1, h2, h3⟩ := part_is hT hk hcs
          refine quiet ⟨v', u, h1, h2, fun w' => ?_⟩
          obtain ⟨gs, hu, hg⟩ := tab_str hT hkd
          rw [← hg, List.getElem?_map] at hf
          cases hgf : gs.toList[f]? with
          | none => rw [hgf] at hf; cases hf
          | some fl =>
            rw [hgf] at hf
            simp only [Option.map_some, Option.some.injEq, Prod.mk.injEq] at hf
            rw [Array.getElem?_toList] at hgf
            unfold Yields execOp
            simp only [ho, Instr.field, Sem.run_bind, run_underlying hu, Result.andThen_ok, hgf, e, hf.1, hf.2]
            simp [asAgg, h3]
        · exact hk.elim
      · exact hk.elim
    · exact hk.elim
  · rename_i t x i ho
    obtain ⟨v, hk, hv⟩ := eval_is hk h
    obtain ⟨vi, hk, hi⟩ := eval_is hk h
    split at hk
    · exact quiet (index_is hT ho h hv hi hk)
    · exact hk.elim
  · rename_i t x i ho
    obtain ⟨v, hk, hv⟩ := eval_is hk h
    obtain ⟨vi, hk, hi⟩ := eval_is hk h
    split at hk
    · rename_i i
      split at hk
      · split at hk
        · rename_i n e hkd
          obtain ⟨⟨h0, h1⟩, hk⟩ := hk
          obtain ⟨us, e1, hcs⟩ := hv
          obtain ⟨v', u, h1', h2, h3⟩ := part_is hT hk hcs
          refine quiet ⟨v', u, h1', h2, fun w' => ?_⟩
          have hu := tab_arr hT hkd
          have hs : e = e → (sizeOf e).run P w' = .ok (T.at e).size w' := fun _ => by
            have hne : (T.at e).kind ≠ .other := fun hh => by
              unfold loadK at hk; rw [hh] at hk; exact hk
            have hs := tab_size' hT hne
            cases hq : P.info? e with
            | none => rw [hq] at hs; cases hs
            | some q =>
              have : q.size = (T.at e).size := by rw [hq] at hs; simpa using hs
              simp [sizeOf, typeInfo, hq, this]
          have hi : a.eval _ = Value.int .i64 i := hi
          unfold Yields execOp
          simp only [ho, Instr.index, asIntOf, hi, Sem.run_bind, Sem.run_pure, run_underlying hu, Result.andThen_ok, e1]
          rw [if_pos ⟨h0, h1⟩]
          simp only [Sem.run_bind, hs rfl, Result.andThen_ok, h3]
        · exact hk.elim
      · exact hk.elim
    · exact hk.elim
  · rename_i x i ho
    obtain ⟨v, hk, hv⟩ := eval_is hk h
    exact quiet (extract_is ho hv hk)
  · rename_i t x i ok ho
    split at hk
    · split at hk
      · rename_i kt vt hkd
        split at hk
        · rename_i ki hki
          have hu := tab_map hT hkd
          have hki' := tab_int hT hki
          have fin : ∀ {k : Nat} {i0 : Int} {bx : Box} {m : List (Int × SV)} {z : SV} {zu : Value}, a.eval x = .map (some (E.blk k)) → a.eval i = .int .i64 i0 → (k, bx) ∈ st.mem → (E.live k = true ∧ ∃ es clock, w.heap[E.blk k]? = some (.map es clock) ∧ RFm (own X0 E st.mem) w E es.toList m) → RV (own X0 E st.mem) w E zu z → (∀ w', (zeroValue vt).run P w' = .ok zu w') → lookupK i0 z m K →
              ∃ v u, K v ∧ RV (own X0 E st.mem) w E u v ∧ ∀ w', (worldless o.op = true ∨ ∀ b, b < w.heap.size → ¬ X0 b → w'.heap[b]? = w.heap[b]?) → Yields P o a u w' := fun {k i0 bx m z zu} hv hi hm hr hz hzr hk => by
            obtain ⟨hl, es, clock, hb, hes⟩ := hr
            obtain ⟨c, u, h1, h2, h3⟩ := lookup_is hz hk hes
            refine ⟨_, u, h1, h2, fun w' hw => ?_⟩
            have hb' : w'.heap[E.blk k]? = some (.map es clock) := by
              rcases hw with hw | hw
              · rw [ho] at hw; cases hw
              · rw [hw _ (Array.getElem?_eq_some_iff.1 hb).1 (own_of_mem h hm hl)]; exact hb
            have hck : (Instr.checkKey es.isEmpty 10000 kt (.int .i64 i0)).run P w' = .ok () w' := by
              rw [show (10000 : Nat) = 9999 + 1 from rfl, Instr.checkKey, Sem.run_bind, run_underlying hki']
              rfl
            have hfk : (Instr.findKey kt (.int .i64 i0) es.toList).run P w' = .ok (Instr.findNow (.int ki) (.int .i64 i0) es.toList 0).get! w' := by
              rcases h3 ki 0 with ⟨j, e⟩ | ⟨e, _⟩ <;> simp [Instr.findKey, run_underlying hki', e]
            have hgo : (getObj (E.blk k)).run P w' = .ok (.map es clock) w' := by
              simp [getObj, Sem.run, hb']
            unfold Yields execOp
            simp only [ho, Instr.lookup, Sem.run_bind, run_underlying hu, Result.andThen_ok, hv, hi, hgo, hck, hfk, Sem.run_pure]
            rcases h3 ki 0 with ⟨j, e⟩ | ⟨e, e2⟩
            · simp [e]
            · subst e2
              simp [e, hzr]
          split at hk
          · rename_i hkf
            obtain ⟨v, hk, hv⟩ := eval_is hk h
            obtain ⟨vi, hk, hi⟩ := eval_is hk h
            split at hk
            · rename_i i0
              split at hk
              · rename_i k _
                obtain ⟨bx, hm, hk⟩ := findK_is hk
                split at hk
                · rename_i m
                  refine fin hv hi hm (h.mem k _ hm) (z := .one .nilfn) (zu := .nilFunc) rfl (fun w' => ?_) hk
                  have := tab_fnz hT hkf
                  cases hq : P.info? vt with
                  | none => rw [hq] at this; cases this
                  | some q =>
                    have : q.zero = some .nilFunc := by rw [hq] at this; exact this
                    simp [zeroValue, typeInfo, hq, this]
                · exact hk.elim
              · exact hk.elim
            · exact hk.elim
          · rename_i hkb
            split at hk
            · rename_i hty
              obtain ⟨v, hk, hv⟩ := eval_is hk h
              obtain ⟨vi, hk, hi⟩ := eval_is hk h
              split at hk
              · rename_i i0
                split at hk
                · rename_i k _
                  obtain ⟨bx, hm, hk⟩ := findK_is hk
                  split at hk
                  · rename_i l
                    have hz := tab_bool0 hT hty
                    refine fin hv hi hm (h.mem k _ hm) (z := .one (.bool false)) (zu := .bool false) rfl (fun w' => ?_) (lookB hk)
                    cases hq : P.info? vt with
                    | none => rw [hq] at hz; cases hz
                    | some q =>
                      have : q.zero = some (.bool false) := by rw [hq] at hz; exact hz
                      simp [zeroValue, typeInfo, hq, this]
                  · exact hk.elim
                · exact hk.elim
              · exact hk.elim
            · exact hk.elim
          · rename_i n e hkf
            split at hk
            · rename_i ty hty
              cases hcons : tyCons ty with
              | false => rw [hcons] at hk; exact hk.elim
              | true =>
                rw [hcons] at hk
                simp only [cond_true] at hk
                obtain ⟨v, hk, hv⟩ := eval_is hk h
                obtain ⟨vi, hk, hi⟩ := eval_is hk h
                split at hk
                · rename_i i0
                  split at hk
                  · rename_i k _
                    obtain ⟨bx, hm, hk⟩ := findK_is hk
                    split at hk
                    · rename_i m
                      have hk := normL_is hk
                      obtain ⟨_, _, z, hz, hzc, hagg⟩ := tab_ty hT hty
                      obtain ⟨cs, rfl⟩ := hagg (by cases ty <;> first | rfl | cases hcons)
                      have hzc : cs.toList = zeroV ty := hzc
                      refine fin hv hi hm (h.mem k _ hm) (z := .agg (zeroC ty)) (zu := .agg cs) ⟨zeroV ty, by rw [← hzc], zero_is ty⟩ (fun w' => ?_) hk
                      cases hq : P.info? vt with
                      | none => rw [hq] at hz; cases hz
                      | some q =>
                        have : q.zero = some (.agg cs) := by rw [hq] at hz; exact hz
                        simp [zeroValue, typeInfo, hq, this]
                    · exact hk.elim
                  · exact hk.elim
                · exact hk.elim
            · exact hk.elim
          · exact hk.elim
        · exact hk.elim
      · exact hk.elim
    · exact hk.elim
  · rename_i c ho
    obtain ⟨callee, args, argTypes⟩ := c
    split at hk
    · rename_i bn hbn
      simp only at hbn
      subst hbn
      split at hk
      · split at hk
        · rename_i x hx
          split at hk
          · rename_i t ht
            split at hk
            · rename_i e hkd
              cases hz : Nat.beq (T.at e).size 0 with
              | true => rw [hz] at hk; exact hk.elim
              | false =>
                rw [hz] at hk
                obtain ⟨v, hk, hv⟩ := eval_is hk h
                have e1 : args = #[x] := by apply Array.ext'; simpa using hx
                have e2 : argTypes = #[t] := by apply Array.ext'; simpa using ht
                subst e1 e2
                obtain ⟨n, h1, h2⟩ := len_is (K := fun n : Nat => K (.one (.int .i64 n))) ho (by
                  unfold elemSize; rw [tab_sl hT hkd]; simp only; rw [tab_size hT (beq_false hz)]; rfl) h hv hk
                exact quiet ⟨_, _, h1, rfl, h2⟩
            · exact hk.elim
          · exact hk.elim
        · exact hk.elim
      · split at hk
        · rename_i x hx
          split at hk
          · rename_i t ht
            split at hk
            · rename_i e hkd
              obtain ⟨v, hk, hv⟩ := eval_is hk h
              have e1 : args = #[x] := by apply Array.ext'; simpa using hx
              have e2 : argTypes = #[t] := by apply Array.ext'; simpa using ht
              subst e1 e2
              have hcap : ∀ {ad : Option Addr}, a.eval x = .slice ad 0 0 → K (.one (.int .i64 0)) → _ := fun {ad} hv hk => by
                refine quiet ⟨_, _, hk, rfl, fun w' => ?_⟩
                unfold Yields execOp
                simp only [ho, resolve, invoke, builtin, Sem.run_bind, Sem.run_pure, Result.andThen_ok, List.map_toArray, List.map_cons, List.map_nil, hv]
                simp [Builtin.cap_, run_underlying (tab_sl hT hkd), goInt]
              split at hk
              · exact hcap (ad := none) hv hk
              · obtain ⟨base, hv⟩ := hv
                exact hcap hv hk
              · exact hk.elim
            · exact hk.elim
          · exact hk.elim
        · exact hk.elim
      · split at hk
        · rename_i x y hxy
          obtain ⟨vx, hk, hx⟩ := eval_is hk h
          obtain ⟨vy, hk, hy⟩ := eval_is hk h
          split at hk
          · rename_i k m _
            split at hk
            · rename_i k' n
              split at hk
              · rename_i e
                subst e
                have e1 : args = #[x, y] := by apply Array.ext'; simpa using hxy
                subst e1
                have hx : a.eval x = .int k m := hx
                have hy : a.eval y = .int k n := hy
                refine quiet ⟨_, _, hk, rfl, fun w' => ?_⟩
                unfold Yields execOp
                simp only [ho, resolve, invoke, builtin, Sem.run_bind, Sem.run_pure, Result.andThen_ok, List.map_toArray, List.map_cons, List.map_nil, hx, hy]
                simp [Builtin.max_, Builtin.max2]
              · exact hk.elim
            · exact hk.elim
          · exact hk.elim
        · exact hk.elim
      · exact hk.elim
    · exact hk.elim
  · exact hk.elim
end
end Go.Proofs.YtpobngddiifdpaaGreat.V
