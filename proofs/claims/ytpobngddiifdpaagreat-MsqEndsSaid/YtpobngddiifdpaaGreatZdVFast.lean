/- Regions, code, calls: what is shown of symbolic states holds of runs. -/
import Derived.Test.YtpobngddiifdpaaGreatZdVOp
import Derived.Scope
set_option linter.unusedSimpArgs false
set_option linter.unusedVariables false
namespace Go.Proofs.YtpobngddiifdpaaGreat.V
open Go Go.RowKit Go.Proofs.YtpobngddiifdpaaGreat.Hz

section
variable {X X' X0 : Nat → Prop} {w w' w0 : World} {E E' : Env} {as : Cx} {st : St} {a : Act} {P : Program} {T : Tab}

/-! ### Guards -/
theorem same_set {l : List SV} {i : Nat} {v : SV} (h : l[i]? = some v) : l.set i v = l := by
  apply List.ext_getElem?
  intro j
  by_cases hj : i = j
  · subst hj
    rw [List.getElem?_set_self (List.getElem?_eq_some_iff.1 h).1, h]
  · rw [List.getElem?_set_ne hj]
theorem guard_is {ops : List Oper} {o : Oper} {K : Bool → St → Prop} (hk : guardK ops o st K) (h : RE X0 w0 as E st a w) : K (Region.wanted o (yielded ops.toArray a.tmps)) st := by
  unfold guardK at hk
  split at hk
  · rename_i hg
    have : Region.wanted o (yielded ops.toArray a.tmps) = true := by simp [Region.wanted, hg]
    rw [this]; exact hk
  · rename_i j want hg
    obtain ⟨oj, hj, hk⟩ := getK_is hk
    split at hk
    · exact hk.elim
    · rename_i d hd
      obtain ⟨v, hv, hk⟩ := getK_is hk
      split at hk
      · rename_i c
        obtain ⟨u, hu, hr⟩ := h.tmps.at hv
        have hu2 : u = .bool c := hr
        subst hu2
        have hy : yielded ops.toArray a.tmps j = some c := by
          have h1 : ops.toArray[j]? = some oj := by simpa using hj
          have h2 : a.tmps[d]? = some (.bool c) := by rw [← Array.getElem?_toList]; exact hu
          simp [yielded, h1, hd, h2]
        have hw : Region.wanted o (yielded ops.toArray a.tmps) = (c == want) := by
          simp only [Region.wanted, hg, hy]
          cases c <;> cases want <;> rfl
        rw [hw]
        obtain ⟨t, m, s⟩ := st
        split at hk
        · have := (setK_is hk).2
          rw [same_set hv] at this
          cases want <;> exact this
        · have := (setK_is hk).2
          rw [same_set hv] at this
          cases want <;> exact this
      · obtain ⟨u, hu, us, e, hp⟩ := h.tmps.at hv
        have hu2 : u = undef := by
          cases us with
          | nil => exact e
          | cons => exact hp.elim
        subst hu2
        have hy : yielded ops.toArray a.tmps j = none := by
          have h1 : ops.toArray[j]? = some oj := by simpa using hj
          have h2 : a.tmps[d]? = some undef := by rw [← Array.getElem?_toList]; exact hu
          simp [yielded, h1, hd, h2, undef]
        have hw : Region.wanted o (yielded ops.toArray a.tmps) = false := by
          simp only [Region.wanted, hg, hy]
          rfl
        rw [hw]
        exact hk
      · exact hk.elim

/-! ### What is changed -/
theorem RE.cx {as' : Cx} (h : RE X0 w0 as E st a w) (e : as'.as = as.as) (h1 : ∀ k bx, (k, bx) ∈ st.mem → E.live k = true → as'.pr k (E.blk k)) (h2 : ∀ k b, w.heap.size ≤ b → as'.pr k b) : RE X0 w0 as' E st a w :=
  ⟨h.apart, h.below, h.defers, h.tmps, h.mem, h.place, h.keys, h.inj, by rw [e]; exact h.stk, h1, h2⟩
theorem hits_false {F : List Nat} {o : Oper} {st : St} (h : hits F o st = false) : ∀ k ∈ wrOf o st, k ∉ F := by
  intro k hk hF
  unfold hits at h
  cases F with
  | nil => cases hF
  | cons j r =>
    rw [List.any_eq_false] at h
    refine h k hk ?_
    rcases List.mem_cons.1 hF with e | e
    · rw [e, Nat.beq_refl]; rfl
    · rw [Bool.or_eq_true, List.any_eq_true]
      exact .inr ⟨k, e, Nat.beq_refl k⟩
/-- Blocks below N stand. -/
theorem wrote_below {N : Nat → Prop} {F ks : List Nat} {E' : Env} {st' : St} {a' : Act} (h : RE X0 w0 as E st a w) (h' : RE X0 w0 as E' st' a' w') (hN : ∀ k b, k ∉ F → as.pr k b → ¬ N b) (hF : ∀ k ∈ ks, k ∉ F) (hNw : ∀ b, N b → b < w.heap.size) (hw : Wrote E st.mem ks w w') : BelowS N w w' :=
  ⟨h'.below.os.trans h.below.os.symm, h'.below.tape.trans h.below.tape.symm, h'.below.output.trans h.below.output.symm, hw.1, fun b hb => hw.2 b (hNw b hb) fun k hk bx hm hl he => by
    have h1 := hN k _ (hF k hk) (h.prot k bx hm hl)
    rw [he] at h1
    exact h1 hb⟩
theorem isCallV_wr {o : Oper} {st : St} (h : isCallV o = true) : wrOf o st = [] := by
  unfold isCallV at h
  unfold wrOf
  split at h
  · rename_i c ho
    rw [ho]
    split at h
    · rename_i f hf
      simp only [hf]
    · cases h
  · cases h
theorem op_below {N : Nat → Prop} {F : List Nat} {o : Oper} {E' : Env} {st' : St} {a' : Act} (h : RE X0 w0 as E st a w) (h' : RE X0 w0 as E' st' a' w') (hN : ∀ k b, k ∉ F → as.pr k b → ¬ N b) (hF : hits F o st = false) (hNw : ∀ b, N b → b < w.heap.size) (hw : (isCallV o = true ∧ BelowS N w w') ∨ Wrote E st.mem (wrOf o st) w w') : BelowS N w w' := by
  rcases hw with h1 | h1
  · exact h1.2
  · exact wrote_below h h' hN (hits_false hF) hNw h1

/-! ### Regions in one order -/
theorem ops_is {hd : Bool} {call : List Nat → Nat → List SV → St → (St → SV → Prop) → Prop} {F : List Nat} {N : Nat → Prop} {b : Nat} {ops : List Oper} {Q : Exit → Act → World → Prop} {ws : World} (hT : T.ok P) (hC : CallOk P call) (hfr : ∀ ks, (∀ k ∈ ks, k ∉ F) → as.free ks) (hN : ∀ k b, k ∉ F → as.pr k b → ¬ N b) (hNs : ∀ b, N b → b < ws.heap.size) :
    ∀ (l : List Oper) {st : St} {a : Act} {w : World} {E : Env} {K : St → Prop}, RE X0 w0 as E st a w → BelowS N ws w → vOps T hd call F b ops l st K → (∀ st' a' w' E', K st' → RE X0 w0 as E' st' a' w' → BelowS N ws w' → Q .normal a' w') → wpList P ops.toArray Q l a w
  | [], st, a, w, E, K, h, hB, hk, hn => wpList_nil (hn st a w E hk h hB)
  | o :: r, st, a, w, E, K, h, hB, hk, hn => by
    unfold vOps at hk
    have hk := guard_is hk h
    refine wpList_step fun K' hK' => ?_
    split at hk
    · rename_i hw
      rw [if_pos hw]
      cases hF : hits F o st with
      | true => rw [hF] at hk; exact hk.elim
      | false =>
        rw [hF] at hk
        simp only [cond_false] at hk
        have hNw : ∀ b, N b → b < w.heap.size := fun b hb => Nat.lt_of_lt_of_le (hNs b hb) hB.size
        refine op_is hT (hC F as N hfr hN) hNw h (hfr _ (hits_false hF)) hk fun st' v u w' E' q1 q2 q3 q4 => ?_
        have hB' := hB.trans (op_below h q2 hN hF hNw q4)
        obtain ⟨st2, p1, p2⟩ := q2.put q3 q1
        exact hK' _ _ (ops_is hT hC hfr hN hNs r p2 hB' p1 hn)
    · rename_i hw
      rw [if_neg (by rw [hw]; decide)]
      obtain ⟨st2, p1, p2⟩ := h.put (v := .tup []) (u := undef) ⟨[], rfl, trivial⟩ hk
      exact hK' _ _ (ops_is hT hC hfr hN hNs r p2 hB p1 hn)

/-! ### Keeping less -/
theorem keepT_is {L : List Nat} : ∀ {ts : List SV} {i : Nat} {K : List SV → Prop} {us : List Value}, keepT L i ts K → RVs X w E us ts → ∃ ts', K ts' ∧ RVs X w E us ts'
  | [], i, K, us, hk, h => ⟨[], hk, h⟩
  | v :: r, i, K, u :: us, hk, h => by
    obtain ⟨ts', h1, h2⟩ := keepT_is (ts := r) (i := i + 1) hk h.2
    refine ⟨_, h1, ?_, h2⟩
    cases L.any (Nat.beq i) with
    | true => exact h.1
    | false => trivial
  | _ :: _, _, _, [], _, h => h.elim
theorem keepM_is {B : List Nat} : ∀ {m : List (Nat × Box)} {K : List (Nat × Box) → Prop}, keepM B m K → K (m.filter fun p => B.any (Nat.beq p.1))
  | [], K, hk => hk
  | (j, b) :: r, K, hk => by
    have := keepM_is (m := r) hk
    cases hb : B.any (Nat.beq j) with
    | true => rw [hb] at this; simpa [hb] using this
    | false => rw [hb] at this; simpa [hb] using this
theorem RVs.less {X X' : Nat → Prop} {us : List Value} {cs : List SV} (h : RVs X w E us cs) (hX : ∀ b, X' b → X b) : RVs X' w E us cs := h.up (Off.refl _ _) (fun b _ hx => hX b hx) fun _ _ => ⟨rfl, rfl⟩
/-- Fewer boxes; what is no longer known of is given up, or is one of the callers'. -/
theorem RE.fewer {X1 : Nat → Prop} {t : List SV} {m : List (Nat × Box)} (h : RE X0 w0 as E st a w) (ht : RVs (own X0 E st.mem) w E a.tmps.toList t) (hm : m.Sublist st.mem) (hX : ∀ b, X1 b → X0 b ∨ ∃ k bx, (k, bx) ∈ st.mem ∧ (∀ bx', (k, bx') ∉ m) ∧ E.live k = true ∧ E.blk k = b) : RE X1 w0 as E ⟨t, m, st.stk⟩ a w := by
  have hown : ∀ b, own X1 E m b → own X0 E st.mem b := by
    rintro b (hx | ⟨k, bx, hk, hl, he⟩)
    · rcases hX b hx with c | ⟨k, bx, hk, _, hl, he⟩
      · exact .inl c
      · exact .inr ⟨k, bx, hk, hl, he⟩
    · exact .inr ⟨k, bx, hm.subset hk, hl, he⟩
  refine ⟨fun b hb => ?_, h.below, h.defers, ht.less hown, fun k bx hk => (h.mem k bx (hm.subset hk)).up (Off.refl _ _) (fun b _ hb => hown b hb) (fun _ _ => ⟨rfl, rfl⟩) ⟨rfl, rfl, rfl⟩ fun _ => rfl,
    fun k bx hk => h.place k bx (hm.subset hk), h.keys.sublist hm, fun i bi j bj hi hj => h.inj i bi j bj (hm.subset hi) (hm.subset hj), h.stk.up (Off.refl _ _) (fun b _ hb => hown b hb) (fun _ _ => ⟨rfl, rfl⟩), fun k bx hk => h.prot k bx (hm.subset hk), h.prN⟩
  rcases hX b hb with c | ⟨k, bx, hk, hno, hl, he⟩
  · exact ⟨(h.apart b c).1, fun k bx hk hl => (h.apart b c).2 k bx (hm.subset hk) hl⟩
  · refine ⟨he ▸ (h.place k bx hk hl).2, fun j bj hj hlj e => ?_⟩
    have := h.inj j bj k bx (hm.subset hj) hk hlj hl (e.trans he.symm)
    subst this
    exact hno bj hj
theorem RE.keep {L B : List Nat} {K : St → Prop} (h : RE X0 w0 as E st a w) (hk : st.keep L B K) : ∃ st', K st' ∧ RE X0 w0 as E st' a w := by
  obtain ⟨t, m, s⟩ := st
  obtain ⟨t', hk, ht⟩ := keepT_is hk h.tmps
  exact ⟨_, keepM_is hk, h.fewer ht (List.filter_sublist) fun b hb => .inl hb⟩
theorem same_setV {l : List Value} {i : Nat} {v : Value} (h : l[i]? = some v) : l.set i v = l := by
  apply List.ext_getElem?
  intro j
  by_cases hj : i = j
  · subst hj
    rw [List.getElem?_set_self (List.getElem?_eq_some_iff.1 h).1, h]
  · rw [List.getElem?_set_ne hj]
/-- A slot is read in another way. -/
theorem RE.reread {K : St → Prop} {i : Nat} {v : SV} {u : Value} (h : RE X0 w0 as E st a w) (hi : a.tmps.toList[i]? = some u) (hu : RV (own X0 E st.mem) w E u v) (hk : st.set i v K) : ∃ st', K st' ∧ RE X0 w0 as E st' a w ∧ st'.mem = st.mem := by
  obtain ⟨t, h1, h2, h3⟩ := h.set hu hk
  refine ⟨_, h1, ?_, rfl⟩
  have e : a.put (some i) u = a := by
    simp only [Act.put]
    congr 1
    apply Array.ext'
    rw [Array.toList_setIfInBounds]
    exact same_setV hi
  rw [e] at h3; exact h3
theorem boxK_is {N : Prop} {K : Box → Prop} : ∀ {m : List (Nat × Box)} {k : Nat}, boxK m k N K → N ∨ ∃ b, (k, b) ∈ m ∧ K b
  | [], _, h => .inl h
  | (j, b) :: r, k, h => by
    unfold boxK at h
    cases hj : Nat.beq j k with
    | true => rw [hj] at h; exact .inr ⟨b, by rw [Nat.eq_of_beq_eq_true hj]; exact List.mem_cons_self .., h⟩
    | false =>
      rw [hj] at h
      rcases boxK_is (m := r) h with h | ⟨b', h1, h2⟩
      · exact .inl h
      · exact .inr ⟨b', List.mem_cons_of_mem _ h1, h2⟩
/-- A row is data from now on. -/
theorem RE.dropRow {K : St → Prop} {k : Nat} {e : TypeId} {t : Ty} {l : List (Den t)} (h : RE X0 w0 as E st a w) (hm : (k, .row e t l) ∈ st.mem) (hk : st.drop k (.sl t l false) K) : ∃ st', K st' ∧ RE X0 w0 as E st' a w := by
  have hr := h.mem k _ hm
  have hd : ∀ X', (∀ b, X' b → own X0 E st.mem b) → (E.live k = true → X' (E.blk k) → X0 (E.blk k)) → RC X' w E (E.rv k) (.sl t l false) := fun X' hx hlive => by
    refine ⟨?_, fun e => nomatch e⟩
    unfold RB at hr
    cases hl : E.live k with
    | false =>
      rw [hl] at hr
      obtain ⟨hr, rfl⟩ := hr
      obtain ⟨base, e⟩ := hr
      rw [e]; exact ⟨[], SX.empty, rfl⟩
    | true =>
      rw [hl] at hr
      obtain ⟨pre, cap, cur, e1, e2, e3, e4, e5, e6⟩ := hr
      exact ⟨_, .inl (.inr ⟨E.blk k, pre.length, cap, e1, fun hb => own_of_mem h hm hl (hlive hl hb), (Array.getElem?_eq_some_iff.1 e2).1, e3, e4, Row.takeL (row_body e2)⟩), e6.mono fun _ _ h => DC.up (Off.refl _ _) (fun b _ hb => hx b hb) h⟩
  obtain ⟨st', hk, h1, _⟩ := h.drop (X1 := X0) hm hk (fun b hb => .inl hb) hd
  exact ⟨st', hk, h1⟩
/-- Empty slices are own rows. -/
theorem rows_is : ∀ {rows : List (Nat × Nat × TypeId × Ty)} {st : St} {K : St → Prop} {E : Env}, RE X0 w0 as E st a w → rowsK rows st K → ∃ E' st', K st' ∧ RE X0 w0 as E' st' a w
  | [], st, K, E, h, hk => ⟨E, st, hk, h⟩
  | (i, k, e, t) :: r, st, K, E, h, hk => by
    unfold rowsK at hk
    cases hbig : Nat.ble 1000000 i with
    | true =>
      rw [hbig] at hk
      rcases boxK_is hk with hk | ⟨b, hm, hk⟩
      · exact rows_is h hk
      · split at hk
        · obtain ⟨st', hk, h'⟩ := h.dropRow hm hk
          exact rows_is h' hk
        · exact rows_is h hk
    | false =>
    rw [hbig] at hk
    simp only [cond_false] at hk
    obtain ⟨v, hv, hk⟩ := getK_is hk
    obtain ⟨u, hu, hr⟩ := h.tmps.at hv
    have emp : Emp (own X0 E st.mem) w u → (st.new k none (.row e t []) fun st => st.set i (.one (.row k)) fun st => rowsK r st K) → ∃ E' st', K st' ∧ RE X0 w0 as E' st' a w := fun hemp hk => by
      obtain ⟨E1, st1, hk, h1, q3, q4, q5, q6, q7⟩ := RE.new (X1 := X0) (g := 0) (v := u) (l := false) h hk h.below (Nat.le_refl _) (fun b hb _ => rfl) (fun e => nomatch e)
        (fun b hb => ⟨hb, fun e => nomatch e⟩) (fun X' E'' hx hoff hag e1 e2 e3 _ _ => by
          unfold RB
          rw [e3, e2]
          exact ⟨hemp.up hoff hx, rfl⟩)
      obtain ⟨st2, hk, h2, _⟩ := h1.reread hu (v := .one (.row k)) ⟨q4.symm, by
        obtain ⟨base, e⟩ := hemp
        rw [e]; rfl⟩ hk
      exact rows_is h2 hk
    split at hk
    · exact emp hr hk
    · exact emp ⟨_, hr⟩ hk
    · exact rows_is h hk
    · exact hk.elim

theorem RE.putM {K : St → Prop} {d : Option Tmp} {v : SV} {u : Value} (h : RE X0 w0 as E st a w) (hu : RV (own X0 E st.mem) w E u v) (hk : st.put d v K) :
    ∃ st', K st' ∧ RE X0 w0 as E st' (a.put d u) w ∧ st'.mem = st.mem := by
  cases d with
  | none => exact ⟨st, hk, h, rfl⟩
  | some i => obtain ⟨t, h1, _, h2⟩ := h.set hu hk; exact ⟨_, h1, h2, rfl⟩
/-! ### Plans -/
/-- What is asked of blocks while a region is gone through whose order is drawn. -/
def prOf (as : Cx) (X0 : Nat → Prop) (E0 : Env) (mem0 memf : List (Nat × Box)) (we : World) : Cx :=
  ⟨as.as, fun k b => as.pr k b ∧ (∀ j bx, (j, bx) ∈ memf → E0.live j = true → E0.blk j = b → k = j) ∧ (b < we.heap.size → own X0 E0 mem0 b)⟩
/-- The blocks that the region may change. -/
def mayOf (X0 : Nat → Prop) (E0 : Env) (mem0 memf : List (Nat × Box)) : Nat → Prop :=
  fun b => X0 b ∨ ∃ k bx, (k, bx) ∈ mem0 ∧ (∀ bx', (k, bx') ∉ memf) ∧ E0.live k = true ∧ E0.blk k = b
def Stands (X : Nat → Prop) (we w : World) : Prop := ∀ b, b < we.heap.size → ¬ X b → w.heap[b]? = we.heap[b]?
theorem hasAny_false {ks : List Nat} : ∀ {m : List (Nat × Box)}, hasAny ks m = false → ∀ k ∈ ks, ∀ bx, (k, bx) ∉ m
  | [], _, _, _, _, h => by cases h
  | (j, b) :: r, h, k, hk, bx, hm => by
    unfold hasAny at h
    cases hj : ks.any (Nat.beq j) with
    | true => rw [hj] at h; cases h
    | false =>
      rw [hj] at h
      rcases List.mem_cons.1 hm with e | hm
      · obtain ⟨rfl, _⟩ := Prod.mk.inj e
        rw [List.any_eq_false] at hj
        exact hj k hk (by simp)
      · exact hasAny_false (m := r) h k hk bx hm

theorem reck_is {hd : Bool} {o : Oper} {K : St → SV → Prop} (hT : T.ok P) (h : RE X0 w0 as E st a w) (hwl : worldless o.op = true) (hk : reckK T hd o st K) :
    ∃ st' v u, K st' v ∧ RE X0 w0 as E st' a w ∧ RV (own X0 E st'.mem) w E u v ∧ ∀ w', Yields P o a u w' := by
  unfold reckK at hk
  split at hk
  · rename_i t x lo hi mx ho
    obtain ⟨v, hk, hv⟩ := eval_is hk h
    split at hk
    · rename_i k
      obtain ⟨l, hk, hl⟩ := optInt_is hk h
      obtain ⟨hh, hk, hh2⟩ := optInt_is hk h
      obtain ⟨m, hk, hm⟩ := optInt_is hk h
      obtain ⟨st1, c', hk, h1, hu', _⟩ := freeze_is (u := a.eval x) (c := .row k) h hv hk
      obtain ⟨v', u, q1, q2, q3⟩ := slice_is (v := .one c') hT ho hu' hl hh2 hm hk
      exact ⟨st1, v', u, q1, h1, q2, q3⟩
    · obtain ⟨l, hk, hl⟩ := optInt_is hk h
      obtain ⟨hh, hk, hh2⟩ := optInt_is hk h
      obtain ⟨m, hk, hm⟩ := optInt_is hk h
      obtain ⟨v', u, q1, q2, q3⟩ := slice_is hT ho hv hl hh2 hm hk
      exact ⟨st, v', u, q1, h, q2, q3⟩
  · obtain ⟨v', u', hk, hv', hy'⟩ := read_is hT h hk
    exact ⟨st, v', u', hk, h, hv', fun w' => hy' w' (.inl hwl)⟩
theorem mem_keysOf {k : Nat} {bx : Box} : ∀ {m : List (Nat × Box)}, (k, bx) ∈ m → k ∈ keysOf m
  | (j, b) :: r, h => by
    rcases List.mem_cons.1 h with e | h
    · obtain ⟨rfl, _⟩ := Prod.mk.inj e; exact List.mem_cons_self ..
    · exact List.mem_cons_of_mem _ (mem_keysOf h)
theorem mem_lessK {W : List Nat} {k : Nat} {bx : Box} (hk : k ∉ W) : ∀ {m : List (Nat × Box)}, (k, bx) ∈ m → k ∈ lessK W m
  | (j, b) :: r, h => by
    unfold lessK
    cases hj : W.any (Nat.beq j) with
    | true =>
      rcases List.mem_cons.1 h with e | h
      · exfalso
        obtain ⟨x, hx, hb⟩ := List.any_eq_true.1 hj
        have e1 := (Prod.mk.inj e).1
        have := Nat.eq_of_beq_eq_true hb
        exact hk (by rw [e1, this]; exact hx)
      · exact mem_lessK hk h
    | false =>
      rcases List.mem_cons.1 h with e | h
      · rw [(Prod.mk.inj e).1]; exact List.mem_cons_self ..
      · exact List.mem_cons_of_mem _ (mem_lessK hk h)
theorem hasAny_no {ks : List Nat} : ∀ {m : List (Nat × Box)}, (∀ k ∈ ks, ∀ bx, (k, bx) ∉ m) → hasAny ks m = false
  | [], _ => rfl
  | (j, b) :: r, h => by
    unfold hasAny
    cases hj : ks.any (Nat.beq j) with
    | true =>
      obtain ⟨x, hx, hb⟩ := List.any_eq_true.1 hj
      have := Nat.eq_of_beq_eq_true hb
      exact absurd (List.mem_cons_self ..) (h x hx b ∘ fun h => by rw [← this]; exact h)
    | false => exact hasAny_no fun k hk bx hm => h k hk bx (List.mem_cons_of_mem _ hm)
theorem scalar_any {u : Value} {v : SV} (hs : v.scalar = true) (h : RV X w E u v) : RV X' w' E' u v := by
  have hc : ∀ {u : Value} {c : C}, c.scalar = true → RC X w E u c → RC X' w' E' u c := fun {u c} hs h => by
    cases c <;> first | exact h | cases hs
  have hcs : ∀ {cs : List C} {us : List Value}, cs.all C.scalar = true → RCs X w E us cs → RCs X' w' E' us cs := by
    intro cs
    induction cs with
    | nil => intro us _ h; cases us with
      | nil => trivial
      | cons => exact h.elim
    | cons c cs ih => intro us hs h; cases us with
      | nil => exact h.elim
      | cons u us =>
        rw [List.all_cons, Bool.and_eq_true] at hs
        exact ⟨hc hs.1 h.1, ih hs.2 h.2⟩
  cases v with
  | one c => exact hc hs h
  | agg cs => obtain ⟨us, e, h⟩ := h; exact ⟨us, e, hcs hs h⟩
  | tup vs =>
    obtain ⟨us, e, h⟩ := h
    refine ⟨us, e, ?_⟩
    have hs2 : (vs.all fun v => v.2.all C.scalar) = true := hs
    clear e hs
    induction vs generalizing us with
    | nil => cases us with
      | nil => trivial
      | cons => exact h.elim
    | cons p ps ih => cases us with
      | nil => exact h.elim
      | cons u us =>
        rw [List.all_cons, Bool.and_eq_true] at hs2
        have hs := hs2
        refine ⟨?_, ih us h.2 hs.2⟩
        have h1 := h.1
        unfold RP at h1 ⊢
        obtain ⟨b, cs⟩ := p
        cases b with
        | true => obtain ⟨vs, e, h1⟩ := h1; exact ⟨vs, e, hcs hs.1 h1⟩
        | false =>
          obtain ⟨c, e, h1⟩ := h1
          simp only at e
          subst e
          have hs1 := hs.1
          simp only [List.all_cons, List.all_nil, Bool.and_true] at hs1
          exact ⟨c, rfl, hc hs1 h1⟩

theorem late_is {v : SV} {u : Value} (h : RV X w E u v) : RV X' w' E' u (lateV v) := by
  unfold lateV
  cases hs : v.scalar with
  | true => exact scalar_any hs h
  | false => trivial
theorem waitsOf_spec {md : Region.Mode} {ops : Array Oper} {listed : Array Bool} {i : Nat} : ∀ (l acc : List Nat),
    (∀ k ∈ acc, listed.getD k true = false ∧ ∃ ok, ops[k]? = some ok ∧ ∃ e ∈ ok.after, Region.binds md e = true ∧ (e.on = i ∨ e.on ∈ acc)) →
    ∀ k ∈ waitsOf md ops listed i l acc, listed.getD k true = false ∧ ∃ ok, ops[k]? = some ok ∧ ∃ e ∈ ok.after, Region.binds md e = true ∧ (e.on = i ∨ e.on ∈ waitsOf md ops listed i l acc)
  | [], acc, h => h
  | j :: r, acc, h => by
    unfold waitsOf
    cases hj : ops[j]? with
    | none => exact waitsOf_spec r acc h
    | some oj =>
      simp only
      cases hc : (bif listed.getD j true then false else oj.after.any fun e => Region.binds md e && (Nat.beq e.on i || acc.any (Nat.beq e.on))) with
      | false => exact waitsOf_spec r acc h
      | true =>
        simp only [cond_true]
        refine waitsOf_spec r (j :: acc) fun k hk => ?_
        rcases List.mem_cons.1 hk with rfl | hk
        · cases hl : listed.getD k true with
          | true => rw [hl] at hc; cases hc
          | false =>
            rw [hl] at hc
            obtain ⟨e, he, hb⟩ := Array.any_eq_true'.1 hc
            simp only [Bool.and_eq_true, Bool.or_eq_true] at hb
            refine ⟨rfl, oj, hj, e, he, hb.1, ?_⟩
            rcases hb.2 with hb | hb
            · exact .inl (Nat.eq_of_beq_eq_true hb)
            · obtain ⟨x, hx, hxe⟩ := List.any_eq_true.1 hb
              exact .inr (List.mem_cons_of_mem _ (by rw [Nat.eq_of_beq_eq_true hxe]; exact hx))
        · obtain ⟨h1, ok, h2, e, he, hb, h3⟩ := h k hk
          exact ⟨h1, ok, h2, e, he, hb, h3.imp id (List.mem_cons_of_mem _)⟩
theorem lateOk_spec {md : Region.Mode} {ops : Array Oper} {listed : Array Bool} {i : Nat} : ∀ {late : List Nat}, lateOk md ops listed i late = true → ∀ j, late.any (Nat.beq j) = true → j ∈ waitsOf md ops listed i (List.range ops.size) []
  | [], _, _, h => by cases h
  | k :: r, h, j, hj => by
    unfold lateOk at h
    simp only [Bool.and_eq_true] at h
    rw [List.any_cons, Bool.or_eq_true] at hj
    rcases hj with hj | hj
    · obtain ⟨x, hx, hxe⟩ := List.any_eq_true.1 h.1
      rw [Nat.eq_of_beq_eq_true hj, Nat.eq_of_beq_eq_true hxe]; exact hx
    · exact lateOk_spec h.2 j hj
/-- An operation that reads (S1 is S) or reckons (S1 says nothing) may be taken first, if each other one waits for it, itself or through others, or keeps S1. -/
theorem wpAnyG_firstD {ops : Array Oper} {Q : Exit → Act → World → Prop} {md : Region.Mode} {S : World → Prop} {H : Nat → Bool} {S1 : World → Prop} {i : Nat} {oi : Oper} {v : Value} (D : Nat → Prop) (hi : ops[i]? = some oi) (hsel : ∀ (j : Nat) (o : Oper) cs b, ops[j]? = some o → o.op ≠ .select cs b)
    (hQ : ∀ c a w, Q (.panic c) (a.put oi.dst v) w → Q (.panic c) a w)
    (hD : ∀ k ok, ops[k]? = some ok → D k → ∃ e ∈ ok.after, Region.binds md e = true ∧ (e.on = i ∨ D e.on))
    (hH : ∀ j oj, ops[j]? = some oj → j ≠ i → D j ∨ (∀ w w', (H j = true → S w → S w') → S1 w → S1 w')) :
    ∀ (fuel : Nat) (listed : Array Bool) (a : Act) (w : World),
      (∀ j oj, ops[j]? = some oj → j ≠ i → listed.getD j true = false → (∀ e ∈ oj.after, Region.binds md e = true → e.on ≠ i) → oi.apart ops oj = true) →
      (∀ k, D k → listed.getD k true = false) →
      i ∈ Region.ready md ops listed → YieldsIf P ops S1 oi v a → S1 w →
      wpAnyG P md ops Q S H fuel (listed.setIfInBounds i true) (a.put oi.dst v) w → wpAnyG P md ops Q S H (fuel + 1) listed a w := by
  intro fuel
  induction fuel with
  | zero =>
    intro listed a w _ _ hr hy hS h
    refine ⟨fun h0 => (by rw [h0] at hr; cases hr), fun j hj => ?_⟩
    by_cases hji : j = i
    · subst hji; exact hy.wpOp hi hS ⟨fun _ h => h, h⟩
    · have := ready_mono hj hji
      rw [h.1] at this
      cases this
  | succ fuel ih =>
    intro listed a w hfree hun0 hr hy hS h
    refine ⟨fun h0 => (by rw [h0] at hr; cases hr), fun j hj => ?_⟩
    by_cases hji : j = i
    · subst hji; exact hy.wpOp hi hS ⟨fun _ h => h, h⟩
    · have h1 := h.2 j (ready_mono hj hji)
      obtain ⟨hjun, oj, hoj, _⟩ := mem_ready.1 hj
      have hnot := not_ready (mem_ready.1 hr).1 hj hoj
      have hDj : ¬ D j := fun hd => by
        obtain ⟨e, he, hb, hon | hon⟩ := hD j oj hoj hd
        · exact hnot e he hb hon
        · exact not_ready (hun0 _ hon) hj hoj e he hb rfl
      have hHj : ∀ w', (H j = true → S w → S w') → S1 w' := by
        rcases hH j oj hoj hji with hd | hk
        · exact absurd hd hDj
        · exact fun w' hw' => hk w w' hw' hS
      have h2 := wpOp_putIf hoj (hfree j oj hoj hji hjun hnot) (fun cs b => hsel i oi cs b hi) (fun cs b => hsel j oj cs b hoj) hQ hy h1
      have hfree' : ∀ k ok, ops[k]? = some ok → k ≠ i → (listed.setIfInBounds j true).getD k true = false →
          (∀ e ∈ ok.after, Region.binds md e = true → e.on ≠ i) → oi.apart ops ok = true := fun k ok hk hki hun hno => by
        refine hfree k ok hk hki ?_ hno
        by_cases hjk : j = k
        · subst hjk; exact hjun
        · rw [getD_set_ne true hjk] at hun; exact hun
      have hun' : ∀ k, D k → (listed.setIfInBounds j true).getD k true = false := fun k hk => by
        have hjk : j ≠ k := fun e => hDj (e ▸ hk)
        rw [getD_set_ne true hjk]; exact hun0 k hk
      refine wpOp_mono (fun a' w' h3 => ⟨h3.2.1, ih (listed.setIfInBounds j true) a' w' hfree' hun' (ready_mono hr (Ne.symm hji)) h3.1 (hHj w' h3.2.1) ?_⟩) h2
      rw [Array.setIfInBounds_comm _ _ hji]
      exact h3.2.2
theorem plan_is {hd : Bool} {call : List Nat → Nat → List SV → St → (St → SV → Prop) → Prop} {F : List Nat} {N : Nat → Prop} {ws : World} {b : Nat} {ops : List Oper} {R' : Act → World → Prop} {E0 : Env} {mem0 memf : List (Nat × Box)} {late : List Nat} {we : World} {K : St → Prop} (hT : T.ok P) (hC : CallOk P call)
    (hfr : ∀ ks, (∀ k ∈ ks, k ∉ F) → as.free ks) (hN : ∀ k b, k ∉ F → as.pr k b → ¬ N b) (hNs : ∀ b, N b → b < ws.heap.size) (hs : Region.noSelect ops.toArray = true) :
    ∀ (p : VPlan) (m : Bool) (listed : Array Bool) (sf st : St) (a : Act) (w : World) (E : Env), p.ok .any ops.toArray late m listed = true → (m = false ∧ sf.mem = memf ∧ Stands (mayOf X0 E0 mem0 memf) we w) ∨ (m = true ∧ sf.mem = []) →
      RE (mayOf X0 E0 mem0 memf) w0 ⟨as.as, fun _ _ => True⟩ E0 sf a we → RE X0 w0 (prOf as X0 E0 mem0 sf.mem we) E st a w → we.heap.size ≤ w.heap.size → BelowS N ws w →
      vPlan T hd call F b ops p sf st K → (∀ st' a' w' E', K st' → RE X0 w0 as E' st' a' w' → BelowS N ws w' → R' a' w') →
      wpAnyG P .any ops.toArray (fun e a w => e = .normal ∧ R' a w) (Stands (mayOf X0 E0 mem0 memf) we) (fun j => !late.any (Nat.beq j)) p.len listed a w := by
  have hfree : ∀ {memf : List (Nat × Box)} {ks : List Nat}, (∀ k ∈ ks, k ∉ F) → (∀ k ∈ ks, ∀ bx, (k, bx) ∉ memf) → (prOf as X0 E0 mem0 memf we).free ks := fun {memf ks} hnF hno k hk b hb d =>
    ⟨hfr ks hnF k hk b hb.1 d, fun j bx hj hl he => by
      have := hb.2.1 j bx hj hl he
      subst this
      exact absurd hj (hno k hk bx), hb.2.2⟩
  have hstand : ∀ {ks : List Nat} {st : St} {a : Act} {w w' : World} {E : Env}, hasAny ks memf = false → RE X0 w0 (prOf as X0 E0 mem0 memf we) E st a w → we.heap.size ≤ w.heap.size → Wrote E st.mem ks w w' → Stands (mayOf X0 E0 mem0 memf) we w → Stands (mayOf X0 E0 mem0 memf) we w' :=
    fun {ks st a w w' E} hno h hle hw hS b hb hx => by
      rw [hw.2 b (by omega) fun k hk bx hm hl he => ?_, hS b hb hx]
      have hp := h.prot k bx hm hl
      rw [he] at hp
      rcases hp.2.2 hb with c | ⟨j, bj, hj, hlj, hej⟩
      · exact hx (.inl c)
      · by_cases hjm : ∃ bx', (j, bx') ∈ memf
        · obtain ⟨bx', hjm⟩ := hjm
          have := hp.2.1 j bx' hjm hlj hej
          subst this
          exact hasAny_false hno k hk bx' hjm
        · exact hx (.inr ⟨j, bj, hj, fun bx' hb' => hjm ⟨bx', hb'⟩, hlj, hej⟩)
  have hQ : ∀ (o : Oper) (v : Value) (c : List PanicEntry) (a : Act) (w : World), (fun e a w => e = Exit.normal ∧ R' a w) (.panic c) (a.put o.dst v) w → (fun e a w => e = Exit.normal ∧ R' a w) (.panic c) a w := fun _ _ _ _ _ h => by cases h.1
  -- a step
  have step : ∀ (i : Nat) (p : VPlan) (m : Bool) (listed : Array Bool) (sf st : St) (a : Act) (w : World) (E : Env) (K2 : St → St → Prop), (!m || late.any (Nat.beq i)) = true → (m = false ∧ sf.mem = memf ∧ Stands (mayOf X0 E0 mem0 memf) we w) ∨ (m = true ∧ sf.mem = []) →
      RE (mayOf X0 E0 mem0 memf) w0 ⟨as.as, fun _ _ => True⟩ E0 sf a we → RE X0 w0 (prOf as X0 E0 mem0 sf.mem we) E st a w → we.heap.size ≤ w.heap.size →
      BelowS N ws w → vPlan.stepK T hd call F b ops i sf st K2 →
      (∀ sf' st' a' w' E', K2 sf' st' → (m = false ∧ sf'.mem = memf ∧ Stands (mayOf X0 E0 mem0 memf) we w') ∨ (m = true ∧ sf'.mem = []) → RE (mayOf X0 E0 mem0 memf) w0 ⟨as.as, fun _ _ => True⟩ E0 sf' a' we → RE X0 w0 (prOf as X0 E0 mem0 sf'.mem we) E' st' a' w' → we.heap.size ≤ w'.heap.size → BelowS N ws w' →
        wpAnyG P .any ops.toArray (fun e a w => e = .normal ∧ R' a w) (Stands (mayOf X0 E0 mem0 memf) we) (fun j => !late.any (Nat.beq j)) p.len (listed.setIfInBounds i true) a' w') →
      wpOp P ops.toArray (fun e a w => e = .normal ∧ R' a w) i (fun a' w' => ((fun j => !late.any (Nat.beq j)) i = true → Stands (mayOf X0 E0 mem0 memf) we w → Stands (mayOf X0 E0 mem0 memf) we w') ∧ wpAnyG P .any ops.toArray (fun e a w => e = .normal ∧ R' a w) (Stands (mayOf X0 E0 mem0 memf) we) (fun j => !late.any (Nat.beq j)) p.len (listed.setIfInBounds i true) a' w') a w := by
    intro i p m listed sf st a w E K2 hlt hI hf h hle hB hk hn
    unfold vPlan.stepK at hk
    obtain ⟨o, ho, hk⟩ := getK_is hk
    have ho2 : ops.toArray[i]? = some o := by simpa using ho
    have hk := guard_is hk h
    refine wpOp_step ho2 fun K' hK' => ?_
    split at hk
    · rename_i hw
      rw [if_pos hw]
      cases hF : hits F o st with
      | true => rw [hF] at hk; exact hk.elim
      | false =>
      rw [hF] at hk
      simp only [cond_false] at hk
      cases hno : hasAny (wrOf o st) sf.mem with
      | true => rw [hno] at hk; exact hk.elim
      | false =>
        rw [hno] at hk
        simp only [cond_false] at hk
        have hNw : ∀ b, N b → b < w.heap.size := fun b hb => Nat.lt_of_lt_of_le (hNs b hb) hB.size
        have fin : ∀ ks st' v u w' E', hasAny ks sf.mem = false → (∀ k ∈ ks, k ∉ F) → (sf.put o.dst (lateV v) fun sf => st'.put o.dst v fun st => K2 sf st) → RE X0 w0 (prOf as X0 E0 mem0 sf.mem we) E' st' a w' → RV (own X0 E' st'.mem) w' E' u v → Wrote E st.mem ks w w' → K' (a.put o.dst u) w' := fun ks st' v u w' E' hks hkF q1 q2 q3 q4 => by
          have hB' := hB.trans (wrote_below (as := prOf as X0 E0 mem0 sf.mem we) h q2 (fun k b hk hb => hN k b hk hb.1) hkF hNw q4)
          obtain ⟨sf', p1, p2, p5⟩ := hf.putM (v := lateV v) (u := u) (late_is q3) q1
          obtain ⟨st2, p3, p4⟩ := q2.put q3 p1
          rw [← p5] at p4
          refine hK' _ _ ⟨fun hH hS => ?_, hn _ _ _ _ _ p3 ?_ p2 p4 (Nat.le_trans hle q4.1) hB'⟩
          · rcases hI with ⟨_, hmf, hS⟩ | ⟨hm, _⟩
            · exact hstand (hmf ▸ hks) (hmf ▸ h) hle q4 hS
            · rw [hm] at hlt
              simp only [Bool.not_true, Bool.false_or] at hlt
              simp only [hlt] at hH
              cases hH
          · rcases hI with ⟨hm, hmf, hS⟩ | ⟨hm, hmf⟩
            · exact .inl ⟨hm, p5.trans hmf, hstand (hmf ▸ hks) (hmf ▸ h) hle q4 hS⟩
            · exact .inr ⟨hm, p5.trans hmf⟩
        have hfw := hfree (hits_false hF) (hasAny_false hno)
        obtain ⟨F', hF'⟩ : ∃ F', F' = F ++ (keysOf sf.mem ++ lessK (ptrsOf o st) st.mem) := ⟨_, rfl⟩
        rw [← hF'] at hk
        have inF : ∀ k, k ∈ F → k ∈ F' := fun k hk => by rw [hF']; exact List.mem_append_left _ hk
        have inSf : ∀ k bx, (k, bx) ∈ sf.mem → k ∈ F' := fun k bx hm => by rw [hF']; exact List.mem_append_right _ (List.mem_append_left _ (mem_keysOf hm))
        have inSt : ∀ k bx, (k, bx) ∈ st.mem → k ∉ F' → k ∈ ptrsOf o st := fun k bx hm hno => by
          refine Classical.byContradiction fun c => hno ?_
          rw [hF']
          exact List.mem_append_right _ (List.mem_append_right _ (mem_lessK c hm))
        cases hcv : isCallV o with
        | false =>
          refine op_is hT (hC F' (prOf as X0 E0 mem0 sf.mem we) (fun _ => False) (fun ks hks => hfree (fun k hk hx => hks k hk (inF k hx)) fun k hk bx hm => hks k hk (inSf k bx hm)) fun _ _ _ _ h => h) (fun _ h => h.elim) h hfw hk fun st' v u w' E' q1 q2 q3 q4 => ?_
          rcases q4 with q4 | q4
          · rw [hcv] at q4; cases q4.1
          · exact fin _ st' v u w' E' hno (hits_false hF) q1 q2 q3 q4
        | true =>
          obtain ⟨S, hSd⟩ : ∃ S : Nat → Prop, S = fun b => b < w.heap.size ∧ ∀ k, k ∉ F' → ∀ bx, (k, bx) ∈ st.mem → E.live k = true → E.blk k ≠ b := ⟨_, rfl⟩
          have hS1 : ∀ b, S b → b < w.heap.size := fun b hb => by rw [hSd] at hb; exact hb.1
          have hS2 : ∀ k bx, k ∉ F' → (k, bx) ∈ st.mem → E.live k = true → ¬ S (E.blk k) := fun k bx hx hm hl hb => by rw [hSd] at hb; exact hb.2 k hx bx hm hl rfl
          have h2 : RE X0 w0 ⟨as.as, fun k b => (prOf as X0 E0 mem0 sf.mem we).pr k b ∧ (k ∉ F' → ¬ S b)⟩ E st a w :=
            h.cx rfl (fun k bx hm hl => ⟨h.prot k bx hm hl, fun hx => hS2 k bx hx hm hl⟩) fun k b hb => ⟨h.prN k b hb, fun _ hs => absurd (hS1 b hs) (Nat.not_lt.2 hb)⟩
          refine op_is hT (hC F' ⟨as.as, fun k b => (prOf as X0 E0 mem0 sf.mem we).pr k b ∧ (k ∉ F' → ¬ S b)⟩ S (fun ks hks k hk b hb d => ⟨hfree (fun k hk hx => hks k hk (inF k hx)) (fun k hk bx hm => hks k hk (inSf k bx hm)) k hk b hb.1 d, fun _ => hb.2 (hks k hk)⟩) fun k b hk hb => hb.2 hk) hS1 h2 (by rw [isCallV_wr hcv]; exact fun k hk => nomatch hk) hk fun st' v u w' E' q1 q2 q3 q4 => ?_
          have q2' := q2.cx (as' := prOf as X0 E0 mem0 sf.mem we) rfl (fun k bx hm hl => (q2.prot k bx hm hl).1) fun k b hb => (q2.prN k b hb).1
          rcases q4 with ⟨_, q4⟩ | q4
          · refine fin ((ptrsOf o st).filter fun k => decide (k ∉ F')) st' v u w' E' (hasAny_no fun k hk bx hm => ?_) (fun k hk hx => ?_) q1 q2' q3 ⟨q4.size, fun b hb hne => q4.block b ?_⟩
            · exact of_decide_eq_true (List.mem_filter.1 hk).2 (inSf k bx hm)
            · exact of_decide_eq_true (List.mem_filter.1 hk).2 (inF k hx)
            · rw [hSd]
              exact ⟨hb, fun k hx bx hm hl => hne k (List.mem_filter.2 ⟨inSt k bx hm hx, decide_eq_true hx⟩) bx hm hl⟩
          · exact fin _ st' v u w' E' hno (hits_false hF) q1 q2' q3 q4
    · rename_i hw
      rw [if_neg (by rw [hw]; decide)]
      obtain ⟨sf', p1, p2, p5⟩ := hf.putM (v := .tup []) (u := undef) ⟨[], rfl, trivial⟩ hk
      obtain ⟨st2, p3, p4⟩ := h.put (v := .tup []) (u := undef) ⟨[], rfl, trivial⟩ p1
      rw [← p5] at p4
      exact hK' _ _ ⟨fun _ h => h, hn _ _ _ _ _ p3 (hI.imp (fun c => ⟨c.1, p5.trans c.2.1, c.2.2⟩) fun c => ⟨c.1, p5.trans c.2⟩) p2 p4 hle hB⟩
  have take : ∀ (i : Nat) (p : VPlan) (listed : Array Bool) (a : Act) (w : World) (o : Oper) (v : Value), ops[i]? = some o → Region.free .any ops.toArray listed i = true → (Region.ready .any ops.toArray listed).contains i = true → lateOk .any ops.toArray listed i late = true →
      YieldsIf P ops.toArray (Stands (mayOf X0 E0 mem0 memf) we) o v a → Stands (mayOf X0 E0 mem0 memf) we w →
      wpAnyG P .any ops.toArray (fun e a w => e = .normal ∧ R' a w) (Stands (mayOf X0 E0 mem0 memf) we) (fun j => !late.any (Nat.beq j)) p.len (listed.setIfInBounds i true) (a.put o.dst v) w →
      wpAnyG P .any ops.toArray (fun e a w => e = .normal ∧ R' a w) (Stands (mayOf X0 E0 mem0 memf) we) (fun j => !late.any (Nat.beq j)) (p.len + 1) listed a w :=
    fun i p listed a w o v ho hf hr hlo hy hS h =>
      have ho2 : ops.toArray[i]? = some o := by simpa using ho
      have hsp := waitsOf_spec (md := .any) (ops := ops.toArray) (listed := listed) (i := i) (List.range ops.toArray.size) [] (fun k hk => nomatch hk)
      wpAnyG_firstD (fun k => k ∈ waitsOf .any ops.toArray listed i (List.range ops.toArray.size) []) ho2 (Region.noSelect_spec hs) (fun c a w => hQ o v c a w)
        (fun k ok hk hd => by
          obtain ⟨_, ok', hk', h2⟩ := hsp k hd
          obtain rfl : ok' = ok := Option.some.inj (hk'.symm.trans hk)
          exact h2)
        (fun j oj hj hji => by
          cases hjl : late.any (Nat.beq j) with
          | true => exact .inl (lateOk_spec hlo j hjl)
          | false => exact .inr fun w w' hk hw => hk (by first | rfl | (rw [hjl]; rfl)) hw) p.len listed a w (Region.free_spec ho2 hf) (fun k hk => (hsp k hk).1) (List.contains_iff_mem.1 hr) hy hS h
  have reckn : ∀ (i : Nat) (p : VPlan) (listed : Array Bool) (a : Act) (w : World) (o : Oper) (v : Value), ops[i]? = some o → Region.free .any ops.toArray listed i = true → (Region.ready .any ops.toArray listed).contains i = true →
      YieldsIf P ops.toArray (fun _ => True) o v a →
      wpAnyG P .any ops.toArray (fun e a w => e = .normal ∧ R' a w) (Stands (mayOf X0 E0 mem0 memf) we) (fun j => !late.any (Nat.beq j)) p.len (listed.setIfInBounds i true) (a.put o.dst v) w →
      wpAnyG P .any ops.toArray (fun e a w => e = .normal ∧ R' a w) (Stands (mayOf X0 E0 mem0 memf) we) (fun j => !late.any (Nat.beq j)) (p.len + 1) listed a w :=
    fun i p listed a w o v ho hf hr hy h =>
      have ho2 : ops.toArray[i]? = some o := by simpa using ho
      wpAnyG_first ho2 (Region.noSelect_spec hs) (fun c a w => hQ o v c a w) (fun j oj hj hji => .inr fun _ _ _ _ => trivial) p.len listed a w (Region.free_spec ho2 hf) (List.contains_iff_mem.1 hr) hy trivial h
  have inv : ∀ {m : Bool} {sf sf' : St} {w : World}, sf'.mem = sf.mem → ((m = false ∧ sf.mem = memf ∧ Stands (mayOf X0 E0 mem0 memf) we w) ∨ (m = true ∧ sf.mem = [])) → ((m = false ∧ sf'.mem = memf ∧ Stands (mayOf X0 E0 mem0 memf) we w) ∨ (m = true ∧ sf'.mem = [])) := fun p5 hI => hI.imp (fun c => ⟨c.1, p5.trans c.2.1, c.2.2⟩) fun c => ⟨c.1, p5.trans c.2⟩
  intro p
  induction p with
  | done =>
    intro m listed sf st a w E hok hI hf h hle hB hk hn
    exact ⟨by simpa [VPlan.ok] using hok, rfl, hn _ _ _ _ hk (h.cx rfl (fun k bx hm hl => (h.prot k bx hm hl).1) fun k b hb => (h.prN k b hb).1) hB⟩
  | take i p ih =>
    intro m listed sf st a w E hok hI hf h hle hB hk hn
    simp only [VPlan.ok, Bool.and_eq_true] at hok
    obtain ⟨⟨⟨⟨hfr, hrd⟩, hm⟩, hlo⟩, hok⟩ := hok
    have hS : Stands (mayOf X0 E0 mem0 memf) we w := by
      rcases hI with c | c
      · exact c.2.2
      · rw [c.1] at hm; cases hm
    unfold vPlan at hk
    obtain ⟨o, ho, hk⟩ := getK_is hk
    have hk := guard_is hk hf
    have hk := guard_is hk h
    cases hw : Region.wanted o (yielded ops.toArray a.tmps) with
    | true =>
      rw [hw] at hk
      simp only at hk
      obtain ⟨v, u, hk, hv, hy⟩ := read_is hT hf hk
      obtain ⟨v', u', hk, hv', hy'⟩ := read_is hT h hk
      have hyy : ∀ w', Stands (mayOf X0 E0 mem0 memf) we w' → Yields P o a u w' := fun w' hw' => hy w' (.inr fun b hb hx => hw' b hb hx)
      have he : u' = u := by
        have e1 := hyy w hS
        have e2 := hy' w (.inr fun _ _ _ => rfl)
        unfold Yields at e1 e2
        rw [e1] at e2
        injection e2 with e2 _
        injection e2 with e2
        exact e2.symm
      subst he
      obtain ⟨sf', p1, p2, p5⟩ := hf.putM hv hk
      obtain ⟨st2, p3, p4⟩ := h.put hv' p1
      rw [← p5] at p4
      exact take i p listed a w o u' ho hfr hrd hlo (.inl ⟨hw, hyy⟩) hS (ih _ _ _ _ _ _ _ hok (inv p5 hI) p2 p4 hle hB p3 hn)
    | false =>
      rw [hw] at hk
      simp only at hk
      obtain ⟨sf', p1, p2, p5⟩ := hf.putM (v := .tup []) (u := undef) ⟨[], rfl, trivial⟩ hk
      obtain ⟨st2, p3, p4⟩ := h.put (v := .tup []) (u := undef) ⟨[], rfl, trivial⟩ p1
      rw [← p5] at p4
      exact take i p listed a w o undef ho hfr hrd hlo (.inr ⟨hw, rfl⟩) hS (ih _ _ _ _ _ _ _ hok (inv p5 hI) p2 p4 hle hB p3 hn)
  | reck i p ih =>
    intro m listed sf st a w E hok hI hf h hle hB hk hn
    simp only [VPlan.ok, Bool.and_eq_true] at hok
    obtain ⟨⟨hfr, hrd⟩, hok⟩ := hok
    unfold vPlan at hk
    obtain ⟨o, ho, hk⟩ := getK_is hk
    cases hwl : worldless o.op with
    | false => rw [hwl] at hk; exact hk.elim
    | true =>
      rw [hwl] at hk
      simp only [cond_true] at hk
      have hk := guard_is hk h
      cases hw : Region.wanted o (yielded ops.toArray a.tmps) with
      | true =>
        rw [hw] at hk
        simp only at hk
        obtain ⟨st1, v', u', hk, h, hv', hy'⟩ := reck_is hT h hwl hk
        obtain ⟨sf', p1, p2, p5⟩ := hf.putM (v := lateV v') (u := u') (late_is hv') hk
        obtain ⟨st2, p3, p4⟩ := h.put hv' p1
        rw [← p5] at p4
        exact reckn i p listed a w o u' ho hfr hrd (.inl ⟨hw, fun w' _ => hy' w'⟩) (ih _ _ _ _ _ _ _ hok (inv p5 hI) p2 p4 hle hB p3 hn)
      | false =>
        rw [hw] at hk
        simp only at hk
        obtain ⟨sf', p1, p2, p5⟩ := hf.putM (v := .tup []) (u := undef) ⟨[], rfl, trivial⟩ hk
        obtain ⟨st2, p3, p4⟩ := h.put (v := .tup []) (u := undef) ⟨[], rfl, trivial⟩ p1
        rw [← p5] at p4
        exact reckn i p listed a w o undef ho hfr hrd (.inr ⟨hw, rfl⟩) (ih _ _ _ _ _ _ _ hok (inv p5 hI) p2 p4 hle hB p3 hn)
  | one i p ih =>
    intro m listed sf st a w E hok hI hf h hle hB hk hn
    simp only [VPlan.ok, Bool.and_eq_true, beq_iff_eq] at hok
    obtain ⟨⟨hrd, hlt⟩, hok⟩ := hok
    refine ⟨fun h0 => (by rw [hrd] at h0; cases h0), fun j hj => ?_⟩
    rw [hrd] at hj
    obtain rfl : j = i := by simpa using hj
    exact step j p m listed sf st a w E _ hlt hI hf h hle hB hk fun sf' st' a' w' E' q1 q2 q3 q4 q6 q7 => ih _ _ _ _ _ _ _ hok q2 q3 q4 q6 q7 q1 hn
  | two i j p q ihp ihq =>
    intro m listed sf st a w E hok hI hf h hle hB hk hn
    unfold VPlan.ok at hok
    obtain ⟨hok, hok2⟩ := Bool.and_eq_true_iff.1 hok
    obtain ⟨hok, hok1⟩ := Bool.and_eq_true_iff.1 hok
    obtain ⟨hok, hl⟩ := Bool.and_eq_true_iff.1 hok
    obtain ⟨hrd, hlt⟩ := Bool.and_eq_true_iff.1 hok
    have hrd := eq_of_beq hrd
    have hl := eq_of_beq hl
    have hll : (!m || late.any (Nat.beq i)) = true ∧ (!m || late.any (Nat.beq j)) = true := by
      cases m with
      | false => simp
      | true => simpa [and_assoc] using hlt
    refine ⟨fun h0 => (by rw [hrd] at h0; cases h0), fun k' hk' => ?_⟩
    rw [hrd] at hk'
    simp only [List.mem_cons, List.not_mem_nil, or_false] at hk'
    rcases hk' with rfl | rfl
    · exact step k' p m listed sf st a w E _ hll.1 hI hf h hle hB hk.1 fun sf' st' a' w' E' q1 q2 q3 q4 q6 q7 => ihp _ _ _ _ _ _ _ hok1 q2 q3 q4 q6 q7 q1 hn
    · show wpOp P ops.toArray _ k' (fun a' w' => _ ∧ wpAnyG P .any ops.toArray _ _ _ p.len _ a' w') a w
      rw [hl]
      exact step k' q m listed sf st a w E _ hll.2 hI hf h hle hB hk.2 fun sf' st' a' w' E' q1 q2 q3 q4 q6 q7 => ihq _ _ _ _ _ _ _ hok2 q2 q3 q4 q6 q7 q1 hn
  | three i j k p q r ihp ihq ihr =>
    intro m listed sf st a w E hok hI hf h hle hB hk hn
    unfold VPlan.ok at hok
    obtain ⟨hok, hok3⟩ := Bool.and_eq_true_iff.1 hok
    obtain ⟨hok, hok2⟩ := Bool.and_eq_true_iff.1 hok
    obtain ⟨hok, hok1⟩ := Bool.and_eq_true_iff.1 hok
    obtain ⟨hok, hl2⟩ := Bool.and_eq_true_iff.1 hok
    obtain ⟨hok, hl⟩ := Bool.and_eq_true_iff.1 hok
    obtain ⟨hrd, hlt⟩ := Bool.and_eq_true_iff.1 hok
    have hrd := eq_of_beq hrd
    have hl := eq_of_beq hl
    have hl2 := eq_of_beq hl2
    have hll : (!m || late.any (Nat.beq i)) = true ∧ (!m || late.any (Nat.beq j)) = true ∧ (!m || late.any (Nat.beq k)) = true := by
      cases m with
      | false => simp
      | true => simpa [and_assoc] using hlt
    refine ⟨fun h0 => (by rw [hrd] at h0; cases h0), fun k' hk' => ?_⟩
    rw [hrd] at hk'
    simp only [List.mem_cons, List.not_mem_nil, or_false] at hk'
    rcases hk' with rfl | rfl | rfl
    · exact step k' p m listed sf st a w E _ hll.1 hI hf h hle hB hk.1 fun sf' st' a' w' E' q1 q2 q3 q4 q6 q7 => ihp _ _ _ _ _ _ _ hok1 q2 q3 q4 q6 q7 q1 hn
    · show wpOp P ops.toArray _ k' (fun a' w' => _ ∧ wpAnyG P .any ops.toArray _ _ _ p.len _ a' w') a w
      rw [hl]
      exact step k' q m listed sf st a w E _ hll.2.1 hI hf h hle hB hk.2.1 fun sf' st' a' w' E' q1 q2 q3 q4 q6 q7 => ihq _ _ _ _ _ _ _ hok2 q2 q3 q4 q6 q7 q1 hn
    · show wpOp P ops.toArray _ k' (fun a' w' => _ ∧ wpAnyG P .any ops.toArray _ _ _ p.len _ a' w') a w
      rw [hl2]
      exact step k' r m listed sf st a w E _ hll.2.2 hI hf h hle hB hk.2.2 fun sf' st' a' w' E' q1 q2 q3 q4 q6 q7 => ihr _ _ _ _ _ _ _ hok3 q2 q3 q4 q6 q7 q1 hn
  | four i j k l p q r s' ihp ihq ihr ihs =>
    intro m listed sf st a w E hok hI hf h hle hB hk hn
    unfold VPlan.ok at hok
    obtain ⟨hok, hok4⟩ := Bool.and_eq_true_iff.1 hok
    obtain ⟨hok, hok3⟩ := Bool.and_eq_true_iff.1 hok
    obtain ⟨hok, hok2⟩ := Bool.and_eq_true_iff.1 hok
    obtain ⟨hok, hok1⟩ := Bool.and_eq_true_iff.1 hok
    obtain ⟨hok, hl3⟩ := Bool.and_eq_true_iff.1 hok
    obtain ⟨hok, hl2⟩ := Bool.and_eq_true_iff.1 hok
    obtain ⟨hok, hl⟩ := Bool.and_eq_true_iff.1 hok
    obtain ⟨hrd, hlt⟩ := Bool.and_eq_true_iff.1 hok
    have hrd := eq_of_beq hrd
    have hl := eq_of_beq hl
    have hl2 := eq_of_beq hl2
    have hl3 := eq_of_beq hl3
    have hll : (!m || late.any (Nat.beq i)) = true ∧ (!m || late.any (Nat.beq j)) = true ∧ (!m || late.any (Nat.beq k)) = true ∧ (!m || late.any (Nat.beq l)) = true := by
      cases m with
      | false => simp
      | true => simpa [and_assoc] using hlt
    refine ⟨fun h0 => (by rw [hrd] at h0; cases h0), fun k' hk' => ?_⟩
    rw [hrd] at hk'
    simp only [List.mem_cons, List.not_mem_nil, or_false] at hk'
    rcases hk' with rfl | rfl | rfl | rfl
    · exact step k' p m listed sf st a w E _ hll.1 hI hf h hle hB hk.1 fun sf' st' a' w' E' q1 q2 q3 q4 q6 q7 => ihp _ _ _ _ _ _ _ hok1 q2 q3 q4 q6 q7 q1 hn
    · show wpOp P ops.toArray _ k' (fun a' w' => _ ∧ wpAnyG P .any ops.toArray _ _ _ p.len _ a' w') a w
      rw [hl]
      exact step k' q m listed sf st a w E _ hll.2.1 hI hf h hle hB hk.2.1 fun sf' st' a' w' E' q1 q2 q3 q4 q6 q7 => ihq _ _ _ _ _ _ _ hok2 q2 q3 q4 q6 q7 q1 hn
    · show wpOp P ops.toArray _ k' (fun a' w' => _ ∧ wpAnyG P .any ops.toArray _ _ _ p.len _ a' w') a w
      rw [hl2]
      exact step k' r m listed sf st a w E _ hll.2.2.1 hI hf h hle hB hk.2.2.1 fun sf' st' a' w' E' q1 q2 q3 q4 q6 q7 => ihr _ _ _ _ _ _ _ hok3 q2 q3 q4 q6 q7 q1 hn
    · show wpOp P ops.toArray _ k' (fun a' w' => _ ∧ wpAnyG P .any ops.toArray _ _ _ p.len _ a' w') a w
      rw [hl3]
      exact step k' s' m listed sf st a w E _ hll.2.2.2 hI hf h hle hB hk.2.2.2 fun sf' st' a' w' E' q1 q2 q3 q4 q6 q7 => ihs _ _ _ _ _ _ _ hok4 q2 q3 q4 q6 q7 q1 hn
  | late p ih =>
    intro m listed sf st a w E hok hI hf h hle hB hk hn
    unfold VPlan.ok at hok
    unfold vPlan at hk
    obtain ⟨t, m0, s⟩ := sf
    simp only at hk
    exact ih true listed ⟨t, [], s⟩ st a w E hok (.inr ⟨rfl, rfl⟩) (hf.fewer (X1 := mayOf X0 E0 mem0 memf) hf.tmps (List.nil_sublist _) fun b hb => .inl hb)
      (h.cx rfl (fun k bx hm hl => ⟨(h.prot k bx hm hl).1, fun _ _ hj => (nomatch hj), (h.prot k bx hm hl).2.2⟩) fun k b hb => ⟨(h.prN k b hb).1, fun _ _ hj => (nomatch hj), (h.prN k b hb).2.2⟩) hle hB hk hn
end
end Go.Proofs.YtpobngddiifdpaaGreat.V
/- Code and calls. -/
namespace Go.Proofs.YtpobngddiifdpaaGreat.V
open Go Go.RowKit Go.Proofs.YtpobngddiifdpaaGreat.Hz

/-! ### What a function computes -/
def env0 : Env := ⟨fun _ => 0, fun _ => undef, fun _ => false⟩
/-- Of values that read as args the function returns one that reads as res; nothing that stood is changed. -/
def Spec (P : Program) (f : Nat) (args : List SV) (res : SV) : Prop :=
  goFunc P f = true ∧ ∀ (X : Nat → Prop) (w : World) (us : List Value), (∀ b, X b → b < w.heap.size) → RVs X w env0 us args →
    Calls P f us.toArray w fun e w' => ∃ u, e = .returned u ∧ RV X w' env0 u res ∧ Below w.heap.size w w'

/-- A call by what is known of the function: numbers and bools come back. -/
def specS (P : Program) (f : Nat) (vs : List SV) (st : St) (K : St → SV → Prop) : Prop :=
  viewVs st.mem vs fun ds => bif svsData ds then ∃ res, Spec P f ds res ∧ (bif (bif res.data then res.scalar else false) then K st res else False) else False
/-- What comes back holds data: the own rows that are handed over are given up. -/
def specD (P : Program) (f : Nat) (vs : List SV) (st : St) (K : St → SV → Prop) : Prop :=
  freezeVs st vs fun st vs => viewVs [] vs fun ds => bif svsData ds then ∃ res, Spec P f ds res ∧ (bif res.data then K st res else False) else False
/-- Functions without captures. -/
def fnsOnly : List (Int × SV) → Bool
  | [] => true
  | (_, .one (.fn _ [])) :: r => fnsOnly r
  | _ => false
/-- The function returns a new map of functions. -/
def SpecM (P : Program) (f : Nat) (args : List SV) (m : List (Int × SV)) : Prop :=
  goFunc P f = true ∧ ∀ (X : Nat → Prop) (w : World) (us : List Value), (∀ b, X b → b < w.heap.size) → RVs X w env0 us args →
    Calls P f us.toArray w fun e w' => ∃ g es clock, e = .returned (.map (some g)) ∧ w.heap.size ≤ g ∧ g < w'.heap.size ∧ w'.heap[g]? = some (.map es clock) ∧ RFm X w' env0 es.toList m ∧ Below w.heap.size w w'
def specM (P : Program) (f : Nat) (vs : List SV) (st : St) (K : St → SV → Prop) : Prop :=
  viewVs st.mem vs fun ds => bif svsData ds then ∃ k m, SpecM P f ds m ∧ (bif fnsOnly m then st.new k none (.fmap m) fun st => K st (.one (.map k)) else False) else False
def specCall (P : Program) (f : Nat) (vs : List SV) (st : St) (K : St → SV → Prop) : Prop := specS P f vs st K ∨ specD P f vs st K ∨ specM P f vs st K

/-- Results. -/
def resK (T : Tab) (st : St) : List ResultVar → (List SV → Prop) → Prop
  | [], K => K []
  | .tmp t :: r, K => getK st.tmps t fun v => resK T st r fun vs => K (v :: vs)
  | .cell x t :: r, K => getK st.tmps x fun v => loadAtK T t st v fun v => resK T st r fun vs => K (v :: vs)
def tupK : List SV → (List (Bool × List C) → Prop) → Prop
  | [], K => K []
  | .one c :: r, K => tupK r fun ps => K ((false, [c]) :: ps)
  | .agg cs :: r, K => tupK r fun ps => K ((true, cs) :: ps)
  | .tup _ :: _, _ => False
def oneResK (vs : List SV) (K : SV → Prop) : Prop :=
  match vs with
  | [v] => K v
  | vs => tupK vs fun ps => K (.tup ps)
def undefsK : Nat → (List SV → Prop) → Prop
  | 0, K => K []
  | n + 1, K => undefsK n fun r => K (.one .undef :: r)
/-- Up to n slots. -/
def padK : List SV → Nat → (List SV → Prop) → Prop
  | [], n, K => undefsK n K
  | v :: r, n, K => padK r (n - 1) fun r => K (v :: r)

/-- Held, so that nothing looks into it. -/
structure VHold (p : Prop) : Prop where
  out : p
/-- So many times at most. -/
def vLoop (body : (St → Prop) → St → Prop) (n : Nat) (st : St) : Prop := Nat.rec (motive := fun _ => St → Prop) (fun _ => False) (fun _ ih st => body ih st) n st
theorem vLoop_zero {body : (St → Prop) → St → Prop} {st : St} : ¬ vLoop body 0 st := by unfold vLoop; exact fun h => h
theorem vLoop_succ {body : (St → Prop) → St → Prop} {n : Nat} {st : St} : vLoop body (n + 1) st = body (vLoop body n) st := by
  unfold vLoop; rfl
/-- Code. -/
def vCode (P : Program) (T : Tab) (hd : Bool) (call : List Nat → Nat → List SV → St → (St → SV → Prop) → Prop) (F : List Nat) (b : Nat) : Code → (Exit → St → Prop) → St → Prop
  | .skip, Q, st => Q .normal st
  | .label _, Q, st => Q .normal st
  | .exit i, Q, st => Q (.exit i) st
  | .ret, Q, st => Q .ret st
  | .seq x y, Q, st => vCode P T hd call F b x (fun e st => match e with
      | .normal => vCode P T hd call F b y Q st
      | e => Q e st) st
  | .cond c x y, Q, st => match c with
    | .tmp i => getK st.tmps i fun v => match v with
      | .one (.bool c) => match c with
        | true => st.set i (.one (.bool true)) fun st => vCode P T hd call F b x Q st
        | false => st.set i (.one (.bool false)) fun st => vCode P T hd call F b y Q st
      | _ => False
    | _ => False
  | .block i x, Q, st => vCode P T hd call F b x (fun e st => match e with
      | .exit j => bif Nat.beq j i then Q .normal st else Q (.exit j) st
      | e => Q e st) st
  | .scope x, Q, st => vCode P T hd call F b x (fun e st => match e with
      | .goto _ => False
      | e => Q e st) st
  | .loop x, Q, st => ∃ rows L B n, rowsK rows st fun st => St.keep L B st fun st => VHold (vLoop (fun ih st => vCode P T hd call F b x (fun e st => match e with
      | .normal => rowsK rows st fun st => St.keep L B st ih
      | e => Q e st) st) n st)
  | .region _ ops draw, Q, st => match draw with
    | false => vOps T hd call F b ops.toList ops.toList st fun st => Q .normal st
    | true => ∃ p G, planFits ops p = true ∧ ∃ st', (match st with | ⟨t, m0, s⟩ => keepM G m0 fun m => vPlan T hd call F b ops.toList p ⟨t, m, s⟩ ⟨t, m0, s⟩ fun st => st = st') ∧ Q .normal st'
  | _, _, _ => False

def isEnd : Exit → Bool
  | .normal => true
  | .ret => true
  | _ => false
theorem isEnd_is {e : Exit} (h : isEnd e = true) : e = .normal ∨ e = .ret := by
  cases e <;> first | exact .inl rfl | exact .inr rfl | cases h
/-- A call: by what is known, or by going through the function's own code, at most so deep. -/
def vCall (P : Program) (T : Tab) (hd : Bool) : Nat → List Nat → Nat → List SV → St → (St → SV → Prop) → Prop
  | 0, _, f, vs, st, K => specCall P f vs st K
  | n + 1, F, f, vs, st, K => specCall P f vs st K ∨ ∃ (fn : Func) (c : Code) (b : Nat), P.funcs[f]? = some fn ∧ (goFunc P f = true ∧ fn.body = some c) ∧ (match st with
      | ⟨t, m, s⟩ => padK vs fn.ntmps fun ts => vCode P T hd (vCall P T hd n) F b c (fun e st => bif isEnd e then (resK T st fn.results.toList fun rs => oneResK rs fun v => match st with
        | ⟨_, m, t :: s⟩ => K ⟨t, m, s⟩ v
        | _ => False) else False) ⟨ts, m, t :: s⟩)
/-- The end of a function. -/
def endsK (T : Tab) (fn : Func) (res : SV) (e : Exit) (st : St) : Prop :=
  bif isEnd e then (resK T st fn.results.toList fun rs => oneResK rs fun v => freezeV st v fun _ v => v = res ∨ v.clean = res) else False

section
variable {X X' X0 : Nat → Prop} {w w' w0 : World} {E E' : Env} {as : Cx} {st : St} {a : Act} {P : Program} {T : Tab}

/-- Blocks are made, and nothing else. -/
theorem RE.grow (h : RE X0 w0 as E st a w) (hB : Below w.heap.size w w') : RE X0 w0 as E st a w' := by
  have hoff : Off (own X0 E st.mem) w w' := Off.ofBelow hB
  exact ⟨fun b hb => ⟨Nat.lt_of_lt_of_le (h.apart b hb).1 hB.size, (h.apart b hb).2⟩, h.belowUp hB, h.defers, h.tmps.up hoff (fun _ _ hx => hx) fun _ _ => ⟨rfl, rfl⟩, fun k bx hm => (h.mem k bx hm).up hoff (fun _ _ hx => hx) (fun _ _ => ⟨rfl, rfl⟩) ⟨rfl, rfl, rfl⟩ fun hl => hB.block _ (h.place k bx hm hl).2,
    fun k bx hm hl => ⟨(h.place k bx hm hl).1, Nat.lt_of_lt_of_le (h.place k bx hm hl).2 hB.size⟩, h.keys, h.inj, h.stk.up hoff (fun _ _ hx => hx) (fun _ _ => ⟨rfl, rfl⟩), h.prot, fun j b hb => h.prN j b (Nat.le_trans hB.size hb)⟩

/-! ### Values that are data -/
theorem C.data_says {c : C} (h : c.data = true) (k : Nat) : c.says k = false := by
  cases c with
  | fn f caps => cases caps with
    | nil => rfl
    | cons => cases h
  | _ => first | rfl | cases h
theorem allData_says : ∀ {cs : List C}, allData cs = true → ∀ k, anyC (C.says k) cs = false
  | [], _, _ => rfl
  | c :: r, h, k => by
    unfold allData at h
    cases hc : c.data with
    | false => rw [hc] at h; cases h
    | true => rw [hc] at h; rw [anyC_cons, C.data_says hc, allData_says h]; rfl
theorem SV.data_says {v : SV} (h : v.data = true) (k : Nat) : v.says k = false := by
  cases v with
  | one c => exact C.data_says h k
  | agg cs => exact allData_says h k
  | tup vs =>
    unfold SV.data at h
    unfold SV.says
    rw [List.any_eq_false]
    intro p hp
    rw [List.all_eq_true] at h
    rw [allData_says (h p hp)]; decide
theorem svsData_says : ∀ {vs : List SV}, svsData vs = true → ∀ k, tmpsSay k vs = false
  | [], _, _ => rfl
  | v :: r, h, k => by
    unfold svsData at h
    cases hv : v.data with
    | false => rw [hv] at h; cases h
    | true => rw [hv] at h; rw [tmpsSay_cons, SV.data_says hv, svsData_says h]; rfl
/-- What is data reads so, whatever the numbers of boxes stand for. -/
theorem data_env {u : Value} {v : SV} (hd : v.data = true) (h : RV X w E u v) : RV X w E' u v := h.up (Off.refl _ _) (fun _ _ hx => hx) fun j hj => by
  have := SV.data_says hd j
  simp only [this] at hj; cases hj
theorem datas_env {us : List Value} {vs : List SV} (hd : svsData vs = true) (h : RVs X w E us vs) : RVs X w E' us vs := h.up (Off.refl _ _) (fun _ _ hx => hx) fun j hj => by
  have := svsData_says hd j
  simp only [this] at hj; cases hj
/-! ### Own rows looked at as data -/
theorem elemsOf_is {t : Ty} : ∀ {n : Nat} {cs : List C} {us : List Value} {K : List (Den t) → Prop}, elemsOfK t n cs K → RCs X w E us cs → ∃ l c1 c2, us = c1 ++ c2 ∧ l.length = n ∧ Chunks (DC X w t) l c1 ∧ K l
  | 0, _, us, _, hk, _ => ⟨[], [], us, rfl, rfl, rfl, hk⟩
  | n + 1, _, _, _, hk, hu => by
    obtain ⟨x, r, c1, c2, e1, h1, h2, hk⟩ := unflatK_is hk hu
    obtain ⟨l, c3, c4, e2, hl, h3, hk⟩ := elemsOf_is (n := n) hk h2
    exact ⟨x :: l, c1 ++ c3, c4, by rw [e1, e2, List.append_assoc], by rw [List.length_cons, hl], ⟨c1, c3, rfl, h1, h3⟩, hk⟩
theorem view_is {c : C} {u : Value} {K : C → Prop} (h : RE X0 w0 as E st a w) (hu : RC (own X0 E st.mem) w E u c) (hk : viewK st.mem c K) : ∃ c', K c' ∧ RC (X0) w E u c' := by
  unfold viewK at hk
  split at hk
  · rename_i k
    obtain ⟨bx, hm, hk⟩ := findK_is hk
    have hr := h.mem k bx hm
    split at hk
    · rename_i e t l
      refine ⟨_, hk, ?_, fun e => nomatch e⟩
      rw [show u = E.rv k from hu.1]
      unfold RB at hr
      cases hl : E.live k with
      | false =>
        rw [hl] at hr
        obtain ⟨hr, rfl⟩ := hr
        obtain ⟨base, e⟩ := hr
        rw [e]; exact ⟨[], SX.empty, rfl⟩
      | true =>
        rw [hl] at hr
        obtain ⟨pre, cap, cur, e1, e2, e3, e4, e5, e6⟩ := hr
        refine ⟨_, .inl (.inr ⟨E.blk k, pre.length, cap, e1, ?_, (Array.getElem?_eq_some_iff.1 e2).1, e3, e4, Row.takeL (row_body e2)⟩), e6.mono fun _ _ h => DC.up (Off.refl _ _) (fun b _ hb => Or.inl hb) h⟩
        exact fun hx => (h.apart _ hx).2 k _ hm hl rfl
    · exact hk.elim
  · rename_i t l c
    exact ⟨_, hk, (hu.less fun b hb => Or.inl hb).1, fun e => nomatch e⟩
  · rename_i t
    refine ⟨_, hk, ?_, fun e => nomatch e⟩
    obtain ⟨base, e⟩ := (show Emp (own X0 E st.mem) w u from hu)
    rw [e]; exact ⟨[], SX.empty, rfl⟩
  · rename_i k off n cap t
    obtain ⟨bx, hm, hk⟩ := findK_is hk
    have hr := h.mem k bx hm
    split at hk
    · rename_i te cs
      obtain ⟨hl, vs, hB, hcs⟩ := hr
      obtain ⟨e, hnc⟩ := (show u = .slice (some ⟨E.blk k, off, none⟩) n cap ∧ n ≤ cap from hu)
      cases hcap : Nat.ble cap 4096 with
      | false => rw [hcap] at hk; exact hk.elim
      | true =>
        rw [hcap] at hk
        obtain ⟨l, c1, c2, e2, hlen, hch, hk⟩ := elemsOf_is hk ((hcs.less fun b hb => Or.inl hb : RCs X0 w E vs cs).drop off)
        have hrow : Row w (E.blk k) off c1 := by
          have := Row.dropL (n := off) (row_box hB)
          rw [Nat.zero_add, e2] at this
          exact this.left
        refine ⟨_, hk, ⟨c1, .inl <| .inr ⟨E.blk k, off, cap, by rw [hlen]; exact e, fun hx => (h.apart _ hx).2 k _ hm hl rfl, (Array.getElem?_eq_some_iff.1 hB).1, by rw [hlen]; exact hnc, Nat.le_trans (Nat.le_of_ble_eq_true hcap) (by decide), hrow⟩, hch⟩, fun e => nomatch e⟩
    · exact hk.elim
  · exact ⟨_, hk, hu.less fun b hb => Or.inl hb⟩
theorem viewL_is : ∀ {cs : List C} {us : List Value} {K : List C → Prop}, RE X0 w0 as E st a w → RCs (own X0 E st.mem) w E us cs → viewL st.mem cs K → ∃ cs', K cs' ∧ RCs (X0) w E us cs'
  | [], [], K, _, _, hk => ⟨[], hk, trivial⟩
  | c :: cs, u :: us, K, h, hu, hk => by
    unfold viewL at hk
    obtain ⟨c', hk, h1⟩ := view_is h hu.1 hk
    obtain ⟨cs', hk, h2⟩ := viewL_is h hu.2 hk
    exact ⟨_, hk, h1, h2⟩
  | [], _ :: _, _, _, hu, _ => hu.elim
  | _ :: _, [], _, _, hu, _ => hu.elim
theorem viewVs_is : ∀ {vs : List SV} {us : List Value} {K : List SV → Prop}, RE X0 w0 as E st a w → RVs (own X0 E st.mem) w E us vs → viewVs st.mem vs K → ∃ vs', K vs' ∧ RVs (X0) w E us vs'
  | [], [], K, _, _, hk => ⟨[], hk, trivial⟩
  | v :: vs, u :: us, K, h, hu, hk => by
    unfold viewVs viewV at hk
    cases v with
    | one c =>
      obtain ⟨c', hk, h1⟩ := view_is h hu.1 hk
      obtain ⟨vs', hk, h2⟩ := viewVs_is h hu.2 hk
      exact ⟨_, hk, h1, h2⟩
    | agg cs =>
      obtain ⟨us', e, hu1⟩ := hu.1
      obtain ⟨cs', hk, h1⟩ := viewL_is h hu1 hk
      obtain ⟨vs', hk, h2⟩ := viewVs_is h hu.2 hk
      exact ⟨_, hk, ⟨us', e, h1⟩, h2⟩
    | tup => exact hk.elim
  | [], _ :: _, _, _, hu, _ => hu.elim
  | _ :: _, [], _, _, hu, _ => hu.elim

theorem RPs.less {X X' : Nat → Prop} {us : List Value} {cs : List (Bool × List C)} (h : RPs X w E us cs) (hX : ∀ b, X' b → X b) : RPs X' w E us cs := h.up (Off.refl _ _) (fun b _ hx => hX b hx) fun _ _ => ⟨rfl, rfl⟩
theorem freezeT_is : ∀ {cs : List (Bool × List C)} {us : List Value} {st : St} {K : St → List (Bool × List C) → Prop}, RE X0 w0 as E st a w → RPs (own X0 E st.mem) w E us cs → freezeV.freezeT st cs K →
    ∃ st' cs', K st' cs' ∧ RE X0 w0 as E st' a w ∧ RPs (own X0 E st'.mem) w E us cs' ∧ (∀ b, own X0 E st'.mem b → own X0 E st.mem b)
  | [], [], st, K, h, _, hk => ⟨st, [], hk, h, trivial, fun _ hb => hb⟩
  | (b, cs) :: r, u :: us, st, K, h, hu, hk => by
    unfold freezeV.freezeT at hk
    have h1 := hu.1
    unfold RP at h1
    cases b with
    | true =>
      obtain ⟨vs, e, h1⟩ := h1
      obtain ⟨st1, cs', hk, p1, p2, p3, _, _⟩ := freezeL_is h h1 hk
      obtain ⟨st2, r', hk, g1, g2, g3⟩ := freezeT_is (cs := r) p1 (hu.2.less p3) hk
      exact ⟨st2, _, hk, g1, ⟨⟨vs, e, p2.less g3⟩, g2⟩, fun b hb => p3 b (g3 b hb)⟩
    | false =>
      obtain ⟨c, e, h1⟩ := h1
      simp only at e
      subst e
      obtain ⟨st1, cs', hk, p1, p2, p3, _, _⟩ := freezeL_is (us := [u]) (cs := [c]) h ⟨h1, trivial⟩ hk
      obtain ⟨st2, r', hk, g1, g2, g3⟩ := freezeT_is (cs := r) p1 (hu.2.less p3) hk
      cases cs' with
      | nil => exact p2.elim
      | cons c' cs' => cases cs' with
        | nil => exact ⟨st2, _, hk, g1, ⟨⟨c', rfl, p2.1.less g3⟩, g2⟩, fun b hb => p3 b (g3 b hb)⟩
        | cons => exact p2.2.elim
  | [], _ :: _, _, _, _, hu, _ => hu.elim
  | _ :: _, [], _, _, _, hu, _ => hu.elim
theorem freezeV_is {v : SV} {u : Value} {K : St → SV → Prop} (h : RE X0 w0 as E st a w) (hu : RV (own X0 E st.mem) w E u v) (hk : freezeV st v K) :
    ∃ st' v', K st' v' ∧ RE X0 w0 as E st' a w ∧ RV (own X0 E st'.mem) w E u v' ∧ (∀ b, own X0 E st'.mem b → own X0 E st.mem b) := by
  unfold freezeV at hk
  split at hk
  · obtain ⟨st1, c', hk, p1, p2, p3, _, _⟩ := freeze_is h hu hk
    exact ⟨st1, _, hk, p1, p2, p3⟩
  · obtain ⟨us, e, hu⟩ := hu
    obtain ⟨st1, cs', hk, p1, p2, p3, _, _⟩ := freezeL_is h hu hk
    exact ⟨st1, _, hk, p1, ⟨us, e, p2⟩, p3⟩
  · obtain ⟨us, e, hu⟩ := hu
    obtain ⟨st1, cs', hk, p1, p2, p3⟩ := freezeT_is h hu hk
    exact ⟨st1, _, hk, p1, ⟨us, e, p2⟩, p3⟩
theorem freezeVs_is : ∀ {vs : List SV} {us : List Value} {st : St} {K : St → List SV → Prop}, RE X0 w0 as E st a w → RVs (own X0 E st.mem) w E us vs → freezeVs st vs K →
    ∃ st' vs', K st' vs' ∧ RE X0 w0 as E st' a w ∧ RVs (own X0 E st'.mem) w E us vs' ∧ (∀ b, own X0 E st'.mem b → own X0 E st.mem b)
  | [], [], st, K, h, _, hk => ⟨st, [], hk, h, trivial, fun _ hb => hb⟩
  | v :: r, u :: us, st, K, h, hu, hk => by
    unfold freezeVs at hk
    obtain ⟨st1, v', hk, p1, p2, p3⟩ := freezeV_is h hu.1 hk
    obtain ⟨st2, r', hk, g1, g2, g3⟩ := freezeVs_is (vs := r) p1 (hu.2.less p3) hk
    exact ⟨st2, _, hk, g1, ⟨p2.less g3, g2⟩, fun b hb => p3 b (g3 b hb)⟩
  | [], _ :: _, _, _, _, hu, _ => hu.elim
  | _ :: _, [], _, _, _, hu, _ => hu.elim

theorem clean_is {c : C} {u : Value} (h : RC X w E u c) : RC X w E u c.clean := by
  cases c with
  | sl t l c => exact ⟨h.1, fun e => nomatch e⟩
  | emp t =>
    refine ⟨?_, fun e => nomatch e⟩
    obtain ⟨base, e⟩ := (show Emp X w u from h)
    rw [e]; exact ⟨[], SX.empty, rfl⟩
  | _ => exact h
theorem cleanL_is : ∀ {cs : List C} {us : List Value}, RCs X w E us cs → RCs X w E us (cleanL cs)
  | [], [], _ => trivial
  | _ :: _, _ :: _, h => ⟨clean_is h.1, cleanL_is h.2⟩
  | [], _ :: _, h => h.elim
  | _ :: _, [], h => h.elim
theorem cleanV_is {v : SV} {u : Value} (h : RV X w E u v) : RV X w E u v.clean := by
  cases v with
  | one c => exact clean_is h
  | agg cs => obtain ⟨us, e, h⟩ := h; exact ⟨us, e, cleanL_is h⟩
  | tup ps =>
    obtain ⟨us, e, h⟩ := h
    refine ⟨us, e, ?_⟩
    clear e
    induction ps generalizing us with
    | nil => cases us with
      | nil => trivial
      | cons => exact h.elim
    | cons p ps ih => cases us with
      | nil => exact h.elim
      | cons u us =>
        refine ⟨?_, ih us h.2⟩
        have h1 := h.1
        unfold RP at h1 ⊢
        obtain ⟨b, cs⟩ := p
        cases b with
        | true => obtain ⟨vs, e, h1⟩ := h1; exact ⟨vs, e, cleanL_is h1⟩
        | false =>
          obtain ⟨c, e, h1⟩ := h1
          simp only at e
          subst e
          exact ⟨_, rfl, clean_is h1⟩

theorem viewE1_is {c : C} {u : Value} {K : C → Prop} (hu : RC X w E u c) (hk : viewK [] c K) : ∃ c', K c' ∧ RC X w E u c' := by
  unfold viewK at hk
  split at hk
  · exact hk.elim
  · exact ⟨_, hk, hu.1, fun e => nomatch e⟩
  · rename_i t
    exact ⟨_, hk, clean_is (c := .emp t) hu⟩
  · exact hk.elim
  · exact ⟨_, hk, hu⟩
theorem viewEL_is : ∀ {cs : List C} {us : List Value} {K : List C → Prop}, RCs X w E us cs → viewL [] cs K → ∃ cs', K cs' ∧ RCs X w E us cs'
  | [], [], K, _, hk => ⟨[], hk, trivial⟩
  | c :: cs, u :: us, K, hu, hk => by
    unfold viewL at hk
    obtain ⟨c', hk, h1⟩ := viewE1_is hu.1 hk
    obtain ⟨cs', hk, h2⟩ := viewEL_is hu.2 hk
    exact ⟨_, hk, h1, h2⟩
  | [], _ :: _, _, hu, _ => hu.elim
  | _ :: _, [], _, hu, _ => hu.elim
theorem viewE_is : ∀ {vs : List SV} {us : List Value} {K : List SV → Prop}, RVs X w E us vs → viewVs [] vs K → ∃ vs', K vs' ∧ RVs X w E us vs'
  | [], [], K, _, hk => ⟨[], hk, trivial⟩
  | v :: vs, u :: us, K, hu, hk => by
    unfold viewVs viewV at hk
    cases v with
    | one c =>
      obtain ⟨c', hk, h1⟩ := viewE1_is hu.1 hk
      obtain ⟨vs', hk, h2⟩ := viewE_is hu.2 hk
      exact ⟨_, hk, h1, h2⟩
    | agg cs =>
      obtain ⟨us', e, hu1⟩ := hu.1
      obtain ⟨cs', hk, h1⟩ := viewEL_is hu1 hk
      obtain ⟨vs', hk, h2⟩ := viewE_is hu.2 hk
      exact ⟨_, hk, ⟨us', e, h1⟩, h2⟩
    | tup => exact hk.elim
  | [], _ :: _, _, hu, _ => hu.elim
  | _ :: _, [], _, hu, _ => hu.elim
theorem RFm.fns {X X' : Nat → Prop} {w w' : World} {E E' : Env} : ∀ {es : List MapEntry} {m : List (Int × SV)}, fnsOnly m = true → RFm X w E es m → RFm X' w' E' es m
  | [], [], _, _ => trivial
  | _ :: _, (_, .one (.fn _ [])) :: _, h, ⟨h1, h2, h3⟩ => ⟨h1, h2, RFm.fns (show fnsOnly _ = true from h) h3⟩
  | [], _ :: _, _, h => h.elim
  | _ :: _, [], _, h => h.elim
/-- A call by what is known of the function is right. -/
theorem spec_ok {N : Nat → Prop} : CallOkF P (specCall P) as N := by
  intro f vs st K X0 w0 E a w us hNw hk h hus
  have low : ∀ {w'}, Below w.heap.size w w' → BelowS N w w' := fun hB => ⟨hB.os, hB.tape, hB.output, hB.size, fun k hk => hB.block k (hNw k hk)⟩
  rcases hk with hk | hk | hk
  · unfold specS at hk
    obtain ⟨ds, hk, hds⟩ := viewVs_is h hus hk
    cases hd : svsData ds with
    | false => rw [hd] at hk; exact hk.elim
    | true =>
      rw [hd] at hk
      obtain ⟨res, ⟨hg, hsp⟩, hk⟩ := hk
      cases hrd : res.data with
      | false => rw [hrd] at hk; exact hk.elim
      | true =>
        rw [hrd] at hk
        refine ⟨hg, ?_⟩
        cases hsc : res.scalar with
        | false => rw [hsc] at hk; exact hk.elim
        | true =>
          rw [hsc] at hk
          have hlow : ∀ b, X0 b → b < w.heap.size := fun b hx => (h.apart b hx).1
          refine (hsp X0 w us hlow (datas_env hd hds)).mono fun e w' hr => ?_
          obtain ⟨u, rfl, hu, hB⟩ := hr
          exact ⟨u, st, res, E, rfl, hk, h.grow hB, scalar_any hsc hu, low hB⟩
  · unfold specD at hk
    obtain ⟨st1, vs', hk, h1, hvs, hsub⟩ := freezeVs_is h hus hk
    obtain ⟨ds, hk, hds⟩ := viewE_is hvs hk
    cases hd : svsData ds with
    | false => rw [hd] at hk; exact hk.elim
    | true =>
      rw [hd] at hk
      obtain ⟨res, ⟨hg, hsp⟩, hk⟩ := hk
      cases hrd : res.data with
      | false => rw [hrd] at hk; exact hk.elim
      | true =>
        rw [hrd] at hk
        refine ⟨hg, ?_⟩
        have hlow : ∀ b, own X0 E st1.mem b → b < w.heap.size := by
          rintro b (hx | ⟨k, bx, hm, hl, he⟩)
          · exact (h1.apart b hx).1
          · rw [← he]; exact (h1.place k bx hm hl).2
        refine (hsp (own X0 E st1.mem) w us hlow (datas_env hd hds)).mono fun e w' hr => ?_
        obtain ⟨u, rfl, hu, hB⟩ := hr
        exact ⟨u, st1, res, E, rfl, hk, h1.grow hB, data_env hrd hu, low hB⟩
  · unfold specM at hk
    obtain ⟨ds, hk, hds⟩ := viewVs_is h hus hk
    cases hd : svsData ds with
    | false => rw [hd] at hk; exact hk.elim
    | true =>
      rw [hd] at hk
      obtain ⟨k, m, ⟨hg, hsp⟩, hk⟩ := hk
      cases hf : fnsOnly m with
      | false => rw [hf] at hk; exact hk.elim
      | true =>
        rw [hf] at hk
        refine ⟨hg, (hsp X0 w us (fun b hx => (h.apart b hx).1) (datas_env hd hds)).mono fun e w' hr => ?_⟩
        obtain ⟨g, es, clock, rfl, g1, g2, g3, g4, hB⟩ := hr
        have hk : st.new k none (.fmap m) fun st => K st (.one (.map k)) := hk
        obtain ⟨E', st', q1, q2, q3, _⟩ := RE.new (X1 := X0) (g := g) (v := undef) (l := true) h hk (h.belowUp hB) hB.size (fun b hb _ => hB.block b hb) (fun _ => ⟨.inr g1, Nat.le_trans h.below.size g1, g2⟩)
          (fun b hb => ⟨hb, fun _ e => by have := (h.apart b hb).1; omega⟩) (fun X' E'' hx hoff hag e1 e2 e3 _ _ => ⟨e3, es, clock, by rw [e1]; exact g3, RFm.fns hf g4⟩)
        exact ⟨_, st', .one (.map k), E', rfl, q1, q2, by show _ = _; rw [q3], low hB⟩

/-! ### Code -/
theorem least {p : Nat → Prop} (h : ∃ n, p n) : ∃ n, p n ∧ ∀ m, p m → n ≤ m := by
  obtain ⟨n, hn⟩ := h
  induction n using Nat.strongRecOn with
  | _ n ih =>
    by_cases c : ∃ m, m < n ∧ p m
    · obtain ⟨m, hm, hp⟩ := c
      exact ih m hm hp
    · refine ⟨n, hn, fun m hm => ?_⟩
      rcases Nat.lt_or_ge m n with d | d
      · exact absurd ⟨m, d, hm⟩ c
      · exact d
/-- And below N nothing is changed since ws. -/
def R2 (X0 : Nat → Prop) (w0 : World) (as : Cx) (N : Nat → Prop) (ws : World) (st : St) (a : Act) (w : World) : Prop := R X0 w0 as st a w ∧ BelowS N ws w
theorem code_is {hd : Bool} {call : List Nat → Nat → List SV → St → (St → SV → Prop) → Prop} {F : List Nat} {N : Nat → Prop} {ws : World} {b : Nat} (hT : T.ok P) (hC : CallOk P call) (hfr : ∀ ks, (∀ k ∈ ks, k ∉ F) → as.free ks) (hN : ∀ k b, k ∉ F → as.pr k b → ¬ N b) (hNs : ∀ b, N b → b < ws.heap.size) :
    ∀ (c : Code) (Q : Exit → St → Prop) (st : St) (a : Act) (w : World), R2 X0 w0 as N ws st a w → vCode P T hd call F b c Q st → c.wp P (fun e a w => ∃ st', Q e st' ∧ R2 X0 w0 as N ws st' a w) a w
  | .skip, Q, st, a, w, h, hk => wp_skip ⟨st, hk, h⟩
  | .label _, Q, st, a, w, h, hk => wp_label ⟨st, hk, h⟩
  | .exit i, Q, st, a, w, h, hk => wp_exit ⟨st, hk, h⟩
  | .ret, Q, st, a, w, h, hk => wp_ret ⟨st, hk, h⟩
  | .seq x y, Q, st, a, w, h, hk => by
    refine wp_seq (wp_mono (code_is hT hC hfr hN hNs x _ st a w h hk) fun e a w hq => ?_)
    obtain ⟨st', hq, h'⟩ := hq
    cases e with
    | normal => exact code_is hT hC hfr hN hNs y Q st' a w h' hq
    | _ => exact ⟨st', hq, h'⟩
  | .cond c x y, Q, st, a, w, ⟨⟨E, h⟩, hB⟩, hk => by
    unfold vCode at hk
    split at hk
    · rename_i i
      obtain ⟨v, hv, hk⟩ := getK_is hk
      split at hk
      · rename_i cb
        obtain ⟨u, hu, hr⟩ := h.tmps.at hv
        have hu2 : u = .bool cb := hr
        subst hu2
        have he : a.eval (.tmp i) = .bool cb := by
          simp only [Act.eval, Array.getD_eq_getD_getElem?]
          rw [← Array.getElem?_toList, hu]; rfl
        split at hk
        · obtain ⟨st', hk, h', _⟩ := h.reread hu (v := .one (.bool true)) rfl hk
          exact wp_cond_true he (code_is hT hC hfr hN hNs x Q st' a w ⟨⟨E, h'⟩, hB⟩ hk)
        · obtain ⟨st', hk, h', _⟩ := h.reread hu (v := .one (.bool false)) rfl hk
          exact wp_cond_false he (code_is hT hC hfr hN hNs y Q st' a w ⟨⟨E, h'⟩, hB⟩ hk)
      · exact hk.elim
    · exact hk.elim
  | .block i x, Q, st, a, w, h, hk => by
    refine wp_block (wp_mono (code_is hT hC hfr hN hNs x _ st a w h hk) fun e a w hq => ?_)
    obtain ⟨st', hq, h'⟩ := hq
    cases e with
    | exit j =>
      simp only at hq
      unfold Exit.inBlock
      simp only
      cases hj : Nat.beq j i with
      | true =>
        rw [hj] at hq
        rw [if_pos (Nat.eq_of_beq_eq_true hj)]
        exact ⟨st', hq, h'⟩
      | false =>
        rw [hj] at hq
        rw [if_neg (beq_false hj)]
        exact ⟨st', hq, h'⟩
    | _ => exact ⟨st', hq, h'⟩
  | .scope x, Q, st, a, w, h, hk => by
    refine wp_scope_straight (wp_mono (code_is hT hC hfr hN hNs x _ st a w h hk) fun e a w hq => ?_)
    obtain ⟨st', hq, h'⟩ := hq
    cases e with
    | goto l => exact hq
    | _ => exact ⟨st', hq, h'⟩
  | .loop x, Q, st, a, w, ⟨⟨E, h⟩, hB⟩, hk => by
    unfold vCode at hk
    obtain ⟨rows, L, B, n, hk⟩ := hk
    obtain ⟨E1, st1, hk, h1⟩ := rows_is h hk
    obtain ⟨st2, hk, h2⟩ := h1.keep hk
    have hk := VHold.out hk
    generalize hrec : (vLoop fun ih st => vCode P T hd call F b x (fun e st => match e with
      | .normal => rowsK rows st fun st => St.keep L B st ih
      | e => Q e st) st) = rec at *
    have hz : ∀ st, ¬ rec 0 st := fun st hs => by rw [← hrec] at hs; exact vLoop_zero hs
    have hs : ∀ n st, rec (n + 1) st → vCode P T hd call F b x (fun e st => match e with
      | .normal => rowsK rows st fun st => St.keep L B st (rec n)
      | e => Q e st) st := fun n st hs => by rw [← hrec] at hs ⊢; rw [vLoop_succ] at hs; exact hs
    clear hrec
    let I : Act → World → Prop := fun a w => ∃ n st, rec n st ∧ R2 X0 w0 as N ws st a w
    open Classical in
    let μ : Act → World → Nat := fun a w => if hI : ∃ n, ∃ st, rec n st ∧ R2 X0 w0 as N ws st a w then Classical.choose (least hI) else 0
    refine wp_loop I μ ⟨n, st2, hk, ⟨E1, h2⟩, hB⟩ fun a w hI => ?_
    have hfind : ∃ n, ∃ st, rec n st ∧ R2 X0 w0 as N ws st a w := hI
    have hμ : μ a w = Classical.choose (least hfind) := dif_pos hfind
    obtain ⟨st3, hr, h3⟩ := (Classical.choose_spec (least hfind)).1
    rw [hμ]
    cases hn : Classical.choose (least hfind) with
    | zero => rw [hn] at hr; exact absurd hr (hz st3)
    | succ m =>
      rw [hn] at hr
      refine wp_mono (code_is hT hC hfr hN hNs x _ st3 a w h3 (hs m st3 hr)) fun e a' w' hq => ?_
      obtain ⟨st', hq, h'⟩ := hq
      cases e with
      | normal =>
        obtain ⟨⟨E', h'⟩, hB'⟩ := h'
        obtain ⟨E4, st4, hq, h4⟩ := rows_is h' hq
        obtain ⟨st5, hq, h5⟩ := h4.keep hq
        have hI' : ∃ n, ∃ st, rec n st ∧ R2 X0 w0 as N ws st a' w' := ⟨m, st5, hq, ⟨E4, h5⟩, hB'⟩
        have hμ' : μ a' w' = Classical.choose (least hI') := dif_pos hI'
        refine ⟨hI', ?_⟩
        rw [hμ']
        have := (Classical.choose_spec (least hI')).2 m ⟨st5, hq, ⟨E4, h5⟩, hB'⟩
        omega
      | _ => exact ⟨st', hq, h'⟩
  | .region id ops draw, Q, st, a, w, ⟨⟨E, h⟩, hB0⟩, hk => by
    unfold vCode at hk
    split at hk
    · refine wp_region_list ?_
      have := ops_is (Q := fun e a w => ∃ st', Q e st' ∧ R2 X0 w0 as N ws st' a w) hT hC hfr hN hNs ops.toList h hB0 hk fun st' a' w' E' q1 q2 q3 => ⟨st', q1, ⟨E', q2⟩, q3⟩
      simpa using this
    · obtain ⟨p, G, hfit, st', hk, hQ⟩ := hk
      obtain ⟨t, m0, s⟩ := st
      simp only at hk
      have hk := keepM_is hk
      unfold planFits at hfit
      simp only [Bool.and_eq_true] at hfit
      obtain ⟨⟨hs, hok⟩, hlen⟩ := hfit
      have hlen := Nat.eq_of_beq_eq_true hlen
      generalize hmf : m0.filter (fun p => G.any (Nat.beq p.1)) = memf at hk
      have hsub : memf.Sublist m0 := by rw [← hmf]; exact List.filter_sublist
      have hB : Below w.heap.size w w.drew := ⟨rfl, rfl, rfl, Nat.le_refl _, fun _ _ => rfl⟩
      have hd := h.grow hB
      have hprot : RE X0 w0 (prOf as X0 E m0 memf w.drew) E ⟨t, m0, s⟩ a w.drew := hd.cx rfl (fun k bx hm hl => ⟨hd.prot k bx hm hl, fun j bj hj hlj he => (hd.inj j bj k bx (hsub.subset hj) hm hlj hl he).symm, fun _ => .inr ⟨k, bx, hm, hl, rfl⟩⟩)
        (fun k b hb => ⟨hd.prN k b hb, fun j bj hj hlj he => by have := (hd.place j bj (hsub.subset hj) hlj).2; omega, fun hlt => by omega⟩)
      have hf : RE (mayOf X0 E m0 memf) w0 ⟨as.as, fun _ _ => True⟩ E ⟨t, memf, s⟩ a w.drew := (hd.fewer (X1 := mayOf X0 E m0 memf) hd.tmps hsub fun b hb => hb).cx rfl (fun _ _ _ _ => trivial) fun _ _ _ => trivial
      have hany := plan_is (late := p.lates) (K := fun st => st = st') (R' := fun a w => R2 X0 w0 as N ws st' a w) hT hC hfr hN hNs (by simpa using hs) p false (Array.replicate ops.size false) ⟨t, memf, s⟩ ⟨t, m0, s⟩ a w.drew E (by simpa using hok) (.inl ⟨rfl, rfl, fun _ _ _ => rfl⟩) hf hprot (Nat.le_refl _) (hB0.trans ⟨hB.os, hB.tape, hB.output, hB.size, fun _ _ => rfl⟩) hk
        fun st2 a' w' E' e q qB => by
          subst e
          exact ⟨⟨E', q⟩, qB⟩
      refine wp_mono (Q := fun e a w => e = .normal ∧ R2 X0 w0 as N ws st' a w) ?_ fun e a w hq => ?_
      · refine wp_region_any hT.mixed (wpAny_of_G (S := Stands (mayOf X0 E m0 memf) w.drew) (H := fun j => !p.lates.any (Nat.beq j)) _ _ _ _ ?_)
        rw [hlen] at hany
        simpa using hany
      · obtain ⟨rfl, hq⟩ := hq
        exact ⟨st', hQ, hq⟩
  | .rangeFunc .., _, _, _, _, _, hk => hk.elim
  | .goto _, _, _, _, _, _, hk => hk.elim
  | .refuse _, _, _, _, _, _, hk => hk.elim

/-! ### Calls that go through the code -/
theorem undefsK_is : ∀ {n : Nat} {K : List SV → Prop}, undefsK n K → ∃ ts, K ts ∧ ts.length = n ∧ ∀ us : List Value, us.length = n → ∀ X w E, RVs X w E us ts
  | 0, K, hk => ⟨[], hk, rfl, fun us hu _ _ _ => by cases us with
    | nil => trivial
    | cons => cases hu⟩
  | n + 1, K, hk => by
    obtain ⟨ts, h1, h2, h3⟩ := undefsK_is (n := n) hk
    refine ⟨_, h1, by simp [h2], fun us hu X w E => ?_⟩
    cases us with
    | nil => cases hu
    | cons u us => exact ⟨trivial, h3 us (by simpa using hu) X w E⟩
theorem padK_is : ∀ {vs : List SV} {n : Nat} {K : List SV → Prop} {us : List Value}, padK vs n K → RVs X w E us vs → ∃ ts, K ts ∧ RVs X w E (us ++ List.replicate (n - us.length) undef) ts
  | [], n, K, us, hk, h => by
    obtain ⟨ts, h1, h2, h3⟩ := undefsK_is hk
    cases us with
    | nil => exact ⟨ts, h1, by rw [List.nil_append]; exact h3 _ (by simp) _ _ _⟩
    | cons => exact h.elim
  | v :: vs, n, K, us, hk, h => by
    cases us with
    | nil => exact h.elim
    | cons u us =>
      obtain ⟨ts, h1, h2⟩ := padK_is (vs := vs) (n := n - 1) hk h.2
      refine ⟨_, h1, h.1, ?_⟩
      rw [List.length_cons, Nat.sub_add_eq, Nat.sub_right_comm]
      exact h2
theorem init_tmps {us : List Value} {n : Nat} : (us.toArray ++ Array.replicate (n - us.toArray.size) undef).toList = us ++ List.replicate (n - us.length) undef := by simp

/-- The results of a function. -/
def resVals (P : Program) (w : World) (a : Act) : List ResultVar → List Value → Prop
  | [], [] => True
  | .tmp t :: r, v :: vs => a.tmps.getD t undef = v ∧ resVals P w a r vs
  | .cell x t :: r, v :: vs => (∃ ad, a.tmps.getD x undef = .pointer (some ad) ∧ (loadVar t ad).run P w = .ok v w) ∧ resVals P w a r vs
  | _, _ => False
theorem res_is (hT : T.ok P) : ∀ {rs : List ResultVar} {K : List SV → Prop}, RE X0 w0 as E st a w → resK T st rs K → ∃ vs us, K vs ∧ RVs (own X0 E st.mem) w E us vs ∧ resVals P w a rs us
  | [], K, h, hk => ⟨[], [], hk, trivial, trivial⟩
  | .tmp t :: r, K, h, hk => by
    unfold resK at hk
    obtain ⟨v, hv, hk⟩ := getK_is hk
    obtain ⟨u, hu, hr⟩ := h.tmps.at hv
    obtain ⟨vs, us, h1, h2, h3⟩ := res_is hT h hk
    refine ⟨_, u :: us, h1, ⟨hr, h2⟩, ?_, h3⟩
    simp only [Array.getD_eq_getD_getElem?]
    rw [← Array.getElem?_toList, hu]; rfl
  | .cell x t :: r, K, h, hk => by
    unfold resK at hk
    obtain ⟨v, hv, hk⟩ := getK_is hk
    obtain ⟨u, hu, hr⟩ := h.tmps.at hv
    have hx : a.eval (.tmp x) = u := by
      simp only [Act.eval, Array.getD_eq_getD_getElem?]
      rw [← Array.getElem?_toList, hu]; rfl
    obtain ⟨v', u', hk, hv', hy⟩ := loadAt_is (o := ⟨none, .load t (.tmp x), 0, "", #[], none⟩) (t := t) (x := .tmp x) hT rfl h (by rw [hx]; exact hr) hk
    obtain ⟨vs, us, h1, h2, h3⟩ := res_is hT h hk
    refine ⟨_, u' :: us, h1, ⟨hv', h2⟩, ?_, h3⟩
    have hy := hy w fun _ _ _ => rfl
    unfold Yields execOp at hy
    simp only [Instr.loadAt, Sem.run_bind, hx] at hy
    cases u with
    | pointer ad =>
      cases ad with
      | none => simp [Instr.sureAddr] at hy
      | some ad =>
        refine ⟨ad, hx, ?_⟩
        simp only [Instr.sureAddr, Sem.run_pure, Result.andThen_ok] at hy
        cases hl : (loadVar t ad).run P w with
        | halt => rw [hl] at hy; cases hy
        | ok v2 w2 =>
          rw [hl] at hy
          simp only [Result.andThen_ok] at hy
          injection hy with e1 e2
          injection e1 with e1
          rw [e1, e2]
    | _ => simp [Instr.sureAddr] at hy

theorem res_run : ∀ {rs : List ResultVar} {us : List Value}, resVals P w a rs us → (rs.mapM fun
    | .tmp t => pure (a.tmps.getD t undef)
    | .cell x t => do loadVar t (← asAddr (a.tmps.getD x undef)) : Sem (List Value)).run P w = .ok us w
  | [], [], _ => by simp [List.mapM_nil]
  | .tmp t :: r, u :: us, h => by
    rw [List.mapM_cons]
    have h2 := res_run h.2
    simp only [Sem.run_bind, Sem.run_pure, Result.andThen_ok, h2, h.1]
  | .cell x t :: r, u :: us, h => by
    rw [List.mapM_cons]
    have h2 := res_run h.2
    obtain ⟨⟨ad, h3, h4⟩, _⟩ := h
    have h5 : (asAddr (a.tmps.getD x undef)).run P w = .ok ad w := by rw [h3]; rfl
    simp only [Sem.run_bind, Sem.run_pure, Result.andThen_ok, h2, h5, h4]
  | [], _ :: _, h => h.elim
  | .tmp _ :: _, [], h => h.elim
  | .cell _ _ :: _, [], h => h.elim
theorem tupK_is : ∀ {vs : List SV} {us : List Value} {K : List (Bool × List C) → Prop}, tupK vs K → RVs X w E us vs → ∃ ps, K ps ∧ RPs X w E us ps
  | [], [], K, hk, _ => ⟨[], hk, trivial⟩
  | .one c :: r, u :: us, K, hk, h => by
    obtain ⟨ps, h1, h2⟩ := tupK_is (vs := r) hk h.2
    exact ⟨_, h1, ⟨c, rfl, h.1⟩, h2⟩
  | .agg cs :: r, u :: us, K, hk, h => by
    obtain ⟨ps, h1, h2⟩ := tupK_is (vs := r) hk h.2
    exact ⟨_, h1, h.1, h2⟩
  | .tup _ :: _, _ :: _, _, hk, _ => hk.elim
  | [], _ :: _, _, _, h => h.elim
  | _ :: _, [], _, _, h => h.elim
theorem oneRes_is {vs : List SV} {us : List Value} {K : SV → Prop} (hk : oneResK vs K) (h : RVs X w E us vs) : ∃ v, K v ∧ RV X w E (if h : us.toArray.size = 1 then us.toArray[0] else .tuple us.toArray) v := by
  unfold oneResK at hk
  split at hk
  · rename_i v
    cases us with
    | nil => exact h.elim
    | cons u us => cases us with
      | nil => exact ⟨v, hk, h.1⟩
      | cons => exact h.2.elim
  · rename_i hne
    obtain ⟨ps, h1, h2⟩ := tupK_is hk h
    refine ⟨_, h1, us, ?_, h2⟩
    rw [dif_neg]
    intro hs
    cases us with
    | nil => cases hs
    | cons u us => cases us with
      | nil => cases vs with
        | nil => exact h.elim
        | cons v vs => cases vs with
          | nil => exact hne v rfl
          | cons => exact h.2.elim
      | cons => simp at hs
theorem results_is {fn : Func} {K : SV → Prop} (hT : T.ok P) (h : RE X0 w0 as E st a w) (hk : resK T st fn.results.toList fun rs => oneResK rs K) : ∃ v u, K v ∧ RV (own X0 E st.mem) w E u v ∧ (results fn a.tmps).run P w = .ok u w := by
  obtain ⟨vs, us, hk, h1, h2⟩ := res_is hT h hk
  obtain ⟨v, hk, hv⟩ := oneRes_is hk h1
  refine ⟨v, _, hk, hv, ?_⟩
  unfold results
  rw [Array.mapM_eq_mapM_toList]
  simp only [map_eq_pure_bind]
  rw [Sem.run_bind, Sem.run_bind]
  erw [res_run h2]
  simp

/-- A call is right. -/
theorem call_ok {hd : Bool} (hT : T.ok P) : ∀ n, CallOk P (vCall P T hd n)
  | 0 => fun F as N hfr hN f vs st K X0 w0 E a w us hNw hk h hus => spec_ok f vs st K X0 w0 E a w us hNw hk h hus
  | n + 1 => fun F as N hfr hN f vs st K X0 w0 E a w us hNw hk h hus => by
    rcases hk with hk | ⟨fn, c, b, hfn, ⟨hg, hb⟩, hk⟩
    · exact spec_ok f vs st K X0 w0 E a w us hNw hk h hus
    · refine ⟨hg, calls_of_wp hfn hb ?_⟩
      obtain ⟨t, m, s⟩ := st
      simp only at hk
      obtain ⟨ts, hk, hts⟩ := padK_is hk hus
      have h2 : RE X0 w0 ⟨a.tmps :: as.as, as.pr⟩ E ⟨ts, m, t :: s⟩ { tmps := us.toArray ++ Array.replicate (fn.ntmps - us.toArray.size) undef, defers := [] } w :=
        ⟨h.apart, h.below, rfl, by rw [init_tmps]; exact hts, h.mem, h.place, h.keys, h.inj, ⟨h.tmps, h.stk⟩, h.prot, h.prN⟩
      refine wp_mono (code_is (as := ⟨a.tmps :: as.as, as.pr⟩) (N := N) (ws := w) hT (call_ok hT n) hfr hN hNw c _ _ _ w ⟨⟨E, h2⟩, BelowS.refl _ _⟩ hk) fun e a' w' hq => ?_
      obtain ⟨st', hq, ⟨E', h'⟩, hBN⟩ := hq
      have he : isEnd e = true := by
        cases hie : isEnd e with
        | true => rfl
        | false => simp only [hie] at hq; exact hq.elim
      simp only [he, cond_true] at hq
      have he := isEnd_is he
      obtain ⟨v, u, hq, hv, hrun⟩ := results_is hT h' hq
      have key : a'.defers = [] ∧ ∃ v, (results fn a'.tmps).run P w' = .ok v w' ∧ ∃ u st' v' E', Ending.returned v = .returned u ∧ K st' v' ∧ RE X0 w0 as E' st' a w' ∧ RV (own X0 E' st'.mem) w' E' u v' ∧ BelowS N w w' := by
        refine ⟨h'.defers, u, hrun, ?_⟩
        obtain ⟨t1, m1, s1⟩ := st'
        cases s1 with
        | nil => exact hq.elim
        | cons t2 s2 =>
          exact ⟨u, ⟨t2, m1, s2⟩, v, E', rfl, hq, ⟨h'.apart, h'.below, h.defers, h'.stk.1, h'.mem, h'.place, h'.keys, h'.inj, h'.stk.2, h'.prot, h'.prN⟩, hv, hBN⟩
      rcases he with rfl | rfl
      · exact key
      · exact key
/-- What a function computes, out of its code. -/
theorem spec_introH (hd : Bool) (hT : T.ok P) {f : Nat} {fn : Func} {c : Code} {args : List SV} {res : SV} (n : Nat) (hfn : P.funcs[f]? = some fn) (hb : fn.body = some c) (hg : goFunc P f = true) (hr : res.data = true)
    (hk : padK args fn.ntmps fun ts => vCode P T hd (vCall P T hd n) [] 0 c (endsK T fn res) ⟨ts, [], []⟩) : Spec P f args res := by
  refine ⟨hg, fun X w us hX hus => calls_of_wp hfn hb ?_⟩
  obtain ⟨ts, hk, hts⟩ := padK_is hk hus
  have hown : ∀ b, own X env0 [] b → X b := by
    rintro b (hx | ⟨k, bx, hm, _⟩)
    · exact hx
    · cases hm
  have h2 : RE X w ⟨[], fun _ _ => True⟩ env0 ⟨ts, [], []⟩ { tmps := us.toArray ++ Array.replicate (fn.ntmps - us.toArray.size) undef, defers := [] } w :=
    ⟨fun b hb => ⟨hX b hb, fun k bx hm => (by cases hm)⟩, Below.refl _ _, rfl, by rw [init_tmps]; exact hts.less hown, fun k bx hm => (by cases hm), fun k bx hm => (by cases hm), List.Pairwise.nil, fun k bx _ _ hm => (by cases hm), trivial, fun _ _ _ _ => trivial, fun _ _ _ => trivial⟩
  refine wp_mono (code_is (N := fun _ => False) (ws := w) hT (call_ok hT n) (fun _ _ _ _ _ _ _ => trivial) (fun _ _ _ _ h => h) (fun _ h => h.elim) c _ _ _ w ⟨⟨env0, h2⟩, BelowS.refl _ _⟩ hk) fun e a' w' hq => ?_
  obtain ⟨st', hq, ⟨E', h'⟩, _⟩ := hq
  unfold endsK at hq
  have he : isEnd e = true := by
    cases hie : isEnd e with
    | true => rfl
    | false => simp only [hie] at hq; exact hq.elim
  simp only [he, cond_true] at hq
  have he := isEnd_is he
  obtain ⟨v, u, hq, hv, hrun⟩ := results_is hT h' hq
  obtain ⟨st2, v', hq, h3, hv', _⟩ := freezeV_is h' hv hq
  have hfin : RV X w' E' u res := by
    have hX' : ∀ b, X b → own X E' st2.mem b := fun b hb => .inl hb
    rcases hq with rfl | rfl
    · exact hv'.less hX'
    · exact cleanV_is (hv'.less hX')
  have key : a'.defers = [] ∧ ∃ v, (results fn a'.tmps).run P w' = .ok v w' ∧ ∃ u, Ending.returned v = .returned u ∧ RV X w' env0 u res ∧ Below w.heap.size w w' :=
    ⟨h'.defers, u, hrun, u, rfl, data_env hr hfin, h'.below⟩
  rcases he with rfl | rfl
  · exact key
  · exact key
/-- The end of a function that returns a map. -/
def endsM (T : Tab) (fn : Func) (m : List (Int × SV)) (e : Exit) (st : St) : Prop :=
  bif isEnd e then (resK T st fn.results.toList fun rs => oneResK rs fun v => match v with
    | .one (.map k) => findK st.mem k fun b => match b with
      | .fmap m' => m' = m
      | _ => False
    | _ => False) else False
theorem specM_introH (hd : Bool) (hT : T.ok P) {f : Nat} {fn : Func} {c : Code} {args : List SV} {m : List (Int × SV)} (n : Nat) (hfn : P.funcs[f]? = some fn) (hb : fn.body = some c) (hg : goFunc P f = true) (hr : fnsOnly m = true)
    (hk : padK args fn.ntmps fun ts => vCode P T hd (vCall P T hd n) [] 0 c (endsM T fn m) ⟨ts, [], []⟩) : SpecM P f args m := by
  refine ⟨hg, fun X w us hX hus => calls_of_wp hfn hb ?_⟩
  obtain ⟨ts, hk, hts⟩ := padK_is hk hus
  have hown : ∀ b, own X env0 [] b → X b := by
    rintro b (hx | ⟨k, bx, hm, _⟩)
    · exact hx
    · cases hm
  have h2 : RE X w ⟨[], fun _ _ => True⟩ env0 ⟨ts, [], []⟩ { tmps := us.toArray ++ Array.replicate (fn.ntmps - us.toArray.size) undef, defers := [] } w :=
    ⟨fun b hb => ⟨hX b hb, fun k bx hm => (by cases hm)⟩, Below.refl _ _, rfl, by rw [init_tmps]; exact hts.less hown, fun k bx hm => (by cases hm), fun k bx hm => (by cases hm), List.Pairwise.nil, fun k bx _ _ hm => (by cases hm), trivial, fun _ _ _ _ => trivial, fun _ _ _ => trivial⟩
  refine wp_mono (code_is (N := fun _ => False) (ws := w) hT (call_ok hT n) (fun _ _ _ _ _ _ _ => trivial) (fun _ _ _ _ h => h) (fun _ h => h.elim) c _ _ _ w ⟨⟨env0, h2⟩, BelowS.refl _ _⟩ hk) fun e a' w' hq => ?_
  obtain ⟨st', hq, ⟨E', h'⟩, _⟩ := hq
  unfold endsM at hq
  have he : isEnd e = true := by
    cases hie : isEnd e with
    | true => rfl
    | false => simp only [hie] at hq; exact hq.elim
  simp only [he, cond_true] at hq
  have he := isEnd_is he
  obtain ⟨v, u, hq, hv, hrun⟩ := results_is hT h' hq
  split at hq
  · rename_i k
    obtain ⟨bx, hm, hq⟩ := findK_is hq
    split at hq
    · rename_i m'
      subst hq
      obtain ⟨hl, es, clock, g3, g4⟩ := h'.mem k _ hm
      have hp := h'.place k _ hm hl
      have hu : u = .map (some (E'.blk k)) := hv
      have key : a'.defers = [] ∧ ∃ v, (results fn a'.tmps).run P w' = .ok v w' ∧ ∃ g es clock, Ending.returned v = .returned (.map (some g)) ∧ w.heap.size ≤ g ∧ g < w'.heap.size ∧ w'.heap[g]? = some (.map es clock) ∧ RFm X w' env0 es.toList m' ∧ Below w.heap.size w w' :=
        ⟨h'.defers, u, hrun, E'.blk k, es, clock, by rw [hu], hp.1, hp.2, g3, RFm.fns hr g4, h'.below⟩
      rcases he with rfl | rfl
      · exact key
      · exact key
    · exact hq.elim
  · exact hq.elim
end
end Go.Proofs.YtpobngddiifdpaaGreat.V
/- The same again by recursors, so that what is left over of a step is the same term for the elaborator and for the kernel. -/
namespace Go.Proofs.YtpobngddiifdpaaGreat.V
open Go Go.RowKit Go.Proofs.YtpobngddiifdpaaGreat.Hz

section
variable (P : Program) (T : Tab) (hd : Bool) (call : List Nat → Nat → List SV → St → (St → SV → Prop) → Prop) (F : List Nat) (b : Nat) (ops : List Oper)
def opF (o : Oper) (_ : List Oper) (ih : St → (St → Prop) → Prop) (st : St) (K : St → Prop) : Prop := guardK ops o st fun run st => match run with
      | true => bif hits F o st then False else vOp T hd (call F) b o st fun st v => st.put o.dst v fun st => ih st K
      | false => st.put o.dst (.tup []) fun st => ih st K
def vOpsF (l : List Oper) : St → (St → Prop) → Prop :=
  List.rec (motive := fun _ => St → (St → Prop) → Prop) (fun st K => K st)
    (opF T hd call F b ops) l
theorem vOpsF_eq (l : List Oper) : vOpsF T hd call F b ops l = vOps T hd call F b ops l := by
  induction l with
  | nil => rfl
  | cons o r ih =>
    funext st K
    show (guardK ops o st fun run st => match run with
      | true => bif hits F o st then False else vOp T hd (call F) b o st fun st v => st.put o.dst v fun st => vOpsF T hd call F b ops r st K
      | false => st.put o.dst (.tup []) fun st => vOpsF T hd call F b ops r st K) = _
    rw [ih]
    rfl
abbrev Pn := St → St → (St → Prop) → Prop
def takeF (i : Nat) (_ : VPlan) (ih : Pn) : Pn := fun sf st K => getK ops i fun o => guardK ops o sf fun run sf => guardK ops o st fun run' st => match run, run' with
      | true, true => vRead T hd o sf fun vf => vRead T hd o st fun v => sf.put o.dst vf fun sf => st.put o.dst v fun st => ih sf st K
      | false, false => sf.put o.dst (.tup []) fun sf => st.put o.dst (.tup []) fun st => ih sf st K
      | _, _ => True
def reckF (i : Nat) (_ : VPlan) (ih : Pn) : Pn := fun sf st K => getK ops i fun o => bif worldless o.op then guardK ops o st fun run st => match run with
      | true => reckK T hd o st fun st v => sf.put o.dst (lateV v) fun sf => st.put o.dst v fun st => ih sf st K
      | false => sf.put o.dst (.tup []) fun sf => st.put o.dst (.tup []) fun st => ih sf st K
      else False
def oneF (i : Nat) (_ : VPlan) (ih : Pn) : Pn := fun sf st K => vPlan.stepK T hd call F b ops i sf st (fun sf st => ih sf st K)
def twoF (i j : Nat) (_ _ : VPlan) (ih ih2 : Pn) : Pn := fun sf st K => vPlan.stepK T hd call F b ops i sf st (fun sf st => ih sf st K) ∧ vPlan.stepK T hd call F b ops j sf st (fun sf st => ih2 sf st K)
def threeF (i j k : Nat) (_ _ _ : VPlan) (ih ih2 ih3 : Pn) : Pn := fun sf st K => vPlan.stepK T hd call F b ops i sf st (fun sf st => ih sf st K) ∧ vPlan.stepK T hd call F b ops j sf st (fun sf st => ih2 sf st K) ∧ vPlan.stepK T hd call F b ops k sf st (fun sf st => ih3 sf st K)
def fourF (i j k l : Nat) (_ _ _ _ : VPlan) (ih ih2 ih3 ih4 : Pn) : Pn := fun sf st K => vPlan.stepK T hd call F b ops i sf st (fun sf st => ih sf st K) ∧ vPlan.stepK T hd call F b ops j sf st (fun sf st => ih2 sf st K) ∧ vPlan.stepK T hd call F b ops k sf st (fun sf st => ih3 sf st K) ∧ vPlan.stepK T hd call F b ops l sf st (fun sf st => ih4 sf st K)
def lateF (_ : VPlan) (ih : Pn) : Pn := fun sf st K => match sf with | ⟨t, _, s⟩ => ih ⟨t, [], s⟩ st K
def vPlanF (p : VPlan) : Pn :=
  VPlan.rec (motive := fun _ => Pn) (fun _ st K => K st) (takeF T hd ops) (reckF T hd ops) (oneF T hd call F b ops) (twoF T hd call F b ops) (threeF T hd call F b ops) (fourF T hd call F b ops) lateF p
theorem vPlanF_eq (p : VPlan) : vPlanF T hd call F b ops p = vPlan T hd call F b ops p := by
  induction p with
  | done => rfl
  | take i p ih =>
    funext sf st K
    show (getK ops i fun o => guardK ops o sf fun run sf => guardK ops o st fun run' st => match run, run' with
      | true, true => vRead T hd o sf fun vf => vRead T hd o st fun v => sf.put o.dst vf fun sf => st.put o.dst v fun st => vPlanF T hd call F b ops p sf st K
      | false, false => sf.put o.dst (.tup []) fun sf => st.put o.dst (.tup []) fun st => vPlanF T hd call F b ops p sf st K
      | _, _ => True) = _
    rw [ih]
    rfl
  | reck i p ih =>
    funext sf st K
    show (getK ops i fun o => bif worldless o.op then guardK ops o st fun run st => match run with
      | true => reckK T hd o st fun st v => sf.put o.dst (lateV v) fun sf => st.put o.dst v fun st => vPlanF T hd call F b ops p sf st K
      | false => sf.put o.dst (.tup []) fun sf => st.put o.dst (.tup []) fun st => vPlanF T hd call F b ops p sf st K
      else False) = _
    rw [ih]
    rfl
  | one i p ih =>
    funext sf st K
    show vPlan.stepK T hd call F b ops i sf st (fun sf st => vPlanF T hd call F b ops p sf st K) = _
    rw [ih]
    rfl
  | two i j p q ih ih2 =>
    funext sf st K
    show (vPlan.stepK T hd call F b ops i sf st (fun sf st => vPlanF T hd call F b ops p sf st K) ∧ vPlan.stepK T hd call F b ops j sf st (fun sf st => vPlanF T hd call F b ops q sf st K)) = _
    rw [ih, ih2]
    rfl
  | three i j k p q r ih ih2 ih3 =>
    funext sf st K
    show (vPlan.stepK T hd call F b ops i sf st (fun sf st => vPlanF T hd call F b ops p sf st K) ∧ vPlan.stepK T hd call F b ops j sf st (fun sf st => vPlanF T hd call F b ops q sf st K) ∧ vPlan.stepK T hd call F b ops k sf st (fun sf st => vPlanF T hd call F b ops r sf st K)) = _
    rw [ih, ih2, ih3]
    rfl
  | four i j k l p q r s ih ih2 ih3 ih4 =>
    funext sf st K
    show (vPlan.stepK T hd call F b ops i sf st (fun sf st => vPlanF T hd call F b ops p sf st K) ∧ vPlan.stepK T hd call F b ops j sf st (fun sf st => vPlanF T hd call F b ops q sf st K) ∧ vPlan.stepK T hd call F b ops k sf st (fun sf st => vPlanF T hd call F b ops r sf st K) ∧ vPlan.stepK T hd call F b ops l sf st (fun sf st => vPlanF T hd call F b ops s sf st K)) = _
    rw [ih, ih2, ih3, ih4]
    rfl
  | late p ih =>
    funext sf st K
    show (match sf with | ⟨t, _, s⟩ => vPlanF T hd call F b ops p ⟨t, [], s⟩ st K) = _
    rw [ih]
    rfl
def condF (c : Operand) (x y : (Exit → St → Prop) → St → Prop) (Q : Exit → St → Prop) (st : St) : Prop := match c with
  | .tmp i => getK st.tmps i fun v => match v with
    | .one (.bool c) => match c with
      | true => st.set i (.one (.bool true)) fun st => x Q st
      | false => st.set i (.one (.bool false)) fun st => y Q st
    | _ => False
  | _ => False
def regionF (ops : Array Oper) (draw : Bool) (Q : Exit → St → Prop) (st : St) : Prop := match draw with
  | false => vOpsF T hd call F b ops.toList ops.toList st fun st => Q .normal st
  | true => ∃ p G, planFits ops p = true ∧ ∃ st', (match st with | ⟨t, m0, s⟩ => keepM G m0 fun m => vPlanF T hd call F b ops.toList p ⟨t, m, s⟩ ⟨t, m0, s⟩ fun st => st = st') ∧ Q .normal st'
abbrev Mn := (Exit → St → Prop) → St → Prop
def skipF : Mn := fun Q st => Q .normal st
def exitF (i : Nat) : Mn := fun Q st => Q (.exit i) st
def retF : Mn := fun Q st => Q .ret st
def seqF (_ _ : Code) (x y : Mn) : Mn := fun Q st => x (fun e st => match e with
      | .normal => y Q st
      | e => Q e st) st
def blockF (i : Nat) (_ : Code) (x : Mn) : Mn := fun Q st => x (fun e st => match e with
      | .exit j => bif Nat.beq j i then Q .normal st else Q (.exit j) st
      | e => Q e st) st
def scopeF (_ : Code) (x : Mn) : Mn := fun Q st => x (fun e st => match e with
      | .goto _ => False
      | e => Q e st) st
def loopF (_ : Code) (x : Mn) : Mn := fun Q st => ∃ rows L B n, rowsK rows st fun st => St.keep L B st fun st => VHold (vLoop (fun ih st => x (fun e st => match e with
      | .normal => rowsK rows st fun st => St.keep L B st ih
      | e => Q e st) st) n st)
def vCodeF (c : Code) : (Exit → St → Prop) → St → Prop :=
  Code.rec (motive := fun _ => (Exit → St → Prop) → St → Prop)
    (skip := skipF) (label := fun _ => skipF) (exit := exitF) (ret := retF) (seq := seqF) (cond := fun c _ _ => condF c) (block := blockF) (scope := scopeF) (loop := loopF)
    (region := fun _ => regionF T hd call F b) (rangeFunc := fun _ _ _ _ _ _ _ _ => False) (goto := fun _ _ _ => False)
    (refuse := fun _ _ _ => False) c
theorem vCodeF_eq (c : Code) : vCodeF T hd call F b c = vCode P T hd call F b c := by
  induction c with
  | seq x y ih ih2 =>
    funext Q st
    show vCodeF T hd call F b x (fun e st => match e with
      | .normal => vCodeF T hd call F b y Q st
      | e => Q e st) st = _
    rw [ih, ih2]
    rfl
  | cond c x y ih ih2 =>
    funext Q st
    show condF c (vCodeF T hd call F b x) (vCodeF T hd call F b y) Q st = _
    rw [ih, ih2]
    rfl
  | block i x ih =>
    funext Q st
    show vCodeF T hd call F b x (fun e st => match e with
      | .exit j => bif Nat.beq j i then Q .normal st else Q (.exit j) st
      | e => Q e st) st = _
    rw [ih]
    rfl
  | scope x ih =>
    funext Q st
    show vCodeF T hd call F b x (fun e st => match e with
      | .goto _ => False
      | e => Q e st) st = _
    rw [ih]
    rfl
  | loop x ih =>
    funext Q st
    show (∃ rows L B n, rowsK rows st fun st => St.keep L B st fun st => VHold (vLoop (fun i st => vCodeF T hd call F b x (fun e st => match e with
      | .normal => rowsK rows st fun st => St.keep L B st i
      | e => Q e st) st) n st)) = _
    rw [ih]
    rfl
  | region id ops draw =>
    funext Q st
    show regionF T hd call F b ops draw Q st = _
    unfold regionF
    simp only [vOpsF_eq, vPlanF_eq]
    cases draw <;> rfl
  | _ => rfl
end
def vCallF (P : Program) (T : Tab) (hd : Bool) (n : Nat) : List Nat → Nat → List SV → St → (St → SV → Prop) → Prop :=
  Nat.rec (motive := fun _ => List Nat → Nat → List SV → St → (St → SV → Prop) → Prop)
    (fun _ f vs st K => specCall P f vs st K)
    (fun _ ih F f vs st K => specCall P f vs st K ∨ ∃ (fn : Func) (c : Code) (b : Nat), P.funcs[f]? = some fn ∧ (goFunc P f = true ∧ fn.body = some c) ∧ (match st with
      | ⟨t, m, s⟩ => padK vs fn.ntmps fun ts => vCodeF T hd ih F b c (fun e st => bif isEnd e then (resK T st fn.results.toList fun rs => oneResK rs fun v => match st with
        | ⟨_, m, t :: s⟩ => K ⟨t, m, s⟩ v
        | _ => False) else False) ⟨ts, m, t :: s⟩)) n
theorem vCallF_eq (P : Program) (T : Tab) (hd : Bool) (n : Nat) : vCallF P T hd n = vCall P T hd n := by
  induction n with
  | zero => rfl
  | succ n ih =>
    funext F f vs st K
    show (specCall P f vs st K ∨ ∃ (fn : Func) (c : Code) (b : Nat), P.funcs[f]? = some fn ∧ (goFunc P f = true ∧ fn.body = some c) ∧ (match st with
      | ⟨t, m, s⟩ => padK vs fn.ntmps fun ts => vCodeF T hd (vCallF P T hd n) F b c (fun e st => bif isEnd e then (resK T st fn.results.toList fun rs => oneResK rs fun v => match st with
        | ⟨_, m, t :: s⟩ => K ⟨t, m, s⟩ v
        | _ => False) else False) ⟨ts, m, t :: s⟩)) = _
    rw [ih]
    simp only [vCodeF_eq P]
    rfl
section
variable {P : Program} {T : Tab}
theorem spec_introF (hd : Bool) (hT : T.ok P) {f : Nat} {fn : Func} {c : Code} {args : List SV} {res : SV} (n : Nat) (hfn : P.funcs[f]? = some fn) (hb : fn.body = some c) (hg : goFunc P f = true) (hr : res.data = true)
    (hk : padK args fn.ntmps fun ts => vCodeF T hd (vCallF P T hd n) [] 0 c (endsK T fn res) ⟨ts, [], []⟩) : Spec P f args res :=
  spec_introH hd hT n hfn hb hg hr (by rw [vCallF_eq] at hk; simp only [vCodeF_eq P] at hk; exact hk)
theorem specM_introF (hd : Bool) (hT : T.ok P) {f : Nat} {fn : Func} {c : Code} {args : List SV} {m : List (Int × SV)} (n : Nat) (hfn : P.funcs[f]? = some fn) (hb : fn.body = some c) (hg : goFunc P f = true) (hr : fnsOnly m = true)
    (hk : padK args fn.ntmps fun ts => vCodeF T hd (vCallF P T hd n) [] 0 c (endsM T fn m) ⟨ts, [], []⟩) : SpecM P f args m :=
  specM_introH hd hT n hfn hb hg hr (by rw [vCallF_eq] at hk; simp only [vCodeF_eq P] at hk; exact hk)
end
end Go.Proofs.YtpobngddiifdpaaGreat.V
