/- Regions, code, calls: what is shown of symbolic states holds of runs. -/
import Derived.Test.YtjeiopkfdgllhaaGreatVOp
import Derived.Scope
namespace Go.Proofs.YtjeiopkfdgllhaaGreat.V
open Go Go.RowKit Go.Proofs.YtjeiopkfdgllhaaGreat.Hz

section
variable {X X' X0 : Nat → Prop} {w w' w0 : World} {E E' : Env} {as : Cx} {st : St} {a : Act} {P : Program} {T : Tab}

/-! ### Guards -/
theorem same_set {l : List SV} {i : Nat} {v : SV} (h : l[i]? = some v) : l.set i v = l := by
  apply List.ext_getElem?
  intro j
  by_cases hj : i = j
  · subst hj
    rw [List.getElem?_set_self (List.getElem?_eq_some_iff.1 h).1, h]
  · rw [List.getElem?_set_ne hj]
theorem guard_is {ops : List Oper} {o : Oper} {K : Bool → St → Prop} (hk : guardK ops o st K) (h : RE X0 w0 as E st a w) : K (Region.wanted o (yielded ops.toArray a.tmps)) st := by
  unfold guardK at hk
  split at hk
  · rename_i hg
    have : Region.wanted o (yielded ops.toArray a.tmps) = true := by simp [Region.wanted, hg]
    rw [this]; exact hk
  · rename_i j want hg
    obtain ⟨oj, hj, hk⟩ := getK_is hk
    split at hk
    · exact hk.elim
    · rename_i d hd
      obtain ⟨v, hv, hk⟩ := getK_is hk
      split at hk
      · rename_i c
        obtain ⟨u, hu, hr⟩ := h.tmps.at hv
        have hu2 : u = .bool c := hr
        subst hu2
        have hy : yielded ops.toArray a.tmps j = some c := by
          have h1 : ops.toArray[j]? = some oj := by simpa using hj
          have h2 : a.tmps[d]? = some (.bool c) := by rw [← Array.getElem?_toList]; exact hu
          simp [yielded, h1, hd, h2]
        have hw : Region.wanted o (yielded ops.toArray a.tmps) = (c == want) := by
          simp only [Region.wanted, hg, hy]
          cases c <;> cases want <;> rfl
        rw [hw]
        obtain ⟨t, m, s⟩ := st
        split at hk
        · have := (setK_is hk).2
          rw [same_set hv] at this
          cases want <;> exact this
        · have := (setK_is hk).2
          rw [same_set hv] at this
          cases want <;> exact this
      · obtain ⟨u, hu, us, e, hp⟩ := h.tmps.at hv
        have hu2 : u = undef := by
          cases us with
          | nil => exact e
          | cons => exact hp.elim
        subst hu2
        have hy : yielded ops.toArray a.tmps j = none := by
          have h1 : ops.toArray[j]? = some oj := by simpa using hj
          have h2 : a.tmps[d]? = some undef := by rw [← Array.getElem?_toList]; exact hu
          simp [yielded, h1, hd, h2, undef]
        have hw : Region.wanted o (yielded ops.toArray a.tmps) = false := by
          simp only [Region.wanted, hg, hy]
          rfl
        rw [hw]
        exact hk
      · exact hk.elim

/-! ### What is changed -/
theorem RE.cx {as' : Cx} (h : RE X0 w0 as E st a w) (e : as'.as = as.as) (h1 : ∀ k bx, (k, bx) ∈ st.mem → E.live k = true → as'.pr k (E.blk k)) (h2 : ∀ k b, w.heap.size ≤ b → as'.pr k b) : RE X0 w0 as' E st a w :=
  ⟨h.apart, h.below, h.defers, h.tmps, h.mem, h.place, h.keys, h.inj, by rw [e]; exact h.stk, h1, h2⟩
theorem hits_false {F : List Nat} {o : Oper} {st : St} (h : hits F o st = false) : ∀ k ∈ wrOf o st, k ∉ F := by
  intro k hk hF
  unfold hits at h
  cases F with
  | nil => cases hF
  | cons j r =>
    rw [List.any_eq_false] at h
    refine h k hk ?_
    rcases List.mem_cons.1 hF with e | e
    · rw [e, Nat.beq_refl]; rfl
    · rw [Bool.or_eq_true, List.any_eq_true]
      exact .inr ⟨k, e, Nat.beq_refl k⟩
/-- Blocks below N stand. -/
theorem wrote_below {N : Nat} {F ks : List Nat} {E' : Env} {st' : St} {a' : Act} (h : RE X0 w0 as E st a w) (h' : RE X0 w0 as E' st' a' w') (hN : ∀ k b, k ∉ F → as.pr k b → N ≤ b) (hF : ∀ k ∈ ks, k ∉ F) (hNw : N ≤ w.heap.size) (hw : Wrote E st.mem ks w w') : Below N w w' :=
  ⟨h'.below.os.trans h.below.os.symm, h'.below.tape.trans h.below.tape.symm, h'.below.output.trans h.below.output.symm, hw.1, fun b hb => hw.2 b (Nat.lt_of_lt_of_le hb hNw) fun k hk bx hm hl he => by
    have h1 := hN k _ (hF k hk) (h.prot k bx hm hl)
    omega⟩
theorem isCallV_wr {o : Oper} {st : St} (h : isCallV o = true) : wrOf o st = [] := by
  unfold isCallV at h
  unfold wrOf
  split at h
  · rename_i c ho
    rw [ho]
    split at h
    · rename_i f hf
      simp only [hf]
    · cases h
  · cases h
theorem op_below {N : Nat} {F : List Nat} {o : Oper} {E' : Env} {st' : St} {a' : Act} (h : RE X0 w0 as E st a w) (h' : RE X0 w0 as E' st' a' w') (hN : ∀ k b, k ∉ F → as.pr k b → N ≤ b) (hF : hits F o st = false) (hNw : N ≤ w.heap.size) (hw : (isCallV o = true ∧ Below N w w') ∨ Wrote E st.mem (wrOf o st) w w') : Below N w w' := by
  rcases hw with h1 | h1
  · exact h1.2
  · exact wrote_below h h' hN (hits_false hF) hNw h1

/-! ### Regions in one order -/
theorem ops_is {hd : Bool} {call : List Nat → Nat → List SV → St → (St → SV → Prop) → Prop} {F : List Nat} {N : Nat} {b : Nat} {ops : List Oper} {Q : Exit → Act → World → Prop} {ws : World} (hT : T.ok P) (hC : CallOk P call) (hfr : ∀ ks, (∀ k ∈ ks, k ∉ F) → as.free ks) (hN : ∀ k b, k ∉ F → as.pr k b → N ≤ b) (hNs : N ≤ ws.heap.size) :
    ∀ (l : List Oper) {st : St} {a : Act} {w : World} {E : Env} {K : St → Prop}, RE X0 w0 as E st a w → Below N ws w → vOps T hd call F b ops l st K → (∀ st' a' w' E', K st' → RE X0 w0 as E' st' a' w' → Below N ws w' → Q .normal a' w') → wpList P ops.toArray Q l a w
  | [], st, a, w, E, K, h, hB, hk, hn => wpList_nil (hn st a w E hk h hB)
  | o :: r, st, a, w, E, K, h, hB, hk, hn => by
    unfold vOps at hk
    have hk := guard_is hk h
    refine wpList_step fun K' hK' => ?_
    split at hk
    · rename_i hw
      rw [if_pos hw]
      cases hF : hits F o st with
      | true => rw [hF] at hk; exact hk.elim
      | false =>
        rw [hF] at hk
        simp only [cond_false] at hk
        have hNw : N ≤ w.heap.size := Nat.le_trans hNs hB.size
        refine op_is hT (hC F as N hfr hN) hNw h (hfr _ (hits_false hF)) hk fun st' v u w' E' q1 q2 q3 q4 => ?_
        have hB' := hB.trans (op_below h q2 hN hF hNw q4)
        obtain ⟨st2, p1, p2⟩ := q2.put q3 q1
        exact hK' _ _ (ops_is hT hC hfr hN hNs r p2 hB' p1 hn)
    · rename_i hw
      rw [if_neg (by rw [hw]; decide)]
      obtain ⟨st2, p1, p2⟩ := h.put (v := .tup []) (u := undef) ⟨[], rfl, trivial⟩ hk
      exact hK' _ _ (ops_is hT hC hfr hN hNs r p2 hB p1 hn)

/-! ### Keeping less -/
theorem keepT_is {L : List Nat} : ∀ {ts : List SV} {i : Nat} {K : List SV → Prop} {us : List Value}, keepT L i ts K → RVs X w E us ts → ∃ ts', K ts' ∧ RVs X w E us ts'
  | [], i, K, us, hk, h => ⟨[], hk, h⟩
  | v :: r, i, K, u :: us, hk, h => by
    obtain ⟨ts', h1, h2⟩ := keepT_is (ts := r) (i := i + 1) hk h.2
    refine ⟨_, h1, ?_, h2⟩
    cases L.any (Nat.beq i) with
    | true => exact h.1
    | false => trivial
  | _ :: _, _, _, [], _, h => h.elim
theorem keepM_is {B : List Nat} : ∀ {m : List (Nat × Box)} {K : List (Nat × Box) → Prop}, keepM B m K → K (m.filter fun p => B.any (Nat.beq p.1))
  | [], K, hk => hk
  | (j, b) :: r, K, hk => by
    have := keepM_is (m := r) hk
    cases hb : B.any (Nat.beq j) with
    | true => rw [hb] at this; simpa [hb] using this
    | false => rw [hb] at this; simpa [hb] using this
theorem RVs.less {X X' : Nat → Prop} {us : List Value} {cs : List SV} (h : RVs X w E us cs) (hX : ∀ b, X' b → X b) : RVs X' w E us cs := h.up (Off.refl _ _) (fun b _ hx => hX b hx) fun _ _ => ⟨rfl, rfl⟩
/-- Fewer boxes; what is no longer known of is given up, or is one of the callers'. -/
theorem RE.fewer {X1 : Nat → Prop} {t : List SV} {m : List (Nat × Box)} (h : RE X0 w0 as E st a w) (ht : RVs (own X0 E st.mem) w E a.tmps.toList t) (hm : m.Sublist st.mem) (hX : ∀ b, X1 b → X0 b ∨ ∃ k bx, (k, bx) ∈ st.mem ∧ (∀ bx', (k, bx') ∉ m) ∧ E.live k = true ∧ E.blk k = b) : RE X1 w0 as E ⟨t, m, st.stk⟩ a w := by
  have hown : ∀ b, own X1 E m b → own X0 E st.mem b := by
    rintro b (hx | ⟨k, bx, hk, hl, he⟩)
    · rcases hX b hx with c | ⟨k, bx, hk, _, hl, he⟩
      · exact .inl c
      · exact .inr ⟨k, bx, hk, hl, he⟩
    · exact .inr ⟨k, bx, hm.subset hk, hl, he⟩
  refine ⟨fun b hb => ?_, h.below, h.defers, ht.less hown, fun k bx hk => (h.mem k bx (hm.subset hk)).up (Off.refl _ _) (fun b _ hb => hown b hb) (fun _ _ => ⟨rfl, rfl⟩) ⟨rfl, rfl, rfl⟩ fun _ => rfl,
    fun k bx hk => h.place k bx (hm.subset hk), h.keys.sublist hm, fun i bi j bj hi hj => h.inj i bi j bj (hm.subset hi) (hm.subset hj), h.stk.up (Off.refl _ _) (fun b _ hb => hown b hb) (fun _ _ => ⟨rfl, rfl⟩), fun k bx hk => h.prot k bx (hm.subset hk), h.prN⟩
  rcases hX b hb with c | ⟨k, bx, hk, hno, hl, he⟩
  · exact ⟨(h.apart b c).1, fun k bx hk hl => (h.apart b c).2 k bx (hm.subset hk) hl⟩
  · refine ⟨he ▸ (h.place k bx hk hl).2, fun j bj hj hlj e => ?_⟩
    have := h.inj j bj k bx (hm.subset hj) hk hlj hl (e.trans he.symm)
    subst this
    exact hno bj hj
theorem RE.keep {L B : List Nat} {K : St → Prop} (h : RE X0 w0 as E st a w) (hk : st.keep L B K) : ∃ st', K st' ∧ RE X0 w0 as E st' a w := by
  obtain ⟨t, m, s⟩ := st
  obtain ⟨t', hk, ht⟩ := keepT_is hk h.tmps
  exact ⟨_, keepM_is hk, h.fewer ht (List.filter_sublist) fun b hb => .inl hb⟩
theorem same_setV {l : List Value} {i : Nat} {v : Value} (h : l[i]? = some v) : l.set i v = l := by
  apply List.ext_getElem?
  intro j
  by_cases hj : i = j
  · subst hj
    rw [List.getElem?_set_self (List.getElem?_eq_some_iff.1 h).1, h]
  · rw [List.getElem?_set_ne hj]
/-- A slot is read in another way. -/
theorem RE.reread {K : St → Prop} {i : Nat} {v : SV} {u : Value} (h : RE X0 w0 as E st a w) (hi : a.tmps.toList[i]? = some u) (hu : RV (own X0 E st.mem) w E u v) (hk : st.set i v K) : ∃ st', K st' ∧ RE X0 w0 as E st' a w ∧ st'.mem = st.mem := by
  obtain ⟨t, h1, h2, h3⟩ := h.set hu hk
  refine ⟨_, h1, ?_, rfl⟩
  have e : a.put (some i) u = a := by
    simp only [Act.put]
    congr 1
    apply Array.ext'
    rw [Array.toList_setIfInBounds]
    exact same_setV hi
  rw [e] at h3; exact h3
theorem boxK_is {N : Prop} {K : Box → Prop} : ∀ {m : List (Nat × Box)} {k : Nat}, boxK m k N K → N ∨ ∃ b, (k, b) ∈ m ∧ K b
  | [], _, h => .inl h
  | (j, b) :: r, k, h => by
    unfold boxK at h
    cases hj : Nat.beq j k with
    | true => rw [hj] at h; exact .inr ⟨b, by rw [Nat.eq_of_beq_eq_true hj]; exact List.mem_cons_self .., h⟩
    | false =>
      rw [hj] at h
      rcases boxK_is (m := r) h with h | ⟨b', h1, h2⟩
      · exact .inl h
      · exact .inr ⟨b', List.mem_cons_of_mem _ h1, h2⟩
/-- A row is data from now on. -/
theorem RE.dropRow {K : St → Prop} {k : Nat} {e : TypeId} {t : Ty} {l : List (Den t)} (h : RE X0 w0 as E st a w) (hm : (k, .row e t l) ∈ st.mem) (hk : st.drop k (.sl t l false) K) : ∃ st', K st' ∧ RE X0 w0 as E st' a w := by
  have hr := h.mem k _ hm
  have hd : ∀ X', (∀ b, X' b → own X0 E st.mem b) → (E.live k = true → X' (E.blk k) → X0 (E.blk k)) → RC X' w E (E.rv k) (.sl t l false) := fun X' hx hlive => by
    refine ⟨?_, fun e => nomatch e⟩
    unfold RB at hr
    cases hl : E.live k with
    | false =>
      rw [hl] at hr
      obtain ⟨hr, rfl⟩ := hr
      obtain ⟨base, e⟩ := hr
      rw [e]; exact ⟨[], SX.empty, rfl⟩
    | true =>
      rw [hl] at hr
      obtain ⟨cap, cur, e1, e2, e3, e4, e5, e6⟩ := hr
      exact ⟨_, .inl (.inr ⟨E.blk k, 0, cap, e1, fun hb => own_of_mem h hm hl (hlive hl hb), (Array.getElem?_eq_some_iff.1 e2).1, e3, e4, Row.takeL (row_box e2)⟩), e6.mono fun _ _ h => DC.up (Off.refl _ _) (fun b _ hb => hx b hb) h⟩
  obtain ⟨st', hk, h1, _⟩ := h.drop (X1 := X0) hm hk (fun b hb => .inl hb) hd
  exact ⟨st', hk, h1⟩
/-- Empty slices are own rows. -/
theorem rows_is : ∀ {rows : List (Nat × Nat × TypeId × Ty)} {st : St} {K : St → Prop} {E : Env}, RE X0 w0 as E st a w → rowsK rows st K → ∃ E' st', K st' ∧ RE X0 w0 as E' st' a w
  | [], st, K, E, h, hk => ⟨E, st, hk, h⟩
  | (i, k, e, t) :: r, st, K, E, h, hk => by
    unfold rowsK at hk
    cases hbig : Nat.ble 1000000 i with
    | true =>
      rw [hbig] at hk
      rcases boxK_is hk with hk | ⟨b, hm, hk⟩
      · exact rows_is h hk
      · split at hk
        · obtain ⟨st', hk, h'⟩ := h.dropRow hm hk
          exact rows_is h' hk
        · exact rows_is h hk
    | false =>
    rw [hbig] at hk
    simp only [cond_false] at hk
    obtain ⟨v, hv, hk⟩ := getK_is hk
    obtain ⟨u, hu, hr⟩ := h.tmps.at hv
    have emp : Emp (own X0 E st.mem) w u → (st.new k none (.row e t []) fun st => st.set i (.one (.row k)) fun st => rowsK r st K) → ∃ E' st', K st' ∧ RE X0 w0 as E' st' a w := fun hemp hk => by
      obtain ⟨E1, st1, hk, h1, q3, q4, q5, q6, q7⟩ := RE.new (X1 := X0) (g := 0) (v := u) (l := false) h hk h.below (Nat.le_refl _) (fun b hb _ => rfl) (fun e => nomatch e)
        (fun b hb => ⟨hb, fun e => nomatch e⟩) (fun X' E'' hx hoff hag e1 e2 e3 _ _ => by
          unfold RB
          rw [e3, e2]
          exact ⟨hemp.up hoff hx, rfl⟩)
      obtain ⟨st2, hk, h2, _⟩ := h1.reread hu (v := .one (.row k)) ⟨q4.symm, by
        obtain ⟨base, e⟩ := hemp
        rw [e]; rfl⟩ hk
      exact rows_is h2 hk
    split at hk
    · exact emp hr hk
    · exact emp ⟨_, hr⟩ hk
    · exact rows_is h hk
    · exact hk.elim

theorem RE.putM {K : St → Prop} {d : Option Tmp} {v : SV} {u : Value} (h : RE X0 w0 as E st a w) (hu : RV (own X0 E st.mem) w E u v) (hk : st.put d v K) :
    ∃ st', K st' ∧ RE X0 w0 as E st' (a.put d u) w ∧ st'.mem = st.mem := by
  cases d with
  | none => exact ⟨st, hk, h, rfl⟩
  | some i => obtain ⟨t, h1, _, h2⟩ := h.set hu hk; exact ⟨_, h1, h2, rfl⟩
/-! ### Plans -/
/-- What is asked of blocks while a region is gone through whose order is drawn. -/
def prOf (as : Cx) (X0 : Nat → Prop) (E0 : Env) (mem0 memf : List (Nat × Box)) (we : World) : Cx :=
  ⟨as.as, fun k b => as.pr k b ∧ (∀ j bx, (j, bx) ∈ memf → E0.live j = true → E0.blk j = b → k = j) ∧ (b < we.heap.size → own X0 E0 mem0 b)⟩
/-- The blocks that the region may change. -/
def mayOf (X0 : Nat → Prop) (E0 : Env) (mem0 memf : List (Nat × Box)) : Nat → Prop :=
  fun b => X0 b ∨ ∃ k bx, (k, bx) ∈ mem0 ∧ (∀ bx', (k, bx') ∉ memf) ∧ E0.live k = true ∧ E0.blk k = b
def Stands (X : Nat → Prop) (we w : World) : Prop := ∀ b, b < we.heap.size → ¬ X b → w.heap[b]? = we.heap[b]?
theorem hasAny_false {ks : List Nat} : ∀ {m : List (Nat × Box)}, hasAny ks m = false → ∀ k ∈ ks, ∀ bx, (k, bx) ∉ m
  | [], _, _, _, _, h => by cases h
  | (j, b) :: r, h, k, hk, bx, hm => by
    unfold hasAny at h
    cases hj : ks.any (Nat.beq j) with
    | true => rw [hj] at h; cases h
    | false =>
      rw [hj] at h
      rcases List.mem_cons.1 hm with e | hm
      · obtain ⟨rfl, _⟩ := Prod.mk.inj e
        rw [List.any_eq_false] at hj
        exact hj k hk (by simp)
      · exact hasAny_false (m := r) h k hk bx hm

theorem reck_is {hd : Bool} {o : Oper} {K : St → SV → Prop} (hT : T.ok P) (h : RE X0 w0 as E st a w) (hwl : worldless o.op = true) (hk : reckK T hd o st K) :
    ∃ st' v u, K st' v ∧ RE X0 w0 as E st' a w ∧ RV (own X0 E st'.mem) w E u v ∧ ∀ w', Yields P o a u w' := by
  unfold reckK at hk
  split at hk
  · rename_i t x lo hi mx ho
    obtain ⟨v, hk, hv⟩ := eval_is hk h
    split at hk
    · rename_i k
      obtain ⟨l, hk, hl⟩ := optInt_is hk h
      obtain ⟨hh, hk, hh2⟩ := optInt_is hk h
      obtain ⟨m, hk, hm⟩ := optInt_is hk h
      obtain ⟨st1, c', hk, h1, hu', _⟩ := freeze_is (u := a.eval x) (c := .row k) h hv hk
      obtain ⟨v', u, q1, q2, q3⟩ := slice_is (v := .one c') hT ho hu' hl hh2 hm hk
      exact ⟨st1, v', u, q1, h1, q2, q3⟩
    · obtain ⟨l, hk, hl⟩ := optInt_is hk h
      obtain ⟨hh, hk, hh2⟩ := optInt_is hk h
      obtain ⟨m, hk, hm⟩ := optInt_is hk h
      obtain ⟨v', u, q1, q2, q3⟩ := slice_is hT ho hv hl hh2 hm hk
      exact ⟨st, v', u, q1, h, q2, q3⟩
  · obtain ⟨v', u', hk, hv', hy'⟩ := read_is hT h hk
    exact ⟨st, v', u', hk, h, hv', fun w' => hy' w' (.inl hwl)⟩
theorem mem_keysOf {k : Nat} {bx : Box} : ∀ {m : List (Nat × Box)}, (k, bx) ∈ m → k ∈ keysOf m
  | (j, b) :: r, h => by
    rcases List.mem_cons.1 h with e | h
    · obtain ⟨rfl, _⟩ := Prod.mk.inj e; exact List.mem_cons_self ..
    · exact List.mem_cons_of_mem _ (mem_keysOf h)
theorem keysOf_no {ks F : List Nat} {m : List (Nat × Box)} (h : ∀ k ∈ ks, k ∉ F ++ keysOf m) : ∀ k ∈ ks, ∀ bx, (k, bx) ∉ m :=
  fun k hk bx hm => h k hk (List.mem_append_right _ (mem_keysOf hm))
theorem plan_is {hd : Bool} {call : List Nat → Nat → List SV → St → (St → SV → Prop) → Prop} {F : List Nat} {N : Nat} {ws : World} {b : Nat} {ops : List Oper} {R' : Act → World → Prop} {E0 : Env} {mem0 memf : List (Nat × Box)} {we : World} {K : St → Prop} (hT : T.ok P) (hC : CallOk P call)
    (hfr : ∀ ks, (∀ k ∈ ks, k ∉ F) → as.free ks) (hN : ∀ k b, k ∉ F → as.pr k b → N ≤ b) (hNs : N ≤ ws.heap.size) (hs : Region.noSelect ops.toArray = true) (_hsub : ∀ p, p ∈ memf → p ∈ mem0) :
    ∀ (p : VPlan) (listed : Array Bool) (sf st : St) (a : Act) (w : World) (E : Env), p.ok .any ops.toArray listed = true → sf.mem = memf →
      RE (mayOf X0 E0 mem0 memf) w0 ⟨as.as, fun _ _ => True⟩ E0 sf a we → RE X0 w0 (prOf as X0 E0 mem0 memf we) E st a w → Stands (mayOf X0 E0 mem0 memf) we w → we.heap.size ≤ w.heap.size → Below N ws w →
      vPlan T hd call F b ops p sf st K → (∀ st' a' w' E', K st' → RE X0 w0 (prOf as X0 E0 mem0 memf we) E' st' a' w' → Below N ws w' → R' a' w') →
      wpAnyG P .any ops.toArray (fun e a w => e = .normal ∧ R' a w) (Stands (mayOf X0 E0 mem0 memf) we) (fun _ => true) p.len listed a w := by
  have hfree : ∀ {ks : List Nat}, (∀ k ∈ ks, k ∉ F) → (∀ k ∈ ks, ∀ bx, (k, bx) ∉ memf) → (prOf as X0 E0 mem0 memf we).free ks := fun {ks} hnF hno k hk b hb d =>
    ⟨hfr ks hnF k hk b hb.1 d, fun j bx hj hl he => by
      have := hb.2.1 j bx hj hl he
      subst this
      exact absurd hj (hno k hk bx), hb.2.2⟩
  have hstand : ∀ {ks : List Nat} {st : St} {a : Act} {w w' : World} {E : Env}, hasAny ks memf = false → RE X0 w0 (prOf as X0 E0 mem0 memf we) E st a w → we.heap.size ≤ w.heap.size → Wrote E st.mem ks w w' → Stands (mayOf X0 E0 mem0 memf) we w → Stands (mayOf X0 E0 mem0 memf) we w' :=
    fun {ks st a w w' E} hno h hle hw hS b hb hx => by
      rw [hw.2 b (by omega) fun k hk bx hm hl he => ?_, hS b hb hx]
      have hp := h.prot k bx hm hl
      rw [he] at hp
      rcases hp.2.2 hb with c | ⟨j, bj, hj, hlj, hej⟩
      · exact hx (.inl c)
      · by_cases hjm : ∃ bx', (j, bx') ∈ memf
        · obtain ⟨bx', hjm⟩ := hjm
          have := hp.2.1 j bx' hjm hlj hej
          subst this
          exact hasAny_false hno k hk bx' hjm
        · exact hx (.inr ⟨j, bj, hj, fun bx' hb' => hjm ⟨bx', hb'⟩, hlj, hej⟩)
  have hQ : ∀ (o : Oper) (v : Value) (c : List PanicEntry) (a : Act) (w : World), (fun e a w => e = Exit.normal ∧ R' a w) (.panic c) (a.put o.dst v) w → (fun e a w => e = Exit.normal ∧ R' a w) (.panic c) a w := fun _ _ _ _ _ h => by cases h.1
  -- a step
  have step : ∀ (i : Nat) (p : VPlan) (listed : Array Bool) (sf st : St) (a : Act) (w : World) (E : Env) (K2 : St → St → Prop), sf.mem = memf →
      RE (mayOf X0 E0 mem0 memf) w0 ⟨as.as, fun _ _ => True⟩ E0 sf a we → RE X0 w0 (prOf as X0 E0 mem0 memf we) E st a w → Stands (mayOf X0 E0 mem0 memf) we w → we.heap.size ≤ w.heap.size →
      Below N ws w → vPlan.stepK T hd call F b ops i sf st K2 →
      (∀ sf' st' a' w' E', K2 sf' st' → sf'.mem = memf → RE (mayOf X0 E0 mem0 memf) w0 ⟨as.as, fun _ _ => True⟩ E0 sf' a' we → RE X0 w0 (prOf as X0 E0 mem0 memf we) E' st' a' w' → Stands (mayOf X0 E0 mem0 memf) we w' → we.heap.size ≤ w'.heap.size → Below N ws w' →
        wpAnyG P .any ops.toArray (fun e a w => e = .normal ∧ R' a w) (Stands (mayOf X0 E0 mem0 memf) we) (fun _ => true) p.len (listed.setIfInBounds i true) a' w') →
      wpOp P ops.toArray (fun e a w => e = .normal ∧ R' a w) i (fun a' w' => ((fun _ => true) i = true → Stands (mayOf X0 E0 mem0 memf) we w → Stands (mayOf X0 E0 mem0 memf) we w') ∧ wpAnyG P .any ops.toArray (fun e a w => e = .normal ∧ R' a w) (Stands (mayOf X0 E0 mem0 memf) we) (fun _ => true) p.len (listed.setIfInBounds i true) a' w') a w := by
    intro i p listed sf st a w E K2 hmf hf h hS hle hB hk hn
    unfold vPlan.stepK at hk
    obtain ⟨o, ho, hk⟩ := getK_is hk
    have ho2 : ops.toArray[i]? = some o := by simpa using ho
    have hk := guard_is hk h
    refine wpOp_step ho2 fun K' hK' => ?_
    split at hk
    · rename_i hw
      rw [if_pos hw]
      cases hF : hits F o st with
      | true => rw [hF] at hk; exact hk.elim
      | false =>
      rw [hF] at hk
      simp only [cond_false] at hk
      cases hno : hasAny (wrOf o st) sf.mem with
      | true => rw [hno] at hk; exact hk.elim
      | false =>
        rw [hno] at hk
        simp only [cond_false] at hk
        rw [hmf] at hno
        have hNw : N ≤ w.heap.size := Nat.le_trans hNs hB.size
        have fin : ∀ st' v u w' E', (sf.put o.dst (.one .undef) fun sf => st'.put o.dst v fun st => K2 sf st) → RE X0 w0 (prOf as X0 E0 mem0 memf we) E' st' a w' → RV (own X0 E' st'.mem) w' E' u v → Wrote E st.mem (wrOf o st) w w' → K' (a.put o.dst u) w' := fun st' v u w' E' q1 q2 q3 q4 => by
          have hS' := hstand hno h hle q4 hS
          have hB' := hB.trans (wrote_below (as := prOf as X0 E0 mem0 memf we) h q2 (fun k b hk hb => hN k b hk hb.1) (hits_false hF) hNw q4)
          obtain ⟨sf', p1, p2, p5⟩ := hf.putM (v := .one .undef) (u := u) trivial q1
          obtain ⟨st2, p3, p4⟩ := q2.put q3 p1
          exact hK' _ _ ⟨fun _ _ => hS', hn _ _ _ _ _ p3 (p5.trans hmf) p2 p4 hS' (Nat.le_trans hle q4.1) hB'⟩
        have hfw := hfree (hits_false hF) (hasAny_false hno)
        cases hcv : isCallV o with
        | false =>
          refine op_is hT (hC (F ++ (keysOf sf.mem ++ keysOf st.mem)) (prOf as X0 E0 mem0 memf we) 0 (fun ks hks => hfree (fun k hk hx => hks k hk (List.mem_append_left _ hx)) fun k hk bx hm => hks k hk (List.mem_append_right _ (List.mem_append_left _ (mem_keysOf (hmf ▸ hm))))) fun _ _ _ _ => Nat.zero_le _) (Nat.zero_le _) h hfw hk fun st' v u w' E' q1 q2 q3 q4 => ?_
          rcases q4 with q4 | q4
          · rw [hcv] at q4; cases q4.1
          · exact fin st' v u w' E' q1 q2 q3 q4
        | true =>
          have h2 : RE X0 w0 ⟨as.as, fun k b => (prOf as X0 E0 mem0 memf we).pr k b ∧ (k ∉ F ++ (keysOf sf.mem ++ keysOf st.mem) → w.heap.size ≤ b)⟩ E st a w :=
            h.cx rfl (fun k bx hm hl => ⟨h.prot k bx hm hl, fun hx => absurd (List.mem_append_right _ (List.mem_append_right _ (mem_keysOf hm))) hx⟩) fun k b hb => ⟨h.prN k b hb, fun _ => hb⟩
          refine op_is hT (hC (F ++ (keysOf sf.mem ++ keysOf st.mem)) ⟨as.as, fun k b => (prOf as X0 E0 mem0 memf we).pr k b ∧ (k ∉ F ++ (keysOf sf.mem ++ keysOf st.mem) → w.heap.size ≤ b)⟩ w.heap.size (fun ks hks k hk b hb d => ⟨hfree (fun k hk hx => hks k hk (List.mem_append_left _ hx)) (fun k hk bx hm => hks k hk (List.mem_append_right _ (List.mem_append_left _ (mem_keysOf (hmf ▸ hm))))) k hk b hb.1 d, fun _ => hb.2 (hks k hk)⟩) fun k b hk hb => hb.2 hk) (Nat.le_refl _) h2 (by rw [isCallV_wr hcv]; exact fun k hk => nomatch hk) hk fun st' v u w' E' q1 q2 q3 q4 => ?_
          refine fin st' v u w' E' q1 (q2.cx rfl (fun k bx hm hl => (q2.prot k bx hm hl).1) fun k b hb => (q2.prN k b hb).1) q3 ?_
          rcases q4 with q4 | q4
          · exact Wrote.fresh q4.2
          · exact q4
    · rename_i hw
      rw [if_neg (by rw [hw]; decide)]
      obtain ⟨sf', p1, p2, p5⟩ := hf.putM (v := .one .undef) (u := undef) trivial hk
      obtain ⟨st2, p3, p4⟩ := h.put (v := .tup []) (u := undef) ⟨[], rfl, trivial⟩ p1
      exact hK' _ _ ⟨fun _ h => h, hn _ _ _ _ _ p3 (p5.trans hmf) p2 p4 hS hle hB⟩
  have take : ∀ (i : Nat) (p : VPlan) (listed : Array Bool) (a : Act) (w : World) (o : Oper) (v : Value), ops[i]? = some o → Region.free .any ops.toArray listed i = true → (Region.ready .any ops.toArray listed).contains i = true →
      YieldsIf P ops.toArray (Stands (mayOf X0 E0 mem0 memf) we) o v a → Stands (mayOf X0 E0 mem0 memf) we w →
      wpAnyG P .any ops.toArray (fun e a w => e = .normal ∧ R' a w) (Stands (mayOf X0 E0 mem0 memf) we) (fun _ => true) p.len (listed.setIfInBounds i true) (a.put o.dst v) w →
      wpAnyG P .any ops.toArray (fun e a w => e = .normal ∧ R' a w) (Stands (mayOf X0 E0 mem0 memf) we) (fun _ => true) (p.len + 1) listed a w :=
    fun i p listed a w o v ho hf hr hy hS h =>
      have ho2 : ops.toArray[i]? = some o := by simpa using ho
      wpAnyG_first ho2 (Region.noSelect_spec hs) (fun c a w => hQ o v c a w) (fun j oj hj hji => .inr fun w w' hk hw => hk rfl hw) p.len listed a w (Region.free_spec ho2 hf) (List.contains_iff_mem.1 hr) hy hS h
  intro p
  induction p with
  | done =>
    intro listed sf st a w E hok hmf hf h hS hle hB hk hn
    exact ⟨by simpa [VPlan.ok] using hok, rfl, hn _ _ _ _ hk h hB⟩
  | take i p ih =>
    intro listed sf st a w E hok hmf hf h hS hle hB hk hn
    simp only [VPlan.ok, Bool.and_eq_true] at hok
    obtain ⟨⟨hfr, hrd⟩, hok⟩ := hok
    unfold vPlan at hk
    obtain ⟨o, ho, hk⟩ := getK_is hk
    have hk := guard_is hk hf
    have hk := guard_is hk h
    cases hw : Region.wanted o (yielded ops.toArray a.tmps) with
    | true =>
      rw [hw] at hk
      simp only at hk
      obtain ⟨v, u, hk, hv, hy⟩ := read_is hT hf hk
      obtain ⟨v', u', hk, hv', hy'⟩ := read_is hT h hk
      have hyy : ∀ w', Stands (mayOf X0 E0 mem0 memf) we w' → Yields P o a u w' := fun w' hw' => hy w' (.inr fun b hb hx => hw' b hb hx)
      have he : u' = u := by
        have e1 := hyy w hS
        have e2 := hy' w (.inr fun _ _ _ => rfl)
        unfold Yields at e1 e2
        rw [e1] at e2
        injection e2 with e2 _
        injection e2 with e2
        exact e2.symm
      subst he
      obtain ⟨sf', p1, p2, p5⟩ := hf.putM hv hk
      obtain ⟨st2, p3, p4⟩ := h.put hv' p1
      exact take i p listed a w o u' ho hfr hrd (.inl ⟨hw, hyy⟩) hS (ih _ _ _ _ _ _ hok (p5.trans hmf) p2 p4 hS hle hB p3 hn)
    | false =>
      rw [hw] at hk
      simp only at hk
      obtain ⟨sf', p1, p2, p5⟩ := hf.putM (v := .tup []) (u := undef) ⟨[], rfl, trivial⟩ hk
      obtain ⟨st2, p3, p4⟩ := h.put (v := .tup []) (u := undef) ⟨[], rfl, trivial⟩ p1
      exact take i p listed a w o undef ho hfr hrd (.inr ⟨hw, rfl⟩) hS (ih _ _ _ _ _ _ hok (p5.trans hmf) p2 p4 hS hle hB p3 hn)
  | reck i p ih =>
    intro listed sf st a w E hok hmf hf h hS hle hB hk hn
    simp only [VPlan.ok, Bool.and_eq_true] at hok
    obtain ⟨⟨hfr, hrd⟩, hok⟩ := hok
    unfold vPlan at hk
    obtain ⟨o, ho, hk⟩ := getK_is hk
    cases hwl : worldless o.op with
    | false => rw [hwl] at hk; exact hk.elim
    | true =>
      rw [hwl] at hk
      simp only [cond_true] at hk
      have hk := guard_is hk h
      cases hw : Region.wanted o (yielded ops.toArray a.tmps) with
      | true =>
        rw [hw] at hk
        simp only at hk
        obtain ⟨st1, v', u', hk, h, hv', hy'⟩ := reck_is hT h hwl hk
        obtain ⟨sf', p1, p2, p5⟩ := hf.putM (v := .one .undef) (u := u') trivial hk
        obtain ⟨st2, p3, p4⟩ := h.put hv' p1
        exact take i p listed a w o u' ho hfr hrd (.inl ⟨hw, fun w' _ => hy' w'⟩) hS (ih _ _ _ _ _ _ hok (p5.trans hmf) p2 p4 hS hle hB p3 hn)
      | false =>
        rw [hw] at hk
        simp only at hk
        obtain ⟨sf', p1, p2, p5⟩ := hf.putM (v := .one .undef) (u := undef) trivial hk
        obtain ⟨st2, p3, p4⟩ := h.put (v := .tup []) (u := undef) ⟨[], rfl, trivial⟩ p1
        exact take i p listed a w o undef ho hfr hrd (.inr ⟨hw, rfl⟩) hS (ih _ _ _ _ _ _ hok (p5.trans hmf) p2 p4 hS hle hB p3 hn)
  | one i p ih =>
    intro listed sf st a w E hok hmf hf h hS hle hB hk hn
    simp only [VPlan.ok, Bool.and_eq_true, beq_iff_eq] at hok
    obtain ⟨hrd, hok⟩ := hok
    refine ⟨fun h0 => (by rw [hrd] at h0; cases h0), fun j hj => ?_⟩
    rw [hrd] at hj
    obtain rfl : j = i := by simpa using hj
    exact step j p listed sf st a w E _ hmf hf h hS hle hB hk fun sf' st' a' w' E' q1 q2 q3 q4 q5 q6 q7 => ih _ _ _ _ _ _ hok q2 q3 q4 q5 q6 q7 q1 hn
  | two i j p q ihp ihq =>
    intro listed sf st a w E hok hmf hf h hS hle hB hk hn
    simp only [VPlan.ok, Bool.and_eq_true, beq_iff_eq] at hok
    obtain ⟨⟨⟨hrd, hl⟩, hok1⟩, hok2⟩ := hok
    refine ⟨fun h0 => (by rw [hrd] at h0; cases h0), fun k hk' => ?_⟩
    rw [hrd] at hk'
    simp only [List.mem_cons, List.not_mem_nil, or_false] at hk'
    rcases hk' with rfl | rfl
    · exact step k p listed sf st a w E _ hmf hf h hS hle hB hk.1 fun sf' st' a' w' E' q1 q2 q3 q4 q5 q6 q7 => ihp _ _ _ _ _ _ hok1 q2 q3 q4 q5 q6 q7 q1 hn
    · show wpOp P ops.toArray _ k (fun a' w' => _ ∧ wpAnyG P .any ops.toArray _ _ _ p.len _ a' w') a w
      rw [hl]
      exact step k q listed sf st a w E _ hmf hf h hS hle hB hk.2 fun sf' st' a' w' E' q1 q2 q3 q4 q5 q6 q7 => ihq _ _ _ _ _ _ hok2 q2 q3 q4 q5 q6 q7 q1 hn
  | three i j k p q r ihp ihq ihr =>
    intro listed sf st a w E hok hmf hf h hS hle hB hk hn
    simp only [VPlan.ok, Bool.and_eq_true, beq_iff_eq] at hok
    obtain ⟨⟨⟨⟨⟨hrd, hl⟩, hl2⟩, hok1⟩, hok2⟩, hok3⟩ := hok
    refine ⟨fun h0 => (by rw [hrd] at h0; cases h0), fun k' hk' => ?_⟩
    rw [hrd] at hk'
    simp only [List.mem_cons, List.not_mem_nil, or_false] at hk'
    rcases hk' with rfl | rfl | rfl
    · exact step k' p listed sf st a w E _ hmf hf h hS hle hB hk.1 fun sf' st' a' w' E' q1 q2 q3 q4 q5 q6 q7 => ihp _ _ _ _ _ _ hok1 q2 q3 q4 q5 q6 q7 q1 hn
    · show wpOp P ops.toArray _ k' (fun a' w' => _ ∧ wpAnyG P .any ops.toArray _ _ _ p.len _ a' w') a w
      rw [hl]
      exact step k' q listed sf st a w E _ hmf hf h hS hle hB hk.2.1 fun sf' st' a' w' E' q1 q2 q3 q4 q5 q6 q7 => ihq _ _ _ _ _ _ hok2 q2 q3 q4 q5 q6 q7 q1 hn
    · show wpOp P ops.toArray _ k' (fun a' w' => _ ∧ wpAnyG P .any ops.toArray _ _ _ p.len _ a' w') a w
      rw [hl2]
      exact step k' r listed sf st a w E _ hmf hf h hS hle hB hk.2.2 fun sf' st' a' w' E' q1 q2 q3 q4 q5 q6 q7 => ihr _ _ _ _ _ _ hok3 q2 q3 q4 q5 q6 q7 q1 hn
end
end Go.Proofs.YtjeiopkfdgllhaaGreat.V
