/- Operations that make and change memory. -/
import Derived.Test.YtpobngddiifdpaaGreatZdVRd
import Derived.ArgAppend
import Derived.Lib.AppendZerosOnto
import Derived.Laws.CopyRow
set_option linter.unusedSimpArgs false
set_option linter.unusedVariables false
namespace Go.Proofs.YtpobngddiifdpaaGreat.V
open Go Go.RowKit Go.Proofs.YtpobngddiifdpaaGreat.Hz

section
variable {X X' X0 : Nat → Prop} {w w' w0 : World} {E E' : Env} {as : Cx} {st : St} {a : Act} {P : Program} {T : Tab}

/-- What changed: only the blocks of these boxes. -/
def Wrote (E : Env) (mem : List (Nat × Box)) (ks : List Nat) (w w' : World) : Prop := w.heap.size ≤ w'.heap.size ∧ ∀ b, b < w.heap.size → (∀ k ∈ ks, ∀ bx, (k, bx) ∈ mem → E.live k = true → E.blk k ≠ b) → w'.heap[b]? = w.heap[b]?
theorem Wrote.fresh {mem : List (Nat × Box)} {ks : List Nat} (h : Below w.heap.size w w') : Wrote E mem ks w w' := ⟨h.size, fun b hb _ => h.block b hb⟩

/-- What is to be shown behind an operation. -/
def Goes (X0 : Nat → Prop) (w0 : World) (as : Cx) (E : Env) (mem : List (Nat × Box)) (ks : List Nat) (a : Act) (w : World) (K : St → SV → Prop) (n : Value → World → Prop) : Prop :=
  ∀ st' v u w' E', K st' v → RE X0 w0 as E' st' a w' → RV (own X0 E' st'.mem) w' E' u v → Wrote E mem ks w w' → n u w'
/-- Numbers of boxes that are changed count for nothing in what is asked of blocks. -/
def Cx.free (as : Cx) (ks : List Nat) : Prop := ∀ k ∈ ks, ∀ b, as.pr k b → ∀ d, as.pr d b

theorem fresh_mod {G : Nat → Prop} (h : Mod G w w') (hG : ∀ k, k < w.heap.size → ¬ G k) : Below w.heap.size w w' := ⟨h.os, h.tape, h.output, h.size, fun k hk => h.block k hk (hG k hk)⟩
theorem RE.belowUp (h : RE X0 w0 as E st a w) (hB : Below w.heap.size w w') : Below w0.heap.size w0 w' :=
  h.below.trans ⟨hB.os, hB.tape, hB.output, hB.size, fun k hk => hB.block k (Nat.lt_of_lt_of_le hk h.below.size)⟩

/-- A box of cells is made. -/
theorem newCells {K : St → Prop} {k g : Nat} {d : Option Tmp} {t : TypeId} {cs : List C} {us : List Value} (h : RE X0 w0 as E st a w) (hk : st.new k d (.cells t cs) K) (hB : Below w.heap.size w w') (h1 : w.heap.size ≤ g) (h2 : g < w'.heap.size)
    (hb : w'.heap[g]? = some (.cells us.toArray t (0, 0))) (hcs : RCs (own X0 E st.mem) w E us cs) :
    ∃ E' st', K st' ∧ RE X0 w0 as E' st' a w' ∧ RC (own X0 E' st'.mem) w' E' (.pointer (some ⟨g, 0, none⟩)) (.ptr k 0) := by
  obtain ⟨E', st', q1, q2, q3, q4, q5, q6, q7⟩ := RE.new (X1 := X0) (g := g) (v := undef) (l := true) h hk (h.belowUp hB) hB.size (fun b hb _ => hB.block b hb) (fun _ => ⟨.inr h1, Nat.le_trans h.below.size h1, h2⟩)
    (fun b hb => ⟨hb, fun _ e => by have := (h.apart b hb).1; omega⟩) (fun X' E'' hx hoff hag e1 e2 e3 _ _ => ⟨e3, us, by rw [e1]; exact hb, hcs.up hoff hx hag⟩)
  exact ⟨E', st', q1, q2, by show _ = _; rw [q3]⟩

/-- A row of one's own is made, in a new block. -/
theorem newRow {K : St → SV → Prop} {k g cap : Nat} {e : TypeId} {t : Ty} {l : List (Den t)} {cs : List Value} {cur : Array Value} (h : RE X0 w0 as E st a w) (hk : st.newRow k e t l K) (hB : Below w.heap.size w w') (h1 : w.heap.size ≤ g) (h2 : g < w'.heap.size)
    (hb : w'.heap[g]? = some (.cells cur e (0, 0))) (hch : Chunks (DC (own X0 E st.mem) w t) l cs) (hc : l.length ≤ cap) (hm : cap ≤ maxLen) (hs : cur.size = cap * t.size) (htk : cur.toList.take (l.length * t.size) = cs) :
    ∃ E' st' v, K st' v ∧ RE X0 w0 as E' st' a w' ∧ RV (own X0 E' st'.mem) w' E' (.slice (some ⟨g, 0, none⟩) l.length cap) v := by
  obtain ⟨E', st', q1, q2, q3, q4, q5, q6, q7⟩ := RE.new (X1 := X0) (g := g) (v := .slice (some ⟨g, 0, none⟩) l.length cap) (l := true) h hk (h.belowUp hB) hB.size (fun b hb _ => hB.block b hb) (fun _ => ⟨.inr h1, Nat.le_trans h.below.size h1, h2⟩)
    (fun b hb => ⟨hb, fun _ e => by have := (h.apart b hb).1; omega⟩) (fun X' E'' hx hoff hag e1 e2 e3 _ _ => by
      unfold RB
      rw [e3]
      exact ⟨[], cap, cur.toList, by rw [e2, e1]; rfl, by rw [e1, List.nil_append, Array.toArray_toList]; exact hb, hc, hm, by rw [Array.length_toList]; exact hs, by rw [htk]; exact hch.mono fun _ _ h => DC.up hoff hx h⟩)
  exact ⟨E', st', _, q1, q2, by show _ ∧ _; rw [q4]; exact ⟨rfl, rfl⟩⟩
/-- An empty row. -/
theorem newEmp {K : St → SV → Prop} {k : Nat} {e : TypeId} {t : Ty} {v : Value} (h : RE X0 w0 as E st a w) (hk : st.newRow k e t ([] : List (Den t)) K) (hB : Below w.heap.size w w') (hv : Emp (own X0 E st.mem) w v) :
    ∃ E' st' s, K st' s ∧ RE X0 w0 as E' st' a w' ∧ RV (own X0 E' st'.mem) w' E' v s := by
  obtain ⟨E', st', q1, q2, q3, q4, q5, q6, q7⟩ := RE.new (X1 := X0) (g := 0) (v := v) (l := false) h hk (h.belowUp hB) hB.size (fun b hb _ => hB.block b hb) (fun e => nomatch e)
    (fun b hb => ⟨hb, fun e => nomatch e⟩) (fun X' E'' hx hoff hag e1 e2 e3 _ _ => by
      unfold RB
      rw [e3, e2]
      exact ⟨hv.up hoff hx, rfl⟩)
  exact ⟨E', st', _, q1, q2, by
    show _ ∧ _; rw [q4]; refine ⟨rfl, ?_⟩
    obtain ⟨base, e⟩ := hv
    rw [e]; rfl⟩

/-! ### Data that is appended -/
theorem data_is {ty : Ty} {x : SV} {u : Value} {K : List (Den ty) → Prop} (h : RE X0 w0 as E st a w) (hx : RV (own X0 E st.mem) w E u x) (hk : dataK st ty x K) :
    ∃ l cs ad cap, K l ∧ u = .slice ad l.length cap ∧ Chunks (DC (own X0 E st.mem) w ty) l cs ∧ (ad = none → l = []) ∧ ∀ b, ad = some b → l ≠ [] → b.spot = none ∧ Row w b.block b.off cs := by
  unfold dataK at hk
  split at hk
  · rename_i ty' l c
    obtain ⟨e, hk⟩ := castK_is hk
    subst e
    obtain ⟨⟨cs, hsc, hch⟩, _⟩ := hx
    rcases hsc with (⟨e, h0, h1⟩ | ⟨b, o, c, e, _, _, _, _, hr⟩) | ⟨⟨ad, e⟩, h0, h1⟩
    · have : l = [] := List.eq_nil_of_length_eq_zero h0
      subst this
      exact ⟨[], cs, none, 0, hk, e, hch, fun _ => rfl, fun _ h => nomatch h⟩
    · exact ⟨l, cs, _, c, hk, e, hch, (fun h => nomatch h), fun b' hb _ => by injection hb with hb; subst hb; exact ⟨rfl, hr⟩⟩
    · have : l = [] := List.eq_nil_of_length_eq_zero h0
      subst this
      exact ⟨[], cs, some ad, 0, hk, e, hch, fun _ => rfl, fun _ _ h => absurd rfl h⟩
  · exact ⟨[], [], none, 0, hk, hx, rfl, fun _ => rfl, fun _ h => nomatch h⟩
  · obtain ⟨base, e⟩ := hx
    exact ⟨[], [], base, 0, hk, e, rfl, fun _ => rfl, fun _ _ h => absurd rfl h⟩
  · rename_i k
    obtain ⟨bx, hm, hk⟩ := findK_is hk
    have hr := h.mem k bx hm
    split at hk
    · rename_i e' ty' l
      obtain ⟨e, hk⟩ := castK_is hk
      subst e
      have hx : u = E.rv k := hx.1
      unfold RB at hr
      cases hl : E.live k with
      | false =>
        rw [hl] at hr
        obtain ⟨hr, rfl⟩ := hr
        obtain ⟨base, e⟩ := hr
        exact ⟨[], [], base, 0, hk, hx.trans e, rfl, fun _ => rfl, fun _ _ h => absurd rfl h⟩
      | true =>
        rw [hl] at hr
        obtain ⟨pre, cap, cur, e1, e2, e3, e4, e5, e6⟩ := hr
        exact ⟨l, _, _, cap, hk, hx.trans e1, e6, (fun h => nomatch h), fun b' hb _ => by injection hb with hb; subst hb; exact ⟨rfl, Row.takeL (row_body e2)⟩⟩
    · exact hk.elim
  · exact hk.elim

theorem wp_append_run {o : Oper} {n : Act → World → Prop} {Q : Exit → Act → World → Prop} {s x : Operand} {t : TypeId} {vs vx v' : Value} (ho : o.op = .call { callee := .builtin .append, args := #[s, x], argTypes := #[t, t] }) (hs : a.eval s = vs) (hx : a.eval x = vx)
    (hrun : (Builtin.append_ #[t, t] o.type #[vs, vx]).run P w = .ok v' w') (hk : n (a.put o.dst v') w') : o.wp P a w n Q := by
  unfold Oper.wp
  simp [execOp, ho, resolve, invoke, builtin, hs, hx, hrun, Result.andThen]
  exact hk
theorem run_append_zero {t ty e : TypeId} {i : TypeInfo} (ht : P.underlying t = some (.slice e)) (hi : P.info? e = some i) (base ad : Option Addr) (n cap c : Nat) (h : n ≤ cap) :
    (Builtin.append_ #[t, t] ty #[.slice base n cap, .slice ad 0 c]).run P w = .ok (.slice base n cap) w := by
  have hf : (Builtin.firstCells i.size 0 (.slice ad 0 c)).run P w = .ok #[] w := by
    cases ad with
    | none => simp [Builtin.firstCells]
    | some b =>
      have := run_firstCells_some (P := P) w i.size 0 b 0 c [] (by simp) (by simp)
      simpa using this
  cases base with
  | none => simp [Builtin.append_, run_underlying ht, sizeOf, typeInfo, hi, Builtin.lenOf, h, hf]
  | some b => simp [Builtin.append_, run_underlying ht, sizeOf, typeInfo, hi, Builtin.lenOf, h, hf, storeCells]
/-- It grows: into a new block. -/
theorem run_append_new {t ty e : TypeId} {size : Nat} (hok : cloneOk P t = some (e, size)) (base : Option Addr) (n cap : Nat) (olds : List Value) (hlo : olds.length = n * size) (holds : ∀ b, base = some b → olds ≠ [] → b.spot = none ∧ Row w b.block b.off olds) (hnone : base = none → n = 0 ∧ cap = 0)
    (b : Addr) (hb : b.spot = none) (m c : Nat) (news : List Value) (hl : news.length = m * size) (hnews : Row w b.block b.off news) (h1 : ∀ u ∈ news, u.oneCell' = true) (hg : cap < n + m) (hm : n + m ≤ mostElems) :
    ∃ v' w', (Builtin.append_ #[t, t] ty #[.slice base n cap, .slice (some b) m c]).run P w = .ok v' w' ∧ w'.ownsRow w.heap.size e size v' (n + m) (olds ++ news) ∧ Below w.heap.size w w' := by
  obtain ⟨i, z, c1, c2, c3, c4, c5, c6, c7⟩ := cloneOk_is hok
  have hbytes : (n + m) * i.bytes ≤ 140737488355328 := by
    have := Nat.mul_le_mul hm c7
    unfold mostElems at this
    omega
  have h63 : n + m ≤ maxLen := by unfold mostElems at hm; unfold maxLen; omega
  have hcell : ∀ j u, news[j]? = some u → w.cell? (b.add j) = some u := fun j u hj => by
    obtain ⟨bb, bo, bs⟩ := b
    simp only at hb hnews
    subst hb
    rw [Addr.add_lit]
    exact hnews j u hj
  cases base with
  | none =>
    obtain ⟨rfl, rfl⟩ := hnone rfl
    obtain rfl : olds = [] := List.eq_nil_of_length_eq_zero (by simpa using hlo)
    obtain ⟨v', w', hrun, r1, r2, _⟩ := run_append_own (P := P) w w.heap.size t ty e i z size i.bytes c1 c2 c3 c4 rfl c5 c6 (.slice none 0 0) 0 [] (World.ownsRow_nil w _ e size) b m c news hl hcell h1 h63 hbytes (Nat.le_refl _)
    exact ⟨v', w', hrun, r1, ⟨r2.os, r2.tape, r2.output, r2.size, fun k hk => r2.block k hk (by simp [Value.ownBlock])⟩⟩
  | some bs =>
    obtain ⟨v', w', hrun, r1, r2⟩ := run_append_arg_grows (P := P) w t ty e i z size i.bytes c1 c2 c3 c4 rfl c5 c6 bs n cap olds hlo (fun j u hj => by
      obtain ⟨hs, hr⟩ := holds bs rfl (fun e => by rw [e] at hj; cases hj)
      obtain ⟨bb, bo, bsp⟩ := bs
      simp only at hs hr
      subst hs
      rw [Addr.add_lit]
      exact hr j u hj) b m c news hl hcell hg h63 hbytes
    exact ⟨v', w', hrun, r1, ⟨r2.os, r2.tape, r2.output, r2.size, fun k hk => r2.block k hk (by simp)⟩⟩
/-- An own row out of what an append gives. -/
theorem newRowOwns {K : St → SV → Prop} {k n : Nat} {e : TypeId} {t : Ty} {l : List (Den t)} {cs : List Value} {v : Value} (h : RE X0 w0 as E st a w) (hk : st.newRow k e t l K) (hB : Below w.heap.size w w') (hown : w'.ownsRow w.heap.size e t.size v n cs)
    (hn : n = l.length) (hp : 0 < n) (hch : Chunks (DC (own X0 E st.mem) w t) l cs) :
    ∃ E' st' s, K st' s ∧ RE X0 w0 as E' st' a w' ∧ RV (own X0 E' st'.mem) w' E' v s := by
  obtain ⟨g, cap, cur, rfl, hg1, hg2, hg3, hg4, hg5, hg6, hg7⟩ := own_ptr hown hp
  subst hn
  exact newRow h hk hB hg1 hg2 hg3 hch hg4 hg5 hg6 hg7

/-- Onto an empty slice. -/
theorem append_emp {o : Oper} {n : Act → World → Prop} {Q : Exit → Act → World → Prop} {kd : Nat} {s x : Operand} {t e : TypeId} {ty : Ty} {K : St → SV → Prop} {v : Value} {ys : List (Den ty)} {news : List Value} {ad : Option Addr} {cx : Nat} (hok : cloneOk P t = some (e, ty.size)) (ho : o.op = .call { callee := .builtin .append, args := #[s, x], argTypes := #[t, t] })
    (h : RE X0 w0 as E st a w) (ev : a.eval s = v) (hv : Emp (own X0 E st.mem) w v) (ex : a.eval x = .slice ad ys.length cx) (hch : Chunks (DC (own X0 E st.mem) w ty) ys news) (hnil : ad = none → ys = []) (hrow : ∀ b, ad = some b → ys ≠ [] → b.spot = none ∧ Row w b.block b.off news)
    (hmx : ys.length ≤ mostElems) (hk : st.newRow kd e ty ys K) (hn : ∀ st' v u w' E', K st' v → RE X0 w0 as E' st' a w' → RV (own X0 E' st'.mem) w' E' u v → Below w.heap.size w w' → n (a.put o.dst u) w') : o.wp P a w n Q := by
  obtain ⟨i, z, c1, c2, c3, c4, c5, c6, c7⟩ := cloneOk_is hok
  have hnl : news.length = ys.length * ty.size := Chunks.length ty.size (fun _ _ h => DC.len h) hch
  have hn1 := chunks_one hch
  have hv2 : ∃ base, v = .slice base 0 0 := hv
  obtain ⟨base, hbase⟩ := hv2
  by_cases hy : ys = []
  · subst hy
    obtain ⟨E', st', sv, q1, q2, q3⟩ := newEmp h hk (Below.refl _ w) hv
    have hrun := run_append_zero (P := P) (w := w) (ty := o.type) c1 c2 base ad 0 0 cx (Nat.le_refl _)
    exact wp_append_run ho (ev.trans hbase) ex hrun (hbase ▸ hn st' sv v w E' q1 q2 q3 (Below.refl _ w))
  · have hpos : 0 < ys.length := List.length_pos_iff.2 hy
    cases ad with
    | none => exact absurd (hnil rfl) hy
    | some bx =>
      obtain ⟨hsp, hr⟩ := hrow bx rfl hy
      obtain ⟨v', w', hrun, hown, hB⟩ := run_append_new (P := P) (w := w) (ty := o.type) hok base 0 0 [] (by simp) (fun bb hbb h => absurd rfl h) (fun _ => ⟨rfl, rfl⟩) bx hsp ys.length cx news hnl hr hn1 (by omega) (by omega)
      rw [Nat.zero_add, List.nil_append] at hown
      obtain ⟨E', st', sv, q1, q2, q3⟩ := newRowOwns h hk hB hown rfl hpos hch
      exact wp_append_run ho (ev.trans hbase) ex hrun (hn st' sv v' w' E' q1 q2 q3 hB)
theorem spliced_pre {pre cur vs : List Value} {o : Nat} : spliced (pre ++ cur).toArray (pre.length + o) vs = (pre ++ (cur.take o ++ (vs ++ cur.drop (o + vs.length)))).toArray := by
  unfold spliced
  rw [List.toList_toArray, List.take_length_add_append, Nat.add_assoc, List.drop_length_add_append, List.append_assoc]
/-- A row of one's own in a block that was one's own till now. -/
theorem newRowOld {X1 : Nat → Prop} {K : St → SV → Prop} {k g cap : Nat} {e : TypeId} {t : Ty} {l : List (Den t)} {pre cur : List Value} (h : RE X1 w0 as E st a w) (hk : st.newRow k e t l K)
    (hB : Below w0.heap.size w0 w') (hsz : w.heap.size ≤ w'.heap.size) (hold : ∀ b, b < w.heap.size → b ≠ g → w'.heap[b]? = w.heap[b]?) (hg1 : X1 g) (hpr : as.pr k g) (hg2 : w0.heap.size ≤ g) (hX : ∀ b, X0 b → X1 b ∧ b ≠ g)
    (hb : w'.heap[g]? = some (.cells (pre ++ cur).toArray e (0, 0))) (hch : Chunks (DC (own X1 E st.mem) w t) l (cur.take (l.length * t.size))) (hc : l.length ≤ cap) (hm : cap ≤ maxLen) (hs : cur.length = cap * t.size) :
    ∃ E' st' v, K st' v ∧ RE X0 w0 as E' st' a w' ∧ RV (own X0 E' st'.mem) w' E' (.slice (some ⟨g, pre.length, none⟩) l.length cap) v := by
  obtain ⟨E', st', q1, q2, q3, q4, q5, q6, q7⟩ := RE.new (X1 := X0) (g := g) (v := .slice (some ⟨g, pre.length, none⟩) l.length cap) (l := true) h hk hB hsz (fun b hb hne => hold b hb (hne.resolve_right fun e => nomatch e)) (fun _ => ⟨.inl ⟨hg1, hpr⟩, hg2, (Array.getElem?_eq_some_iff.1 hb).1⟩)
    (fun b hb => ⟨(hX b hb).1, fun _ => (hX b hb).2⟩) (fun X' E'' hx hoff hag e1 e2 e3 _ _ => by
      unfold RB
      rw [e3]
      exact ⟨pre, cap, cur, by rw [e2, e1], by rw [e1]; exact hb, hc, hm, hs, hch.mono fun _ _ h => DC.up hoff hx h⟩)
  exact ⟨E', st', _, q1, q2, by show _ ∧ _; rw [q4]; exact ⟨rfl, rfl⟩⟩

theorem append_is {o : Oper} {n : Act → World → Prop} {Q : Exit → Act → World → Prop} {b : Nat} {s x : Operand} {t : TypeId} {K : St → SV → Prop} {vs vx : SV} (hT : T.ok P) (ho : o.op = .call { callee := .builtin .append, args := #[s, x], argTypes := #[t, t] })
    (h : RE X0 w0 as E st a w) (hs : RV (own X0 E st.mem) w E (a.eval s) vs) (hx : RV (own X0 E st.mem) w E (a.eval x) vx) (hk : appendK T b o.dst t st vs vx K)
    (hpr : as.free (appendsOf vs)) (hn : Goes X0 w0 as E st.mem (appendsOf vs) a w K fun u w' => n (a.put o.dst u) w') : o.wp P a w n Q := by
  unfold appendK at hk
  split at hk
  · rename_i e hkd
    split at hk
    · rename_i d hd
      split at hk
      · rename_i ty hty
        have hok := tab_clone hT hkd hty
        obtain ⟨i, z, c1, c2, c3, c4, c5, c6, c7⟩ := cloneOk_is hok
        obtain ⟨ys, news, ad, cx, hk, ex, hch, hnil, hrow⟩ := data_is h hx hk
        have hnl : news.length = ys.length * ty.size := Chunks.length ty.size (fun _ _ h => DC.len h) hch
        have hn1 := chunks_one hch
        split at hk
        · exact append_emp hok ho h rfl hs ex hch hnil hrow hk.1 hk.2 fun st' v u w' E' q1 q2 q3 q4 => hn st' v u w' E' q1 q2 q3 (Wrote.fresh q4)
        · exact append_emp hok ho h rfl ⟨_, hs⟩ ex hch hnil hrow hk.1 hk.2 fun st' v u w' E' q1 q2 q3 q4 => hn st' v u w' E' q1 q2 q3 (Wrote.fresh q4)
        · rename_i ty' l c _
          split at hk
          · obtain ⟨ee, hk⟩ := castK_is hk
            subst ee
            obtain ⟨⟨hmx, hne⟩, hk⟩ := hk
            obtain ⟨⟨cs, hsc, hchs⟩, hclip⟩ := hs
            obtain ⟨ads, es⟩ := hclip rfl
            have hpos : 0 < ys.length := List.length_pos_iff.2 hne
            cases ad with
            | none => exact absurd (hnil rfl) hne
            | some bx =>
              obtain ⟨hsp, hr⟩ := hrow bx rfl hne
              have hls : cs.length = l.length * ty'.size := Chunks.length ty'.size (fun _ _ h => DC.len h) hchs
              rw [es] at hsc
              obtain ⟨v', w', hrun, hown, hB⟩ := run_append_new (P := P) (w := w) (ty := o.type) hok ads l.length l.length cs hls (fun bb hbb hne0 => by
                rcases hsc with (⟨e, _⟩ | ⟨b0, o0, c0, e, _, _, _, _, hr0⟩) | ⟨_, _, h1⟩
                · rw [hbb] at e; injection e with e; cases e
                · rw [hbb] at e; injection e with e; injection e with e; subst e; exact ⟨rfl, hr0⟩
                · exact absurd h1 hne0) (fun hnn => by
                rcases hsc with (⟨e, h0, _⟩ | ⟨b0, o0, c0, e, _⟩) | ⟨_, h0, _⟩
                · exact ⟨h0, h0⟩
                · rw [hnn] at e; injection e with e; cases e
                · exact ⟨h0, h0⟩) bx hsp ys.length cx news hnl hr hn1 (by omega) hmx
              obtain ⟨E', st', sv, q1, q2, q3⟩ := newRowOwns h hk hB hown (by rw [List.length_append]) (by omega) (hchs.append hch)
              exact wp_append_run ho es ex hrun (hn st' sv v' w' E' q1 q2 q3 (Wrote.fresh hB))
          · exact hk.elim
        · rename_i k _
          obtain ⟨bx, hm, hk⟩ := findK_is hk
          have hr := h.mem k bx hm
          split at hk
          · rename_i e' ty' l
            cases hee : Nat.beq e' e with
            | false => rw [hee] at hk; exact hk.elim
            | true =>
              rw [hee] at hk
              have hee := beq_of hee
              subst hee
              obtain ⟨ee, hk⟩ := castK_is hk
              subst ee
              obtain ⟨hmx, hk⟩ := hk
              have hev : a.eval s = E.rv k := hs.1
              unfold RB at hr
              cases hl : E.live k with
              | false =>
                rw [hl] at hr
                obtain ⟨hr, rfl⟩ := hr
                obtain ⟨st1, hk, h1, hown1, _⟩ := h.drop (X1 := X0) hm hk (fun b hb => .inl hb) (fun _ _ _ => trivial)
                rw [List.nil_append] at hk
                exact append_emp hok ho h1 hev (hr.up (Off.refl _ _) fun b _ hx => hown1 b hx) ex (hch.mono fun _ _ h => DC.up (Off.refl _ _) (fun b _ hx => hown1 b hx) h) hnil hrow (by simpa using hmx) hk
                  fun st' v u w' E' q1 q2 q3 q4 => hn st' v u w' E' q1 q2 q3 (Wrote.fresh q4)
              | true =>
                rw [hl] at hr
                obtain ⟨pre, cap, cur, e1, e2, e3, e4, e5, e6⟩ := hr
                have hg := h.place k _ hm hl
                by_cases hroom : l.length + ys.length ≤ cap
                · -- in place
                  obtain ⟨st1, hk, h1, hown1, _⟩ := h.drop (X1 := fun b => X0 b ∨ b = E.blk k) hm hk (fun b hb => hb.elim .inl fun e => .inr ⟨hl, e⟩) (fun _ _ _ => trivial)
                  have hnl : news.length = ys.length * ty'.size := Chunks.length ty'.size (fun _ _ h => DC.len h) hch
                  have hX : ∀ b, X0 b → (X0 b ∨ b = E.blk k) ∧ b ≠ E.blk k := fun b hb => ⟨.inl hb, fun e => own_of_mem h hm hl (e ▸ hb)⟩
                  by_cases hy : ys = []
                  · subst hy
                    have hrun := run_append_zero (P := P) (w := w) (ty := o.type) c1 c2 (some ⟨E.blk k, pre.length, none⟩) ad l.length cap cx e3
                    rw [List.append_nil] at hk
                    obtain ⟨E', st', sv, q1, q2, q3⟩ := newRowOld (X0 := X0) (w' := w) h1 hk h1.below (Nat.le_refl _) (fun _ _ _ => rfl) (.inr rfl) (hpr k (by simp [appendsOf]) _ (h.prot k _ hm hl) _) hg.1 hX e2 (e6.mono fun _ _ h => DC.up (Off.refl _ _) (fun b _ hx => hown1 b hx) h) e3 e4 e5
                    exact wp_append_run ho (hev.trans e1) ex hrun (hn st' sv _ w E' q1 q2 q3 (Wrote.fresh (Below.refl _ w)))
                  · cases ad with
                    | none => exact absurd (hnil rfl) hy
                    | some bx =>
                      obtain ⟨hsp, hr⟩ := hrow bx rfl hy
                      obtain ⟨bb, bo, bs⟩ := bx
                      simp only at hsp hr
                      subst hsp
                      have hfit : l.length * ty'.size + news.length ≤ cur.length := by
                        rw [hnl, e5, ← Nat.add_mul]
                        exact Nat.mul_le_mul_right _ hroom
                      have hcs : pre.length + l.length * ty'.size + news.length ≤ (pre ++ cur).toArray.size := by rw [List.size_toArray, List.length_append]; omega
                      have hth := box_there e2 (pre.length + l.length * ty'.size) news.length hcs
                      have hrun := run_append_room_cells (P := P) w t o.type e' i c1 c2 (E.blk k) pre.length l.length cap ⟨bb, bo, none⟩ ys.length cx news (by rw [c4]; exact hnl) (fun j u hj => by rw [Addr.add_lit]; exact hr j u hj) (chunks_one hch) hroom (by rw [c4]; exact fun j hj => (hth j hj).1) (by rw [c4]; exact fun j hj => (hth j hj).2)
                      rw [c4] at hrun
                      have hw' := box_store e2 (pre.length + l.length * ty'.size) news hcs
                      rw [spliced_pre] at hw'
                      have hO := Only.setCells w (E.blk k) (pre.length + l.length * ty'.size) news
                      generalize w.setCells (E.blk k) (pre.length + l.length * ty'.size) news = w2 at hrun hw' hO
                      generalize hcur' : cur.take (l.length * ty'.size) ++ (news ++ cur.drop (l.length * ty'.size + news.length)) = cur' at hw'
                      have hcl : (cur.take (l.length * ty'.size)).length = l.length * ty'.size := by
                        rw [List.length_take]; omega
                      have htake : cur'.take ((l ++ ys).length * ty'.size) = cur.take (l.length * ty'.size) ++ news := by
                        rw [← hcur', List.length_append, Nat.add_mul, ← hnl, ← List.append_assoc]
                        rw [List.take_append_of_le_length (by rw [List.length_append, hcl]; exact Nat.le_refl _)]
                        exact List.take_of_length_le (by rw [List.length_append, hcl]; exact Nat.le_refl _)
                      have hsize : cur'.length = cap * ty'.size := by
                        rw [← e5, ← hcur', List.length_append, List.length_append, hcl, List.length_drop]
                        omega
                      have hB : Below w0.heap.size w0 w2 := h.below.trans ⟨hO.os, hO.tape, hO.output, by rw [hO.size]; exact Nat.le_refl _, fun b hb => hO.block b fun e => by have := hg.1; omega⟩
                      have hch2 : Chunks (DC (own (fun b => X0 b ∨ b = E.blk k) E st1.mem) w ty') (l ++ ys) (cur'.take ((l ++ ys).length * ty'.size)) := by
                        rw [htake]
                        exact (e6.append hch).mono fun _ _ h => DC.up (Off.refl _ _) (fun b _ hx => hown1 b hx) h
                      obtain ⟨E', st', sv, q1, q2, q3⟩ := newRowOld (X0 := X0) (w' := w2) (cap := cap) h1 hk hB (by rw [hO.size]; exact Nat.le_refl _) (fun b _ hne => hO.block b hne) (.inr rfl) (hpr k (by simp [appendsOf]) _ (h.prot k _ hm hl) _) hg.1 hX hw' hch2 (by rw [List.length_append]; exact hroom) e4 hsize
                      rw [List.length_append] at q3
                      exact wp_append_run ho (hev.trans e1) ex hrun (hn st' sv _ _ E' q1 q2 q3 ⟨by rw [hO.size]; exact Nat.le_refl _, fun b hb hb2 => hO.block b fun e => hb2 k (by simp [appendsOf]) _ hm hl e.symm⟩)
                · -- into a new block
                  obtain ⟨st1, hk, h1, hown1, _⟩ := h.drop (X1 := X0) hm hk (fun b hb => .inl hb) (fun _ _ _ => trivial)
                  have hpos : 0 < ys.length := by omega
                  have hnl : news.length = ys.length * ty'.size := Chunks.length ty'.size (fun _ _ h => DC.len h) hch
                  have hls : (cur.take (l.length * ty'.size)).length = l.length * ty'.size := Chunks.length ty'.size (fun _ _ h => DC.len h) e6
                  cases ad with
                  | none => have := hnil rfl; subst this; simp at hpos
                  | some bx =>
                    obtain ⟨hsp, hr⟩ := hrow bx rfl (List.length_pos_iff.1 hpos)
                    obtain ⟨v', w', hrun, hown, hB⟩ := run_append_new (P := P) (w := w) (ty := o.type) hok (some ⟨E.blk k, pre.length, none⟩) l.length cap _ hls (fun bb hbb _ => by
                      injection hbb with hbb; subst hbb; exact ⟨rfl, Row.takeL (row_body e2)⟩) (fun e => nomatch e) bx hsp ys.length cx news hnl hr (chunks_one hch) (by omega) hmx
                    obtain ⟨E', st', sv, q1, q2, q3⟩ := newRowOwns h1 hk hB hown (by rw [List.length_append]) (by omega) ((e6.append hch).mono fun _ _ h => DC.up (Off.refl _ _) (fun b _ hx => hown1 b hx) h)
                    exact wp_append_run ho (hev.trans e1) ex hrun (hn st' sv v' w' E' q1 q2 q3 (Wrote.fresh hB))
          · exact hk.elim
        · exact hk.elim
      · exact hk.elim
    · exact hk.elim
  · exact hk.elim

theorem spliced_is {vs us : List Value} {cs ds : List C} {off : Nat} (hcs : RCs X w E vs cs) (hds : RCs X w E us ds) (_hl : off + ds.length ≤ cs.length) :
    RCs X w E (vs.take off ++ (us ++ vs.drop (off + us.length))) (cs.take off ++ (ds ++ cs.drop (off + ds.length))) :=
  (hcs.take off).append (hds.append (by rw [hds.len]; exact hcs.drop _))
theorem no_undef {cs : List C} {us : List Value} (h : RCs X w E us cs) (hu : anyC C.isUndef cs = false) : ∀ u ∈ us, u.oneCell' = true := by
  intro u hu'
  obtain ⟨i, hi, rfl⟩ := List.getElem_of_mem hu'
  have hi2 : i < cs.length := by rw [← h.len]; exact hi
  obtain ⟨v, hv, hr⟩ := h.at (List.getElem?_eq_getElem hi2)
  rw [List.getElem?_eq_getElem hi] at hv
  obtain rfl := Option.some.inj hv
  refine RC.one hr fun e => ?_
  have : anyC C.isUndef cs = true := anyC_iff.2 ⟨cs[i], List.getElem_mem hi2, by rw [e]; rfl⟩
  rw [hu] at this; cases this
/-- Cells are stored into a block that is known whole. -/
theorem wp_store_cells {o : Oper} {n : Act → World → Prop} {Q : Exit → Act → World → Prop} {t : TypeId} {x y : Operand} {g off : Nat} {us : List Value} {u : Value} {cs : Array Value} {e : TypeId} (ho : o.op = .store t x y) (hx : a.eval x = .pointer (some ⟨g, off, none⟩)) (hy : a.eval y = u) (hu : u.cells = us.toArray)
    (hB : w.heap[g]? = some (.cells cs e (0, 0))) (hl : off + us.length ≤ cs.size) (hi : (P.info? t).map (·.size) = some us.length) (h1 : ∀ u ∈ us, u.oneCell' = true)
    (h : ∀ w', w'.heap[g]? = some (.cells (cs.toList.take off ++ (us ++ cs.toList.drop (off + us.length))).toArray e (0, 0)) → Only g w w' → n (a.put o.dst undef) w') : o.wp P a w n Q := by
  have ht := box_there hB off us.length hl
  have hk := h (w.setCells g off us) (box_store hB off us hl) (Only.setCells w g off _)
  have hst := run_storeCells_cells (P := P) g off us 0 w (fun j hj => by simpa using (ht j (by simpa using hj)).1) (fun j hj => by simpa using (ht j (by simpa using hj)).2) h1
  have hrun : (storeVar t ⟨g, off, none⟩ u).run P w = Result.ok () (w.setCells g off us) := by
    cases hq : P.info? t with
    | none => simp [hq] at hi
    | some i =>
      have hs : i.size = us.length := by simpa [hq] using hi
      simp only [Nat.add_zero] at hst
      simp [storeVar, sizeOf, typeInfo, hq, hu, hs, hst]
  unfold Oper.wp execOp
  simp only [ho, hx, hy, Instr.storeAt, Instr.sureAddr, Sem.run_bind, Sem.run_pure, Result.andThen_ok, hrun]
  exact hk

/-- Cells of data: own rows are made data. -/
theorem freeze0_is {c : C} {u : Value} {K : St → C → Prop} (h : RE X0 w0 as E st a w) (hu : RC (own X0 E st.mem) w E u c) (hk : freezeK0 st c K) :
    ∃ st' c', K st' c' ∧ RE X0 w0 as E st' a w ∧ RC (own X0 E st'.mem) w E u c' ∧ (∀ b, own X0 E st'.mem b → own X0 E st.mem b) ∧ (c.isUndef = false → c'.isUndef = false) ∧ (∀ j bj, (j, bj) ∈ st'.mem → ∃ b, (j, b) ∈ st.mem) := by
  unfold freezeK0 at hk
  split at hk
  · rename_i k
    obtain ⟨bx, hm, hk⟩ := findK_is hk
    have hr := h.mem k bx hm
    split at hk
    · rename_i e t l
      have hd : ∀ X', (∀ b, X' b → own X0 E st.mem b) → (E.live k = true → X' (E.blk k) → X0 (E.blk k)) → RC X' w E (E.rv k) (.sl t l false) := fun X' hx hlive => by
        refine ⟨?_, fun e => nomatch e⟩
        unfold RB at hr
        cases hl : E.live k with
        | false =>
          rw [hl] at hr
          obtain ⟨hr, rfl⟩ := hr
          obtain ⟨base, e⟩ := hr
          rw [e]; exact ⟨[], SX.empty, rfl⟩
        | true =>
          rw [hl] at hr
          obtain ⟨pre, cap, cur, e1, e2, e3, e4, e5, e6⟩ := hr
          exact ⟨_, .inl (.inr ⟨E.blk k, pre.length, cap, e1, fun hb => own_of_mem h hm hl (hlive hl hb), (Array.getElem?_eq_some_iff.1 e2).1, e3, e4, Row.takeL (row_body e2)⟩), e6.mono fun _ _ h => DC.up (Off.refl _ _) (fun b _ hb => hx b hb) h⟩
      obtain ⟨st', hk, h1, h2, h3, _, h5, h4⟩ := h.drop (X1 := X0) hm hk (fun b hb => .inl hb) hd
      exact ⟨st', _, hk, h1, by rw [show u = E.rv k from hu.1]; exact h4, h2, (fun _ => rfl), fun j bj hj => (h5 (j, bj) hj).elim fun b hb => ⟨b, hb.1⟩⟩
    · exact hk.elim
  · exact ⟨st, c, hk, h, hu, fun _ hb => hb, (fun hc => hc), fun j bj hj => ⟨bj, hj⟩⟩

theorem RC.less {X X' : Nat → Prop} {u : Value} {c : C} (h : RC X w E u c) (hX : ∀ b, X' b → X b) : RC X' w E u c := h.up (Off.refl _ _) (fun b _ hx => hX b hx) fun _ _ => ⟨rfl, rfl⟩
theorem RCs.less {X X' : Nat → Prop} {us : List Value} {cs : List C} (h : RCs X w E us cs) (hX : ∀ b, X' b → X b) : RCs X' w E us cs := h.up (Off.refl _ _) (fun b _ hx => hX b hx) fun _ _ => ⟨rfl, rfl⟩
theorem RV.less {X X' : Nat → Prop} {u : Value} {c : SV} (h : RV X w E u c) (hX : ∀ b, X' b → X b) : RV X' w E u c := h.up (Off.refl _ _) (fun b _ hx => hX b hx) fun _ _ => ⟨rfl, rfl⟩
theorem anyC_undef_cons {c : C} {cs : List C} : anyC C.isUndef (c :: cs) = false ↔ c.isUndef = false ∧ anyC C.isUndef cs = false := by
  rw [anyC_cons]; simp
theorem freezeL0_is : ∀ {cs : List C} {us : List Value} {st : St} {K : St → List C → Prop}, RE X0 w0 as E st a w → RCs (own X0 E st.mem) w E us cs → freezeL0 st cs K →
    ∃ st' cs', K st' cs' ∧ RE X0 w0 as E st' a w ∧ RCs (own X0 E st'.mem) w E us cs' ∧ (∀ b, own X0 E st'.mem b → own X0 E st.mem b) ∧ (anyC C.isUndef cs = false → anyC C.isUndef cs' = false) ∧ (∀ j bj, (j, bj) ∈ st'.mem → ∃ b, (j, b) ∈ st.mem)
  | [], [], st, K, h, _, hk => ⟨st, [], hk, h, trivial, fun _ hb => hb, (fun h => h), fun j bj hj => ⟨bj, hj⟩⟩
  | c :: cs, u :: us, st, K, h, hu, hk => by
    unfold freezeL0 at hk
    obtain ⟨st1, c', hk, h1, h2, h3, h4, h5⟩ := freeze0_is h hu.1 hk
    obtain ⟨st2, cs', hk, g1, g2, g3, g4, g5⟩ := freezeL0_is (cs := cs) h1 (hu.2.less h3) hk
    exact ⟨st2, c' :: cs', hk, g1, ⟨h2.less g3, g2⟩, fun b hb => h3 b (g3 b hb), (fun hc => anyC_undef_cons.2 ⟨h4 (anyC_undef_cons.1 hc).1, g4 (anyC_undef_cons.1 hc).2⟩), fun j bj hj => (g5 j bj hj).elim fun b hb => h5 j b hb⟩
  | [], _ :: _, _, _, _, hu, _ => hu.elim
  | _ :: _, [], _, _, _, hu, _ => hu.elim
/-- Cells of data: own rows are made data. -/
theorem freeze_is {c : C} {u : Value} {K : St → C → Prop} (h : RE X0 w0 as E st a w) (hu : RC (own X0 E st.mem) w E u c) (hk : freezeK st c K) :
    ∃ st' c', K st' c' ∧ RE X0 w0 as E st' a w ∧ RC (own X0 E st'.mem) w E u c' ∧ (∀ b, own X0 E st'.mem b → own X0 E st.mem b) ∧ (c.isUndef = false → c'.isUndef = false) ∧ (∀ j bj, (j, bj) ∈ st'.mem → ∃ b, (j, b) ∈ st.mem) := by
  unfold freezeK at hk
  split at hk
  · rename_i k
    obtain ⟨bx, hm, hk⟩ := findK_is hk
    have hr := h.mem k bx hm
    split at hk
    · rename_i e t l
      have hd : ∀ X', (∀ b, X' b → own X0 E st.mem b) → (E.live k = true → X' (E.blk k) → X0 (E.blk k)) → RC X' w E (E.rv k) (.sl t l false) := fun X' hx hlive => by
        refine ⟨?_, fun e => nomatch e⟩
        unfold RB at hr
        cases hl : E.live k with
        | false =>
          rw [hl] at hr
          obtain ⟨hr, rfl⟩ := hr
          obtain ⟨base, e⟩ := hr
          rw [e]; exact ⟨[], SX.empty, rfl⟩
        | true =>
          rw [hl] at hr
          obtain ⟨pre, cap, cur, e1, e2, e3, e4, e5, e6⟩ := hr
          exact ⟨_, .inl (.inr ⟨E.blk k, pre.length, cap, e1, fun hb => own_of_mem h hm hl (hlive hl hb), (Array.getElem?_eq_some_iff.1 e2).1, e3, e4, Row.takeL (row_body e2)⟩), e6.mono fun _ _ h => DC.up (Off.refl _ _) (fun b _ hb => hx b hb) h⟩
      obtain ⟨st', hk, h1, h2, h3, _, h5, h4⟩ := h.drop (X1 := X0) hm hk (fun b hb => .inl hb) hd
      exact ⟨st', _, hk, h1, by rw [show u = E.rv k from hu.1]; exact h4, h2, (fun _ => rfl), fun j bj hj => (h5 (j, bj) hj).elim fun b hb => ⟨b, hb.1⟩⟩
    · rename_i e t l i cs
      obtain ⟨hl, pre, cap, cur, us, c1, c3, e1, e2, e3, e4, e5, e6, e7, e8, e9, e10, e11, e12⟩ := hr
      obtain ⟨st1, cs', hk, h1, hcs', hsub, _, hback⟩ := freezeL0_is h e10 hk
      obtain ⟨y, rest, d1, d2, r1, r2, r3, hk⟩ := unflatK_is hk hcs'
      split at hk
      · have hd2 : d2 = [] := by
          cases d2 with
          | nil => rfl
          | cons => exact r3.elim
        subst hd2
        rw [List.append_nil] at r1
        subst r1
        obtain ⟨bx1, hm1, hk⟩ := findK_is hk
        have hch : ∀ X', (∀ b, X' b → own X0 E st1.mem b) → Chunks (DC X' w t) (l.set i y) (cur.take ((l.set i y).length * t.size)) := fun X' hx => by
          rw [List.length_set, e7]
          exact Chunks.set (x' := y) (e11.mono fun _ _ h => DC.up (Off.refl _ _) (fun b _ hb => hsub b (hx b hb)) h) (DC.up (Off.refl _ _) (fun b _ hb => hx b hb) r2) (e12.mono fun _ _ h => DC.up (Off.refl _ _) (fun b _ hb => hsub b (hx b hb)) h) e6
        obtain ⟨st2, hk, h2, hsub2, hm2, hback2⟩ := h1.boxM (w' := w) hm1 hl hk h1.below (Nat.le_refl _) (fun _ _ _ => rfl) (fun X' hx _ => by
          unfold RB
          rw [hl]
          exact ⟨pre, cap, cur, by rw [List.length_set]; exact e1, e2, by rw [List.length_set]; exact e3, e4, e5, hch X' hx⟩)
        have hd : ∀ X', (∀ b, X' b → own X0 E st2.mem b) → (E.live k = true → X' (E.blk k) → X0 (E.blk k)) → RC X' w E (E.rv k) (.sl t (l.set i y) false) := fun X' hx hlive =>
          ⟨⟨_, .inl <| .inr ⟨E.blk k, pre.length, cap, by rw [List.length_set]; exact e1, fun hb => own_of_mem h hm hl (hlive hl hb), (Array.getElem?_eq_some_iff.1 e2).1, by rw [List.length_set]; exact e3, e4, Row.takeL (row_body e2)⟩, hch X' fun b hb => hsub2 b (hx b hb)⟩, fun e => nomatch e⟩
        obtain ⟨st', hk, g1, g2, g3, _, g5, g4⟩ := h2.drop (X1 := X0) hm2 hk (fun b hb => .inl hb) hd
        exact ⟨st', _, hk, g1, by rw [show u = E.rv k from hu.1]; exact g4, fun b hb => hsub b (hsub2 b (g2 b hb)), (fun _ => rfl), fun j bj hj => (g5 (j, bj) hj).elim fun b hb => (hback2 j b hb.1).elim fun b' hb' => hback j b' hb'⟩
      · exact hk.elim
    · exact hk.elim
  · exact ⟨st, c, hk, h, hu, fun _ hb => hb, (fun hc => hc), fun j bj hj => ⟨bj, hj⟩⟩
theorem freezeL_is : ∀ {cs : List C} {us : List Value} {st : St} {K : St → List C → Prop}, RE X0 w0 as E st a w → RCs (own X0 E st.mem) w E us cs → freezeL st cs K →
    ∃ st' cs', K st' cs' ∧ RE X0 w0 as E st' a w ∧ RCs (own X0 E st'.mem) w E us cs' ∧ (∀ b, own X0 E st'.mem b → own X0 E st.mem b) ∧ (anyC C.isUndef cs = false → anyC C.isUndef cs' = false) ∧ (∀ j bj, (j, bj) ∈ st'.mem → ∃ b, (j, b) ∈ st.mem)
  | [], [], st, K, h, _, hk => ⟨st, [], hk, h, trivial, fun _ hb => hb, (fun h => h), fun j bj hj => ⟨bj, hj⟩⟩
  | c :: cs, u :: us, st, K, h, hu, hk => by
    unfold freezeL at hk
    obtain ⟨st1, c', hk, h1, h2, h3, h4, h5⟩ := freeze_is h hu.1 hk
    obtain ⟨st2, cs', hk, g1, g2, g3, g4, g5⟩ := freezeL_is (cs := cs) h1 (hu.2.less h3) hk
    exact ⟨st2, c' :: cs', hk, g1, ⟨h2.less g3, g2⟩, fun b hb => h3 b (g3 b hb), (fun hc => anyC_undef_cons.2 ⟨h4 (anyC_undef_cons.1 hc).1, g4 (anyC_undef_cons.1 hc).2⟩), fun j bj hj => (g5 j bj hj).elim fun b hb => h5 j b hb⟩
  | [], _ :: _, _, _, _, hu, _ => hu.elim
  | _ :: _, [], _, _, _, hu, _ => hu.elim

theorem store_is {o : Oper} {n : Act → World → Prop} {Q : Exit → Act → World → Prop} {x y : Operand} {t : TypeId} {K : St → SV → Prop} {v : SV} {ds : List C} {us : List Value} (hT : T.ok P) (ho : o.op = .store t x y)
    (h : RE X0 w0 as E st a w) (hv : RV (own X0 E st.mem) w E (a.eval x) v) (hu : (a.eval y).cells = us.toArray) (hds : RCs (own X0 E st.mem) w E us ds) (hk : storeK T t st v ds K)
    (hn : Goes X0 w0 as E st.mem (storesTo v) a w K fun u w' => n (a.put o.dst u) w') : o.wp P a w n Q := by
  unfold storeK at hk
  cases hb : (bif szOk (T.at t).size ds.length then !anyC C.isUndef ds else false) with
  | false => rw [hb] at hk; exact hk.elim
  | true =>
    rw [hb] at hk
    cases hb1 : szOk (T.at t).size ds.length with
    | false => rw [hb1] at hb; cases hb
    | true =>
      rw [hb1] at hb
      obtain ⟨hne0, hb1⟩ := szOk_is hb1
      have hund : anyC C.isUndef ds = false := by simpa using hb
      have hlen := hds.len
      have h1 := no_undef hds hund
      split at hk
      · rename_i k off
        obtain ⟨bx, hm, hk⟩ := findK_is hk
        have hr := h.mem k bx hm
        split at hk
        · rename_i t' cs
          obtain ⟨hl, vs, hB, hcs⟩ := hr
          obtain ⟨hfit, hk⟩ := spliceK_is hk
          have hvl := hcs.len
          · refine wp_store_cells ho hv rfl hu hB (by simp; omega) (by rw [hlen, ← hb1]; exact tab_size hT hne0) h1 fun w' hw hO => ?_
            obtain ⟨st', q1, q2, q3⟩ := h.box (w' := w') hm hl hk (h.below.trans ⟨hO.os, hO.tape, hO.output, by rw [hO.size]; exact Nat.le_refl _, fun b hb => hO.block b fun e => by
              have := (h.place k _ hm hl).1
              omega⟩) (by rw [hO.size]; exact Nat.le_refl _) (fun b _ hne => hO.block b hne)
              (fun X' hx hoff => ⟨hl, _, hw, (spliced_is hcs hds hfit).up hoff (fun b _ hb => hx b hb) fun _ _ => ⟨rfl, rfl⟩⟩)
            exact hn st' _ undef w' E q1 q2 trivial ⟨by rw [hO.size]; exact Nat.le_refl _, fun b hb hb2 => hO.block b fun e => hb2 k (by simp [storesTo]) _ hm hl e.symm⟩
        · exact hk.elim
      · rename_i k i sz off
        cases hrow : anyC C.isRow ds with
        | true =>
          rw [hrow] at hk
          obtain ⟨bx, hm, hk⟩ := findK_is hk
          have hr := h.mem k bx hm
          split at hk
          · rename_i e ty l
            cases hsz : Nat.beq sz ty.size with
            | false => rw [hsz] at hk; exact hk.elim
            | true =>
              rw [hsz] at hk
              have hsz := beq_of hsz
              have hv : a.eval x = .pointer (some ⟨E.blk k, ofV (E.rv k) + i * ty.size + off, none⟩) := by rw [← hsz]; exact hv
              obtain ⟨hi, hk⟩ := hk
              have hk := normL_is hk
              obtain ⟨hfit, hk⟩ := spliceK_is hk
              unfold RB at hr
              cases hl : E.live k with
              | false => rw [hl] at hr; obtain ⟨_, hr⟩ := hr; rw [hr] at hi; simp at hi
              | true =>
                rw [hl] at hr
                obtain ⟨pre, cap, cur, e1, e2, e3, e4, e5, e6⟩ := hr
                rw [show ofV (E.rv k) = pre.length by rw [e1]; rfl] at hv
                obtain ⟨lc, d, rc, q1, q2, q3, q4, q5⟩ := Chunks.at ty.size (fun _ _ h => DC.len h) e6 (List.getElem?_eq_getElem hi)
                have hget : l.getD i (dflt ty) = l[i] := by simp [List.getD, hi]
                rw [hget] at hk hfit
                have hfl := flat_is (E := E) q3
                have hspl := spliced_is hfl hds hfit
                have hdl : d.length = ty.size := DC.len q3
                have hfll := hfl.len
                have hcurl : (l.length) * ty.size ≤ cur.length := by rw [e5]; exact Nat.mul_le_mul_right _ e3
                have hii : i * ty.size + ty.size ≤ l.length * ty.size := by
                  have := Nat.mul_le_mul_right ty.size (show i + 1 ≤ l.length from hi)
                  rwa [Nat.add_mul, Nat.one_mul] at this
                have hus : off + us.length ≤ ty.size := by rw [hlen, ← hdl, hfll]; exact hfit
                have hsize : (P.info? t).map (·.size) = some us.length := by rw [hlen, ← hb1]; exact tab_size hT hne0
                refine wp_store_cells ho hv rfl hu e2 (by rw [List.size_toArray, List.length_append]; omega) hsize h1 fun w' hw hO => ?_
                rw [show pre.length + i * ty.size + off = pre.length + (i * ty.size + off) by omega] at hw
                replace hw := hw.trans (show _ = some (Obj.cells (pre ++ (cur.take (i * ty.size + off) ++ (us ++ cur.drop (i * ty.size + off + us.length)))).toArray e (0, 0)) from congrArg (fun z => some (Obj.cells z e (0, 0))) spliced_pre)
                have hpl := h.place k _ hm hl
                have hcur : (cur.take (i * ty.size + off) ++ (us ++ cur.drop (i * ty.size + off + us.length))).take (l.length * ty.size) = lc ++ ((d.take off ++ (us ++ d.drop (off + us.length))) ++ rc) := by
                  have hA : cur = (lc ++ (d ++ rc)) ++ cur.drop (l.length * ty.size) := by rw [← q1, List.take_append_drop]
                  have hL : (lc ++ (d ++ rc)).length = l.length * ty.size := by rw [← q1, List.length_take]; omega
                  generalize cur.drop (l.length * ty.size) = tl at hA
                  rw [hA]
                  have t1 : (lc ++ (d ++ rc) ++ tl).take (i * ty.size + off) = lc ++ d.take off := by
                    rw [List.append_assoc, List.take_append, List.take_of_length_le (by omega), q2, Nat.add_sub_cancel_left, List.append_assoc, List.take_append_of_le_length (by omega)]
                  have t2 : (lc ++ (d ++ rc) ++ tl).drop (i * ty.size + off + us.length) = d.drop (off + us.length) ++ (rc ++ tl) := by
                    rw [List.append_assoc, List.drop_append, List.drop_eq_nil_of_le (by omega), List.nil_append, q2, show i * ty.size + off + us.length - i * ty.size = off + us.length by omega, List.append_assoc, List.drop_append_of_le_length (by omega)]
                  rw [t1, t2]
                  have : lc ++ d.take off ++ (us ++ (d.drop (off + us.length) ++ (rc ++ tl))) = (lc ++ ((d.take off ++ (us ++ d.drop (off + us.length))) ++ rc)) ++ tl := by simp
                  rw [this]
                  refine List.take_left' ?_
                  simp only [List.length_append, List.length_take, List.length_drop] at hL ⊢
                  omega
                obtain ⟨st', p1, p2, p3⟩ := h.box (w' := w') hm hl hk (h.below.trans ⟨hO.os, hO.tape, hO.output, by rw [hO.size]; exact Nat.le_refl _, fun b hb => hO.block b fun e => by
                  have := hpl.1
                  omega⟩) (by rw [hO.size]; exact Nat.le_refl _) (fun b _ hne => hO.block b hne)
                  (fun X' hx hoff => by
                    refine ⟨hl, pre, cap, _, _, _, _, e1, hw, e3, e4, ?_, hi, hcur, q2, ?_, hspl.up hoff (fun b _ hb => hx b hb) fun _ _ => ⟨rfl, rfl⟩, q4.mono fun _ _ h => DC.up hoff (fun b _ hb => hx b hb) h, q5.mono fun _ _ h => DC.up hoff (fun b _ hb => hx b hb) h⟩
                    · rw [List.length_append, List.length_append, List.length_take, List.length_drop, ← e5]
                      omega
                    · rw [List.length_append, List.length_append, List.length_take, List.length_drop]
                      omega)
                exact hn st' _ undef w' E p1 p2 trivial ⟨by rw [hO.size]; exact Nat.le_refl _, fun b hb hb2 => hO.block b fun e => hb2 k (by simp [storesTo]) _ hm hl e.symm⟩
          · exact hk.elim
        | false =>
        rw [hrow] at hk
        obtain ⟨st1, ds', hk, h2, hds', hsub, hund', hback⟩ := freezeL_is h hds hk
        have hlen' := hds'.len
        obtain ⟨bx, hm, hk⟩ := findK_is hk
        have hr := h2.mem k bx hm
        split at hk
        · rename_i e ty l
          cases hsz : Nat.beq sz ty.size with
          | false => rw [hsz] at hk; exact hk.elim
          | true =>
            rw [hsz] at hk
            have hsz := beq_of hsz
            have hv : a.eval x = .pointer (some ⟨E.blk k, ofV (E.rv k) + i * ty.size + off, none⟩) := by rw [← hsz]; exact hv
            obtain ⟨hi, hk⟩ := hk
            have hk := normL_is hk
            obtain ⟨hfit, hk⟩ := spliceK_is hk
            unfold RB at hr
            cases hl : E.live k with
            | false => rw [hl] at hr; obtain ⟨_, hr⟩ := hr; rw [hr] at hi; simp at hi
            | true =>
              rw [hl] at hr
              obtain ⟨pre, cap, cur, e1, e2, e3, e4, e5, e6⟩ := hr
              rw [show ofV (E.rv k) = pre.length by rw [e1]; rfl] at hv
              obtain ⟨lc, d, rc, q1, q2, q3, q4, q5⟩ := Chunks.at ty.size (fun _ _ h => DC.len h) e6 (List.getElem?_eq_getElem hi)
              have hget : l.getD i (dflt ty) = l[i] := by simp [List.getD, hi]
              rw [hget] at hk hfit
              have hfl := flat_is (E := E) q3
              obtain ⟨y', rest, c1, c2, r1, r2, r3, hk⟩ := unflatK_is hk (spliced_is hfl hds' hfit)
              split at hk
              · have hc2 : c2 = [] := by
                  cases c2 with
                  | nil => rfl
                  | cons => exact r3.elim
                subst hc2
                rw [List.append_nil] at r1
                have hdl : d.length = ty.size := DC.len q3
                have hfll := hfl.len
                have hcurl : (l.length) * ty.size ≤ cur.length := by rw [e5]; exact Nat.mul_le_mul_right _ e3
                have hii : i * ty.size + ty.size ≤ l.length * ty.size := by
                  have := Nat.mul_le_mul_right ty.size (show i + 1 ≤ l.length from hi)
                  rwa [Nat.add_mul, Nat.one_mul] at this
                have hus : off + us.length ≤ ty.size := by rw [hlen', ← hdl, hfll]; exact hfit
                · have hsize : (P.info? t).map (·.size) = some us.length := by rw [hlen, ← hb1]; exact tab_size hT hne0
                  refine wp_store_cells ho hv rfl hu e2 (by rw [List.size_toArray, List.length_append]; omega) hsize h1 fun w' hw hO => ?_
                  rw [show pre.length + i * ty.size + off = pre.length + (i * ty.size + off) by omega] at hw
                  replace hw := hw.trans (show _ = some (Obj.cells (pre ++ (cur.take (i * ty.size + off) ++ (us ++ cur.drop (i * ty.size + off + us.length)))).toArray e (0, 0)) from congrArg (fun z => some (Obj.cells z e (0, 0))) spliced_pre)
                  have hpl := h2.place k _ hm hl
                  have hcur : (cur.take (i * ty.size + off) ++ (us ++ cur.drop (i * ty.size + off + us.length))).take (l.length * ty.size) = lc ++ (c1 ++ rc) := by
                    have hA : cur = (lc ++ (d ++ rc)) ++ cur.drop (l.length * ty.size) := by rw [← q1, List.take_append_drop]
                    have hL : (lc ++ (d ++ rc)).length = l.length * ty.size := by rw [← q1, List.length_take]; omega
                    rw [← r1]
                    generalize cur.drop (l.length * ty.size) = tl at hA
                    rw [hA]
                    have t1 : (lc ++ (d ++ rc) ++ tl).take (i * ty.size + off) = lc ++ d.take off := by
                      rw [List.append_assoc, List.take_append, List.take_of_length_le (by omega), q2, Nat.add_sub_cancel_left, List.append_assoc, List.take_append_of_le_length (by omega)]
                    have t2 : (lc ++ (d ++ rc) ++ tl).drop (i * ty.size + off + us.length) = d.drop (off + us.length) ++ (rc ++ tl) := by
                      rw [List.append_assoc, List.drop_append, List.drop_eq_nil_of_le (by omega), List.nil_append, q2, show i * ty.size + off + us.length - i * ty.size = off + us.length by omega, List.append_assoc, List.drop_append_of_le_length (by omega)]
                    rw [t1, t2]
                    have : lc ++ d.take off ++ (us ++ (d.drop (off + us.length) ++ (rc ++ tl))) = (lc ++ ((d.take off ++ (us ++ d.drop (off + us.length))) ++ rc)) ++ tl := by simp
                    rw [this]
                    refine List.take_left' ?_
                    simp only [List.length_append, List.length_take, List.length_drop] at hL ⊢
                    omega
                  obtain ⟨st', p1, p2, p3⟩ := h2.box (w' := w') hm hl hk (h2.below.trans ⟨hO.os, hO.tape, hO.output, by rw [hO.size]; exact Nat.le_refl _, fun b hb => hO.block b fun e => by
                    have := hpl.1
                    omega⟩) (by rw [hO.size]; exact Nat.le_refl _) (fun b _ hne => hO.block b hne)
                    (fun X' hx hoff => by
                      unfold RB
                      rw [hl]
                      refine ⟨pre, cap, _, by rw [List.length_set]; exact e1, hw, by rw [List.length_set]; exact e3, e4, ?_, ?_⟩
                      · rw [List.length_append, List.length_append, List.length_take, List.length_drop, ← e5]
                        omega
                      · rw [List.length_set, hcur]
                        exact (Chunks.set (x' := y') q4 r2 q5 hi).mono fun _ _ h => DC.up hoff (fun b _ hb => hx b hb) h)
                  exact hn st' _ undef w' E p1 p2 trivial ⟨by rw [hO.size]; exact Nat.le_refl _, fun b hb hb2 => hO.block b fun e => (hback k _ hm).elim fun bb hbb => hb2 k (by simp [storesTo]) bb hbb hl e.symm⟩
              · exact hk.elim
        · exact hk.elim
      · exact hk.elim

/-! ### Literals, zeroes -/
theorem elems_is {t : Ty} : ∀ {parts : List (Nat × Operand)} {st : St} {i : Nat} {K : St → List (Den t) → Prop}, RE X0 w0 as E st a w → elemsK t st i parts K →
    ∃ st' ys news, K st' ys ∧ RE X0 w0 as E st' a w ∧ Chunks (DC (own X0 E st'.mem) w t) ys news ∧ (∀ b, own X0 E st'.mem b → own X0 E st.mem b) ∧
      ∀ pre rest : List Value, pre.length = i * t.size → news.length ≤ rest.length → Instr.fill (fun i => some (i * t.size, t.size)) (pre ++ rest).toArray (parts.map fun p => (p.1, a.eval p.2)) = some (pre ++ (news ++ rest.drop news.length)).toArray
  | [], st, i, K, h, hk => ⟨st, [], [], hk, h, rfl, fun _ hb => hb, fun pre rest _ _ => by simp [Instr.fill]⟩
  | (j, x) :: r, st, i, K, h, hk => by
    unfold elemsK at hk
    cases hij : Nat.beq i j with
    | false => rw [hij] at hk; exact hk.elim
    | true =>
      rw [hij] at hk
      have hij := beq_of hij
      subst hij
      obtain ⟨v, hk, hv⟩ := eval_is hk h
      obtain ⟨vs, ds, hk, hcells, hds⟩ := cells_is hv hk
      obtain ⟨st1, ds', hk, h1, hds', hsub, _, _⟩ := freezeL_is h hds hk
      obtain ⟨y, rest', c1, c2, r1, r2, r3, hk⟩ := unflatK_is hk hds'
      split at hk
      · have hc2 : c2 = [] := by
          cases c2 with
          | nil => rfl
          | cons => exact r3.elim
        subst hc2
        rw [List.append_nil] at r1
        obtain ⟨st2, ys, news, q1, q2, q3, q4, q5⟩ := elems_is (parts := r) h1 hk
        have hvl : vs.length = t.size := by rw [r1]; exact DC.len r2
        refine ⟨st2, y :: ys, vs ++ news, q1, q2, ⟨vs, news, rfl, DC.up (Off.refl _ _) (fun b _ hb => q4 b hb) (r1 ▸ r2), q3⟩, fun b hb => hsub b (q4 b hb), fun pre rest hp hr => ?_⟩
        rw [List.length_append] at hr
        rw [List.map_cons, Instr.fill]
        simp only [hcells, List.size_toArray]
        have hno : ¬ ((vs.length ≠ t.size || i * t.size + vs.length > (pre ++ rest).length : Bool) = true) := by simp; omega
        rw [if_neg (by simpa using hno), fill_vals vs _ _ (by simp; omega), ← hp, List.take_left]
        have e1 : (pre ++ rest).drop (pre.length + vs.length) = rest.drop vs.length := by rw [← List.drop_drop, List.drop_left]
        rw [e1, ← List.append_assoc, q5 (pre ++ vs) (rest.drop vs.length) (by rw [List.length_append, hp, hvl, Nat.add_mul, Nat.one_mul]) (by rw [List.length_drop]; omega)]
        simp [List.drop_drop]
      · exact hk.elim
theorem made_zero {ty : Ty} {z : Array Value} (hz : z.toList = zeroV ty) : ∀ n, Chunks (DC X w ty) (List.replicate n (dflt ty)) (madeCells z (n * ty.size)).toList := by
  have hzl : z.size = ty.size := by
    rw [← Array.length_toList, hz]; exact DC.len (X := fun _ => True) (w := w) (dflt_is ty)
  have key : ∀ n, (madeCells z (n * ty.size)).toList = (List.range (n * ty.size)).map fun i => z[i % ty.size]! := fun n => by simp [madeCells, hzl]
  intro n
  rw [key]
  induction n with
  | zero => rw [Nat.zero_mul]; exact rfl
  | succ n ih =>
    refine ⟨zeroV ty, _, ?_, dflt_is ty, ih⟩
    rw [Nat.add_mul, Nat.one_mul, Nat.add_comm, List.range_add, List.map_append, List.map_map]
    congr 1
    · rw [← hz]
      apply List.ext_getElem
      · simp [hzl]
      · intro i h1 h2
        simp at h1
        have : i < z.size := by omega
        simp [Nat.mod_eq_of_lt h1, this]
    · apply List.map_congr_left
      intro i _
      simp

/-! ### Calls -/
/-- n zeros onto nothing. -/
theorem appendZ_is {o : Oper} {n : Act → World → Prop} {Q : Exit → Act → World → Prop} {b : Nat} {s x : Operand} {t t' : TypeId} {K : St → SV → Prop} {vs vx : SV} (hT : T.ok P) (ho : o.op = .call { callee := .builtin .append, args := #[s, x], argTypes := #[t, t'] })
    (h : RE X0 w0 as E st a w) (hs : RV (own X0 E st.mem) w E (a.eval s) vs) (hx : RV (own X0 E st.mem) w E (a.eval x) vx) (hk : appendZK T b o.dst t t' st vs vx K)
    (hn : Goes X0 w0 as E st.mem [] a w K fun u w' => n (a.put o.dst u) w') : o.wp P a w n Q := by
  unfold appendZK at hk
  split at hk
  · rename_i e hkd
    split at hk
    · rename_i kk hkk
      split at hk
      · rename_i d hd
        split at hk
        · rename_i ty hty
          split at hk
          · rename_i kq m
            split at hk
            · rename_i ty' l c
              split at hk
              · obtain ⟨ee, hk⟩ := castK_is hk
                subst ee
                obtain ⟨⟨hm0, hmx⟩, hk⟩ := hk
                have hmx : l.length + m.toNat ≤ mostElems := hmx
                have hk : st.newRow (b + d) e ty' (l ++ List.replicate m.toNat (dflt ty')) K := hk
                obtain ⟨m, rfl⟩ := Int.eq_ofNat_of_zero_le (Int.le_of_lt hm0)
                rw [Int.toNat_natCast] at hk hmx
                have hmp : 0 < m := by
                  have h9 : (0 : Int) < (m : Int) := hm0
                  omega
                have hok := tab_clone hT hkd hty
                obtain ⟨i, z, c1, c2, c3, c4, c5, c6, c7⟩ := cloneOk_is hok
                have htn := tab_int hT hkk
                obtain ⟨_, _, z', hz, hz2, _⟩ := tab_ty hT hty
                have hzz : z.cells.toList = zeroV ty' := by
                  rw [c2] at hz
                  simp only [Option.bind_some] at hz
                  rw [c3] at hz
                  rw [Option.some.inj hz]; exact hz2
                obtain ⟨⟨cs, hsc, hchs⟩, hclip⟩ := hs
                obtain ⟨ads, es⟩ := hclip rfl
                have hls : cs.length = l.length * ty'.size := Chunks.length ty'.size (fun _ _ h => DC.len h) hchs
                rw [es] at hsc
                have hbytes : (l.length + m) * i.bytes ≤ 140737488355328 := by
                  have := Nat.mul_le_mul hmx c7
                  unfold mostElems at this
                  omega
                have hmb : m * i.bytes ≤ 140737488355328 := Nat.le_trans (Nat.mul_le_mul_right _ (by omega)) hbytes
                have hmost : l.length + m ≤ maxLen := by unfold mostElems at hmx; unfold maxLen; omega
                have hold : (Builtin.firstCells i.size l.length (.slice ads l.length l.length)).run P w.drew = .ok cs.toArray w.drew := by
                  cases ads with
                  | none =>
                    rcases hsc with (⟨e, h0, h1⟩ | ⟨b0, o0, c0, e, _⟩) | ⟨⟨_, e⟩, _⟩
                    · rw [h1]; exact run_firstCells_none ..
                    · cases e
                    · cases e
                  | some bs =>
                    rcases hsc with (⟨e, h0, h1⟩ | ⟨b0, o0, c0, e, _, _, _, _, hr0⟩) | ⟨_, h0, h1⟩
                    · cases e
                    rotate_left
                    · rw [h0, h1]
                      have := run_loadCells_list (P := P) w.drew bs [] (by simp)
                      simpa [Builtin.firstCells] using this
                    · injection e with e _ _
                      injection e with e
                      subst e
                      exact run_firstCells_some (P := P) w.drew i.size l.length ⟨b0, o0, none⟩ _ _ cs (by rw [c4]; exact hls) fun j v hj => by
                        rw [Addr.add_lit]; exact hr0 j v hj
                have hfit : Builtin.nextslicecap (l.length + m) l.length * i.bytes ≤ 281474976710656 := growslice_fits (by omega) hbytes
                have hrun := Lib.run_append_grow_zeros (P := P) w t t' o.type e i z kq kk c1 htn c2 c3 ads l.length l.length cs hold m hmp (by omega) (by omega) (by unfold maxLen at hmost; omega) (by omega) hfit
                have hge := grownCap_ge w (l.length + m) l.length e
                have hcm : grownCap w (l.length + m) l.length e ≤ maxLen := grownCap_le_maxLen w _ _ e hmost
                generalize hcap : grownCap w (l.length + m) l.length e = cap at hrun hge hcm
                have hB : Below w.heap.size w (w.drew.alloc (.cells (cs.toArray ++ Builtin.zeroCells z.cells m ++ Builtin.zeroCells z.cells (cap - (l.length + m))) e)) :=
                  ⟨rfl, rfl, rfl, by simp, fun k hk => heap_alloc_old w.drew _ hk⟩
                have hzc : Builtin.zeroCells z.cells m = madeCells z.cells (m * ty'.size) := by
                  simp only [Builtin.zeroCells, madeCells, c5]
                have hsz : (cs.toArray ++ Builtin.zeroCells z.cells m ++ Builtin.zeroCells z.cells (cap - (l.length + m))).size = cap * ty'.size := by
                  rw [Array.size_append, Array.size_append, size_zeroCells, size_zeroCells, c5, List.size_toArray, hls, ← Nat.add_mul, ← Nat.add_mul]
                  congr 1
                  omega
                have hch2 := hchs.append (made_zero (X := own X0 E st.mem) (w := w) hzz m)
                obtain ⟨E', st', sv, q1, q2, q3⟩ := newRow (g := w.heap.size) (cap := cap) (cs := cs ++ (madeCells z.cells (m * ty'.size)).toList) h hk hB (Nat.le_refl _) (by simp) (heap_alloc_new w.drew _) hch2 (by rw [List.length_append, List.length_replicate]; exact hge) hcm hsz (by
                  rw [List.length_append, List.length_replicate, Array.toList_append, Array.toList_append, List.toList_toArray, ← hzc]
                  refine List.take_left' ?_
                  have hz9 : (Builtin.zeroCells z.cells m).toList.length = m * ty'.size := by rw [Array.length_toList, size_zeroCells, c5]
                  rw [List.length_append, hz9, Nat.add_mul]
                  exact congrArg (· + _) hls)
                rw [List.length_append, List.length_replicate] at q3
                exact Lib.wp_append_run w s x t t' ho _ _ (show a.eval s = .slice ads l.length l.length from es) hx _ _ hrun (hn st' sv _ _ E' q1 q2 q3 (Wrote.fresh hB))
              · exact hk.elim
            · exact hk.elim
          · exact hk.elim
        · exact hk.elim
      · exact hk.elim
    · exact hk.elim
  · exact hk.elim

theorem wp_callv {o : Oper} {n : Act → World → Prop} {Q : Exit → Act → World → Prop} {x : Operand} {xs : Array Operand} {ts : Array TypeId} {f : Nat} {caps vs : Array Value} {R : Ending → World → Prop}
    (ho : o.op = .call { callee := .value x, args := xs, argTypes := ts }) (hf : a.eval x = .func (.func f) #[] caps) (hx : xs.map a.eval = vs) (hg : goFunc P f = true)
    (hc : Calls P f (vs ++ caps) w R) (h : ∀ e w', R e w' → ∃ u, e = .returned u ∧ n (a.put o.dst u) w') : o.wp P a w n Q := by
  unfold goFunc at hg
  cases h1 : P.funcs[f]? with
  | none => simp [h1] at hg
  | some fn =>
  have h2 : (fn.name == "runtime.NumGoroutine") = false := by simp [h1] at hg; simpa using hg.1
  have h3 : fn.body.isNone = false := by simp [h1] at hg; simpa using hg.2
  have hrun : (callFunc f (vs ++ caps)).run P w = .ok (.enter f (vs ++ caps)) w := by
    unfold callFunc
    have h2' : ¬ fn.name = "runtime.NumGoroutine" := by simpa using h2
    have h3' : ¬ fn.body = none := by intro e; rw [e] at h3; cases h3
    simp [Sem.run_bind, h1, h2', h3']
  unfold Oper.wp execOp
  simp only [ho, resolve, hx, hf, Deferred.ofValue, Sem.run_bind, Sem.run_pure, Result.andThen_ok, invoke, Array.empty_append, hrun]
  refine hc.mono fun e w' hr => ?_
  obtain ⟨u, rfl, hk⟩ := h e w' hr
  exact hk
/-- These blocks stand; the streams are as they were; no block has gone. -/
structure BelowS (N : Nat → Prop) (w w' : World) : Prop where
  os : w'.os = w.os
  tape : w'.tape = w.tape
  output : w'.output = w.output
  size : w.heap.size ≤ w'.heap.size
  block : ∀ k, N k → w'.heap[k]? = w.heap[k]?
theorem BelowS.refl (N : Nat → Prop) (w : World) : BelowS N w w := ⟨rfl, rfl, rfl, Nat.le_refl _, fun _ _ => rfl⟩
theorem BelowS.trans {N : Nat → Prop} {a b c : World} (h : BelowS N a b) (k : BelowS N b c) : BelowS N a c :=
  ⟨k.os.trans h.os, k.tape.trans h.tape, k.output.trans h.output, Nat.le_trans h.size k.size, fun i hi => (k.block i hi).trans (h.block i hi)⟩
/-- What a way of calling must do: the blocks N are not changed. -/
def CallOkF (P : Program) (call : Nat → List SV → St → (St → SV → Prop) → Prop) (as : Cx) (N : Nat → Prop) : Prop :=
  ∀ f vs st K X0 w0 E a w (us : List Value), (∀ b, N b → b < w.heap.size) → call f vs st K → RE X0 w0 as E st a w → RVs (own X0 E st.mem) w E us vs →
    goFunc P f = true ∧ Calls P f us.toArray w fun e w' => ∃ u st' v E', e = .returned u ∧ K st' v ∧ RE X0 w0 as E' st' a w' ∧ RV (own X0 E' st'.mem) w' E' u v ∧ BelowS N w w'
/-- F: boxes that are not changed; whatever other box is spoken of, its block is none of N. -/
def CallOk (P : Program) (call : List Nat → Nat → List SV → St → (St → SV → Prop) → Prop) : Prop :=
  ∀ (F : List Nat) (as : Cx) (N : Nat → Prop), (∀ ks, (∀ k ∈ ks, k ∉ F) → as.free ks) → (∀ k b, k ∉ F → as.pr k b → ¬ N b) → CallOkF P (call F) as N
/-- Is it a call of a function? -/
def isCallV (o : Oper) : Bool :=
  match o.op with
  | .call c => match c.callee with
    | .value _ => true
    | _ => false
  | _ => false
theorem args_is : ∀ {xs : List Operand} {K : List SV → Prop}, argsK st xs K → RE X0 w0 as E st a w → ∃ vs, K vs ∧ RVs (own X0 E st.mem) w E (xs.map a.eval) vs
  | [], _, hk, _ => ⟨[], hk, trivial⟩
  | x :: xs, K, hk, h => by
    obtain ⟨v, hk, hv⟩ := eval_is hk h
    obtain ⟨vs, hk, hvs⟩ := args_is (xs := xs) hk h
    exact ⟨v :: vs, hk, hv, hvs⟩
theorem RVs.append : ∀ {us vs : List Value} {xs ys : List SV}, RVs X w E us xs → RVs X w E vs ys → RVs X w E (us ++ vs) (xs ++ ys)
  | [], _, [], _, _, k => k
  | _ :: _, _, _ :: _, _, h, k => ⟨h.1, RVs.append h.2 k⟩
  | [], _, _ :: _, _, h, _ => h.elim
  | _ :: _, _, [], _, h, _ => h.elim
theorem caps_read : ∀ {caps : List (Nat × Nat)}, RVs X w E (caps.map fun p => Value.pointer (some ⟨E.blk p.1, p.2, none⟩)) (caps.map fun p => .one (.ptr p.1 p.2))
  | [] => trivial
  | _ :: _ => ⟨rfl, caps_read⟩

/-! ### What an operand says -/
theorem eval_of {x : Operand} {K : SV → Prop} (hk : evalK st x K) (h : RE X0 w0 as E st a w) : K (valOf st x) ∧ RV (own X0 E st.mem) w E (a.eval x) (valOf st x) := by
  have hv : ∀ v, (evalK st x fun u => u = v) → v = valOf st x := fun v hv => by
    unfold evalK at hv
    split at hv
    · rename_i i
      obtain ⟨c, hc, rfl⟩ := getK_is hv
      simp [valOf, List.getD, hc]
    all_goals first | exact hv.symm | (exact False.elim hv) | (subst hv; unfold valOf; split <;> first | rfl | (exfalso; simp_all; done))
  have hk2 : evalK st x fun v => v = valOf st x ∧ K v := by
    unfold evalK at hk ⊢
    split at hk
    · rename_i i
      have : ∀ {l : List SV} {i : Nat} {Q : SV → Prop}, getK l i Q → getK l i fun v => v = l.getD i (.one .undef) ∧ Q v := by
        intro l
        induction l with
        | nil => intro i Q h; exact h.elim
        | cons x l ih => intro i Q h; cases i with
          | zero => exact ⟨rfl, h⟩
          | succ i => exact ih h
      exact this hk
    all_goals first | exact ⟨rfl, hk⟩ | (exact False.elim hk) | (refine ⟨?_, hk⟩; unfold valOf; split <;> first | rfl | (exfalso; simp_all; done))
  obtain ⟨v, ⟨rfl, h1⟩, h2⟩ := eval_is hk2 h
  exact ⟨h1, h2⟩

/-! ### Copies -/
theorem run_copy_off {t t' ty e : TypeId} {size : Nat} (hu : P.underlying t = some (.slice e)) (hs : (P.info? e).map (·.size) = some size) (g o dLen dCap m c : Nat) (ad : Option Addr) (cur : Array Value) (el : TypeId) (cs : List Value)
    (hg : w.heap[g]? = some (.cells cur el (0, 0))) (hn : cs.length = (Nat.min m dLen) * size) (hsrc : ∀ b, ad = some b → m ≠ 0 → b.spot = none ∧ Row w b.block b.off cs) (hnone : ad = none → cs = []) (hfit : o + cs.length ≤ cur.size) (h1 : ∀ v ∈ cs, v.oneCell' = true) :
    (Builtin.copy_ #[t, t'] ty #[.slice (some ⟨g, o, none⟩) dLen dCap, .slice ad m c]).run P w = .ok (goInt (Nat.min m dLen : Nat)) (w.setCells g o cs) := by
  have ht := box_there hg o cs.length hfit
  have hst := run_storeCells_cells (P := P) g o cs 0 w (fun j hj => by simpa using (ht j (by simpa using hj)).1) (fun j hj => by simpa using (ht j (by simpa using hj)).2) h1
  simp only [Nat.add_zero] at hst
  have hf : (Builtin.firstCells size (Nat.min m dLen) (.slice ad m c)).run P w = .ok cs.toArray w := by
    cases ad with
    | none => rw [hnone rfl]; simp [Builtin.firstCells]
    | some b =>
      by_cases hm0 : m = 0
      · subst hm0
        have hcs : cs = [] := List.eq_nil_of_length_eq_zero (by rw [hn]; simp)
        rw [hcs]
        have := run_loadCells_list (P := P) w b [] (by simp)
        simpa [Builtin.firstCells] using this
      obtain ⟨hsp, hr⟩ := hsrc b rfl hm0
      obtain ⟨bb, bo, bs⟩ := b
      simp only at hsp hr
      subst hsp
      have := run_loadCells_list (P := P) w ⟨bb, bo, none⟩ cs (fun j v hj => by rw [Addr.add_lit]; exact hr j v hj)
      rw [hn] at this
      simpa [Builtin.firstCells] using this
  cases hq : P.info? e with
  | none => simp [hq] at hs
  | some i =>
    have hi : i.size = size := by simpa [hq] using hs
    simp [Builtin.copy_, run_underlying hu, Builtin.lenOf, sizeOf, typeInfo, hq, hi, hf, hst]
theorem wp_copy_run {o : Oper} {n : Act → World → Prop} {Q : Exit → Act → World → Prop} {s x : Operand} {t t' : TypeId} {vs vx v' : Value} (ho : o.op = .call { callee := .builtin .copy, args := #[s, x], argTypes := #[t, t'] }) (hs : a.eval s = vs) (hx : a.eval x = vx)
    (hrun : (Builtin.copy_ #[t, t'] o.type #[vs, vx]).run P w = .ok v' w') (hk : n (a.put o.dst v') w') : o.wp P a w n Q := by
  unfold Oper.wp
  simp [execOp, ho, resolve, invoke, builtin, hs, hx, hrun, Result.andThen]
  exact hk
theorem flatL_is {ty : Ty} : ∀ {ys : List (Den ty)} {news : List Value} {K : List C → Prop}, flatL ty ys K → Chunks (DC X w ty) ys news → ∃ ds, RCs X w E news ds ∧ K ds
  | [], _, _, hk, h => ⟨[], by rw [show _ = _ from h]; exact trivial, hk⟩
  | _ :: ys, _, _, hk, ⟨c1, c2, e, h1, h2⟩ => by
    obtain ⟨ds, hd, hk⟩ := flatL_is (ys := ys) hk h2
    exact ⟨_, by rw [e]; exact (flat_is h1).append hd, hk⟩
theorem copy_is {o : Oper} {n : Act → World → Prop} {Q : Exit → Act → World → Prop} {s x : Operand} {t t' : TypeId} {K : St → SV → Prop} {vs vx : SV} (hT : T.ok P) (ho : o.op = .call { callee := .builtin .copy, args := #[s, x], argTypes := #[t, t'] })
    (h : RE X0 w0 as E st a w) (hs : RV (own X0 E st.mem) w E (a.eval s) vs) (hx : RV (own X0 E st.mem) w E (a.eval x) vx) (hk : copyK T t st vs vx K)
    (hpr : as.free (appendsOf vs)) (hn : Goes X0 w0 as E st.mem (appendsOf vs) a w K fun u w' => n (a.put o.dst u) w') : o.wp P a w n Q := by
  unfold copyK at hk
  split at hk
  · rename_i e hkd
    split at hk
    · rename_i k
      split at hk
      · rename_i ty hty
        have hok := tab_clone hT hkd hty
        obtain ⟨i, z, c1, c2, c3, c4, c5, c6, c7⟩ := cloneOk_is hok
        obtain ⟨ys, news, ad, cx, hk, ex, hch, hnil, hrow⟩ := data_is h hx hk
        have hnl : news.length = ys.length * ty.size := Chunks.length ty.size (fun _ _ h => DC.len h) hch
        obtain ⟨bx, hm, hk⟩ := findK_is hk
        have hr := h.mem k bx hm
        split at hk
        · rename_i e' ty' l
          obtain ⟨ee, hk⟩ := castK_is hk
          subst ee
          have hev : a.eval s = E.rv k := hs.1
          have hsz : (P.info? e).map (·.size) = some ty'.size := by rw [c2]; simp [c4]
          unfold RB at hr
          cases hl : E.live k with
          | false =>
            rw [hl] at hr
            obtain ⟨hr, rfl⟩ := hr
            have hrun : ∃ base, E.rv k = .slice base 0 0 ∧ (Builtin.copy_ #[t, t'] o.type #[.slice base 0 0, .slice ad ys.length cx]).run P w = .ok (goInt (0 : Nat)) w := by
              have hb : ∃ base, E.rv k = .slice base 0 0 := hr
              obtain ⟨base, hb⟩ := hb
              refine ⟨base, hb, ?_⟩
              have hm0 : Nat.min ys.length 0 = 0 := Nat.min_zero _
              have hf : (Builtin.firstCells i.size (Nat.min ys.length 0) (.slice ad ys.length cx)).run P w = .ok #[] w := by
                rw [hm0]
                cases ad with
                | none => simp [Builtin.firstCells]
                | some b =>
                  have := run_loadCells_list (P := P) w b [] (by simp)
                  simpa [Builtin.firstCells] using this
              rw [hm0] at hf
              cases base with
              | none => simp [Builtin.copy_, run_underlying c1, Builtin.lenOf, sizeOf, typeInfo, c2, hf]
              | some b => simp [Builtin.copy_, run_underlying c1, Builtin.lenOf, sizeOf, typeInfo, c2, hf, storeCells]
            obtain ⟨base, hb, hrun⟩ := hrun
            obtain ⟨st', hmm, q⟩ : ∃ st' : St, K st' (.one (.int .i64 ((min ys.length ([] : List (Den ty')).length : Nat) : Int))) ∧ RE X0 w0 as E st' a w := h.boxDead hm hl hk fun X' hx => by
                unfold RB
                rw [hl]
                exact ⟨hr.up (Off.refl _ _) fun b _ hb => hx b hb, by simp⟩
            exact wp_copy_run ho (hev.trans hb) ex hrun (hn st' _ _ w E hmm q (by simp; rfl) (Wrote.fresh (Below.refl _ w)))
          | true =>
            rw [hl] at hr
            obtain ⟨pre, cap, cur, e1, e2, e3, e4, e5, e6⟩ := hr
            have hpl := h.place k _ hm hl
            have hcurl : l.length * ty'.size ≤ cur.length := by rw [e5]; exact Nat.mul_le_mul_right _ e3
            have hmn : Nat.min ys.length l.length * ty'.size ≤ l.length * ty'.size := Nat.mul_le_mul_right _ (Nat.min_le_right _ _)
            have hmy : Nat.min ys.length l.length * ty'.size ≤ ys.length * ty'.size := Nat.mul_le_mul_right _ (Nat.min_le_left _ _)
            have hcl : (news.take (Nat.min ys.length l.length * ty'.size)).length = Nat.min ys.length l.length * ty'.size := by rw [List.length_take]; omega
            have hrun := run_copy_off (P := P) (w := w) (t' := t') (ty := o.type) c1 hsz (E.blk k) pre.length l.length cap ys.length cx ad (pre ++ cur).toArray e' (news.take (Nat.min ys.length l.length * ty'.size)) e2 hcl
              (fun b hb h0 => have h1 : ys ≠ [] := (fun e => h0 (by rw [e]; rfl)); ⟨(hrow b hb h1).1, Row.takeL (hrow b hb h1).2⟩) (fun hb => by
                have := hnil hb; subst this
                have : news = [] := by simpa using hnl
                rw [this]; simp) (by rw [List.size_toArray, List.length_append]; omega) (fun v hv => chunks_one hch v (List.mem_of_mem_take hv))
            have hO := Only.setCells w (E.blk k) pre.length (news.take (Nat.min ys.length l.length * ty'.size))
            have hbs := box_store e2 (pre.length + 0) (news.take (Nat.min ys.length l.length * ty'.size)) (by rw [List.size_toArray, List.length_append]; omega)
            rw [spliced_pre, Nat.add_zero] at hbs
            obtain ⟨st', q1, q2, q3⟩ := h.box (w' := w.setCells (E.blk k) pre.length (news.take (Nat.min ys.length l.length * ty'.size))) hm hl hk (h.below.trans ⟨hO.os, hO.tape, hO.output, by rw [hO.size]; exact Nat.le_refl _, fun b hb => hO.block b fun e => by have := hpl.1; omega⟩)
              (by rw [hO.size]; exact Nat.le_refl _) (fun b _ hne => hO.block b hne) (fun X' hx hoff => by
                unfold RB
                rw [hl]
                have hlen : (ys.take l.length ++ l.drop ys.length).length = l.length := by
                  rw [List.length_append, List.length_take, List.length_drop]; omega
                refine ⟨pre, cap, _, by rw [hlen]; exact e1, hbs, by rw [hlen]; exact e3, e4, ?_, ?_⟩
                · rw [List.length_append, List.length_append, List.length_take, List.length_drop, hcl, ← e5]
                  omega
                · rw [hlen]
                  rw [List.take_zero, List.nil_append, Nat.zero_add, hcl]
                  have hsplit : (news.take (Nat.min ys.length l.length * ty'.size) ++ cur.drop (Nat.min ys.length l.length * ty'.size)).take (l.length * ty'.size) =
                      news.take (l.length * ty'.size) ++ (cur.take (l.length * ty'.size)).drop (ys.length * ty'.size) := by
                    rcases Nat.le_total ys.length l.length with c | c
                    · have hmm : Nat.min ys.length l.length = ys.length := Nat.min_eq_left c
                      have hle : ys.length * ty'.size ≤ l.length * ty'.size := Nat.mul_le_mul_right _ c
                      rw [hmm, ← hnl, List.take_length, List.take_of_length_le (l := news) (by omega), List.take_append, List.take_of_length_le (by omega), List.drop_take]
                    · have hmm : Nat.min ys.length l.length = l.length := Nat.min_eq_right c
                      have hle : l.length * ty'.size ≤ ys.length * ty'.size := Nat.mul_le_mul_right _ c
                      rw [hmm, List.drop_eq_nil_of_le (as := (cur.take (l.length * ty'.size))) (by rw [List.length_take]; omega), List.append_nil, List.take_append_of_le_length (by rw [List.length_take]; omega), List.take_take, Nat.min_self]
                  rw [hsplit]
                  exact ((Chunks.takeL ty'.size (fun _ _ h => DC.len h) l.length hch).append (Chunks.dropL ty'.size (fun _ _ h => DC.len h) ys.length e6)).mono fun _ _ h => DC.up hoff (fun b _ hb => hx b hb) h)
            exact wp_copy_run ho (hev.trans e1) ex hrun (hn st' _ _ _ E q1 q2 rfl ⟨by rw [hO.size]; exact Nat.le_refl _, fun b hb hb2 => hO.block b fun e => hb2 k (by simp [appendsOf]) _ hm hl e.symm⟩)
        · exact hk.elim
      · exact hk.elim
    · rename_i k off n' cap' _
      split at hk
      · rename_i ty hty
        have hok := tab_clone hT hkd hty
        obtain ⟨i, z, c1, c2, c3, c4, c5, c6, c7⟩ := cloneOk_is hok
        obtain ⟨ys, news, ad, cx, ⟨hle, hk⟩, ex, hch, hnil, hrow⟩ := data_is h hx hk
        have hnl : news.length = ys.length * ty.size := Chunks.length ty.size (fun _ _ h => DC.len h) hch
        obtain ⟨ds, hds, hk⟩ := flatL_is (E := E) hk hch
        have hk := normL_is hk
        obtain ⟨bx, hm, hk⟩ := findK_is hk
        have hr := h.mem k bx hm
        split at hk
        · rename_i te cs
          obtain ⟨hl, vs, hB, hcs⟩ := hr
          obtain ⟨hfit, hk⟩ := spliceK_is hk
          have hpl := h.place k _ hm hl
          have hvl := hcs.len
          have hdl := hds.len
          obtain ⟨hev, _⟩ := (show a.eval s = .slice (some ⟨E.blk k, off, none⟩) n' cap' ∧ n' ≤ cap' from hs)
          have hmin : Nat.min ys.length n' = ys.length := Nat.min_eq_left hle
          have hrun := run_copy_off (P := P) (w := w) (t' := t') (ty := o.type) c1 (size := ty.size) (by rw [c2]; simp [c4]) (E.blk k) off n' cap' ys.length cx ad vs.toArray te news hB (by rw [hmin]; exact hnl)
            (fun b hb h0 => hrow b hb fun e => h0 (by rw [e]; rfl)) (fun hb => by
              have := hnil hb; subst this
              simpa using hnl) (by simp; omega) (fun v hv => chunks_one hch v hv)
          rw [hmin] at hrun
          have hO := Only.setCells w (E.blk k) off news
          have hbs := box_store hB off news (by simp; omega)
          obtain ⟨st', q1, q2, q3⟩ := h.box (w' := w.setCells (E.blk k) off news) hm hl hk (h.below.trans ⟨hO.os, hO.tape, hO.output, by rw [hO.size]; exact Nat.le_refl _, fun b hb => hO.block b fun e => by have := hpl.1; omega⟩)
            (by rw [hO.size]; exact Nat.le_refl _) (fun b _ hne => hO.block b hne)
            (fun X' hx hoff => ⟨hl, _, hbs, (spliced_is hcs hds hfit).up hoff (fun b _ hb => hx b hb) fun _ _ => ⟨rfl, rfl⟩⟩)
          exact wp_copy_run ho hev ex hrun (hn st' _ _ _ E q1 q2 rfl ⟨by rw [hO.size]; exact Nat.le_refl _, fun b hb hb2 => hO.block b fun e => hb2 k (by simp [appendsOf]) _ hm hl e.symm⟩)
        · exact hk.elim
      · exact hk.elim
    · exact hk.elim
  · exact hk.elim

/-! ### An operation -/
theorem insertK_is {i : Int} {c : SV} {val : Value} : ∀ {m : List (Int × SV)} {es : List MapEntry} {K : List (Int × SV) → Prop}, insertK m i c K → RFm X w E es m →
    (∀ ki n, Instr.findNow (.int ki) (.int .i64 i) es n = some none) ∧ ∃ m', K m' ∧ ∀ (X' : Nat → Prop) (w' : World) (E' : Env) (clock : Nat), RFm X' w' E' es m → RV X' w' E' val c → RFm X' w' E' (es ++ [{ key := .int .i64 i, val, born := clock }]) m'
  | [], [], K, hk, _ => ⟨fun _ _ => rfl, _, hk, fun _ _ _ _ _ hc => ⟨rfl, hc, trivial⟩⟩
  | (k, c') :: m, e :: es, K, hk, h => by
    unfold insertK at hk
    cases hd : decide (k = i) with
    | true => rw [hd] at hk; exact hk.elim
    | false =>
      rw [hd] at hk
      obtain ⟨h1, m', h2, h3⟩ := insertK_is (val := val) (m := m) hk h.2.2
      have hne : ¬ k = i := of_decide_eq_false hd
      refine ⟨fun ki n => ?_, _, h2, fun X' w' E' clock hr hc => ⟨hr.1, hr.2.1, h3 X' w' E' clock hr.2.2 hc⟩⟩
      have hne : (i == k) = false := by simpa using fun e => hne e.symm
      rw [Instr.findNow, h.1]
      simp [Instr.sameNow, hne, h1]
  | [], _ :: _, _, _, h => h.elim
  | _ :: _, [], _, _, h => h.elim
theorem insB {i : Int} {c : SV} {K : List (Int × SV) → Prop} : ∀ {l : List Int}, ¬ i ∈ l → K (trues l ++ [(i, c)]) → insertK (trues l) i c K
  | [], _, h => h
  | p :: l, hn, h => by
    show bif decide (p = i) then False else insertK (trues l) i c fun r => K ((p, .one (.bool true)) :: r)
    rw [decide_eq_false (fun e => hn (by rw [e]; exact List.mem_cons_self ..))]
    exact insB (l := l) (fun e => hn (List.mem_cons_of_mem _ e)) h
theorem update_is {o : Oper} {n : Act → World → Prop} {Q : Exit → Act → World → Prop} {m k x : Operand} {t : TypeId} {K : St → SV → Prop} {vm vk vx : SV} (hT : T.ok P) (ho : o.op = .insert t m k x ∨ o.op = .mapUpdate t m k x)
    (h : RE X0 w0 as E st a w) (hm : RV (own X0 E st.mem) w E (a.eval m) vm) (hkk : RV (own X0 E st.mem) w E (a.eval k) vk) (hx : RV (own X0 E st.mem) w E (a.eval x) vx) (hk : updateK T t st vm vk vx K)
    (hn : Goes X0 w0 as E st.mem (mapsOf vm) a w K fun u w' => n (a.put o.dst u) w') : o.wp P a w n Q := by
  unfold updateK at hk
  split at hk
  · rename_i kt vt hkd
    split at hk
    · rename_i ki hki
      split at hk
      · rename_i kb
        split at hk
        · rename_i i
          split at hk
          · obtain ⟨bx, hmem, hk⟩ := findK_is hk
            have hr := h.mem kb bx hmem
            split at hk
            · rename_i ll
              obtain ⟨hl, es, clock, hb, hes⟩ := hr
              obtain ⟨hfn, m', hm', hnew⟩ := insertK_is (val := a.eval x) (K := fun m => m = trues (ll ++ [i])) (insB hk.1 (by unfold trues; rw [List.map_append]; rfl)) hes
              subst hm'
              have hk := hk.2
              have hm : a.eval m = .map (some (E.blk kb)) := hm
              have hkk : a.eval k = .int .i64 i := hkk
              have hu := tab_map hT hkd
              have hki' := tab_int hT hki
              have hpl := h.place kb _ hmem hl
              have hck : (Instr.checkKey false 10000 kt (.int .i64 i)).run P w = .ok () w := by
                rw [show (10000 : Nat) = 9999 + 1 from rfl, Instr.checkKey, Sem.run_bind, run_underlying hki']
                rfl
              have hfk : (Instr.findKey kt (.int .i64 i) es.toList).run P w = .ok none w := by
                simp [Instr.findKey, run_underlying hki', hfn ki 0]
              have hgo : (getObj (E.blk kb)).run P w = .ok (.map es clock) w := by simp [getObj, Sem.run, hb]
              have hso : ∀ ob, (setObj (E.blk kb) ob).run P w = .ok () { w with heap := w.heap.setIfInBounds (E.blk kb) ob } := fun ob => by simp [setObj, Sem.run, hb]
              generalize hob : Obj.map (es.push { key := .int .i64 i, val := a.eval x, born := clock }) (clock + 1) = ob at *
              have hrun : (execOp a.eval o).run P w = .ok .skip { w with heap := w.heap.setIfInBounds (E.blk kb) ob } := by
                have hmu : (Instr.mapUpdate t (.map (some (E.blk kb))) (.int .i64 i) (a.eval x)).run P w = .ok () { w with heap := w.heap.setIfInBounds (E.blk kb) ob } := by
                  simp only [Instr.mapUpdate, Sem.run_bind, run_underlying hu, Result.andThen_ok, hgo, hck, hfk]
                  rw [hob, hso]
                unfold execOp
                rcases ho with ho | ho <;> simp only [ho, hm, hkk, Sem.run_bind, hmu, Result.andThen_ok, Sem.run_pure]
              have hsame : ∀ b, b ≠ E.blk kb → (w.heap.setIfInBounds (E.blk kb) ob)[b]? = w.heap[b]? := fun b hne => by
                rw [Array.getElem?_setIfInBounds_ne (fun e => hne e.symm)]
              obtain ⟨st', q1, q2, q3⟩ := h.box (w' := { w with heap := w.heap.setIfInBounds (E.blk kb) ob }) hmem hl hk (h.below.trans ⟨rfl, rfl, rfl, by simp, fun b hb2 => hsame b (by omega)⟩) (by simp) (fun b _ hne => hsame b hne)
                (fun X' hx2 hoff => ⟨hl, es.push _, clock + 1, by
                  show (w.heap.setIfInBounds (E.blk kb) ob)[E.blk kb]? = _
                  rw [Array.getElem?_setIfInBounds_self_of_lt hpl.2, ← hob], by
                  rw [Array.toList_push]
                  have hR := RB.up (X' := X') (w' := { w with heap := w.heap.setIfInBounds (E.blk kb) ob }) (E' := E) (k := kb) (h.mem kb _ hmem)
                  have hup : ∀ (es : List MapEntry) (m : List (Int × SV)), RFm (own X0 E st.mem) w E es m → RFm X' { w with heap := w.heap.setIfInBounds (E.blk kb) ob } E es m := by
                    intro es
                    induction es with
                    | nil => intro m h; cases m with
                      | nil => trivial
                      | cons => exact h.elim
                    | cons e es ih => intro m h; cases m with
                      | nil => exact h.elim
                      | cons p ps => exact ⟨h.1, h.2.1.up hoff (fun b _ hb => hx2 b hb) (fun _ _ => ⟨rfl, rfl⟩), ih ps h.2.2⟩
                  exact hnew _ _ _ _ (hup _ _ hes) (hx.up hoff (fun b _ hb => hx2 b hb) (fun _ _ => ⟨rfl, rfl⟩))⟩)
              unfold Oper.wp
              rw [hrun]
              exact hn st' _ undef _ E q1 q2 trivial ⟨by simp, fun b hb hb2 => hsame b fun e => hb2 kb (by simp [mapsOf]) _ hmem hl e.symm⟩
            · exact hk.elim
          · cases hmv : vx.mapVal with
            | false => rw [hmv] at hk; exact hk.elim
            | true =>
              rw [hmv] at hk
              simp only [cond_true] at hk
              obtain ⟨bx, hmem, hk⟩ := findK_is hk
              have hr := h.mem kb bx hmem
              split at hk
              · rename_i mm
                obtain ⟨hl, es, clock, hb, hes⟩ := hr
                obtain ⟨hfn, m', hk, hnew⟩ := insertK_is (val := a.eval x) hk hes
                have hm : a.eval m = .map (some (E.blk kb)) := hm
                have hkk : a.eval k = .int .i64 i := hkk
                have hu := tab_map hT hkd
                have hki' := tab_int hT hki
                have hpl := h.place kb _ hmem hl
                have hck : (Instr.checkKey false 10000 kt (.int .i64 i)).run P w = .ok () w := by
                  rw [show (10000 : Nat) = 9999 + 1 from rfl, Instr.checkKey, Sem.run_bind, run_underlying hki']
                  rfl
                have hfk : (Instr.findKey kt (.int .i64 i) es.toList).run P w = .ok none w := by
                  simp [Instr.findKey, run_underlying hki', hfn ki 0]
                have hgo : (getObj (E.blk kb)).run P w = .ok (.map es clock) w := by simp [getObj, Sem.run, hb]
                have hso : ∀ ob, (setObj (E.blk kb) ob).run P w = .ok () { w with heap := w.heap.setIfInBounds (E.blk kb) ob } := fun ob => by simp [setObj, Sem.run, hb]
                generalize hob : Obj.map (es.push { key := .int .i64 i, val := a.eval x, born := clock }) (clock + 1) = ob at *
                have hrun : (execOp a.eval o).run P w = .ok .skip { w with heap := w.heap.setIfInBounds (E.blk kb) ob } := by
                  have hmu : (Instr.mapUpdate t (.map (some (E.blk kb))) (.int .i64 i) (a.eval x)).run P w = .ok () { w with heap := w.heap.setIfInBounds (E.blk kb) ob } := by
                    simp only [Instr.mapUpdate, Sem.run_bind, run_underlying hu, Result.andThen_ok, hgo, hck, hfk]
                    rw [hob, hso]
                  unfold execOp
                  rcases ho with ho | ho <;> simp only [ho, hm, hkk, Sem.run_bind, hmu, Result.andThen_ok, Sem.run_pure]
                have hsame : ∀ b, b ≠ E.blk kb → (w.heap.setIfInBounds (E.blk kb) ob)[b]? = w.heap[b]? := fun b hne => by
                  rw [Array.getElem?_setIfInBounds_ne (fun e => hne e.symm)]
                obtain ⟨st', q1, q2, q3⟩ := h.box (w' := { w with heap := w.heap.setIfInBounds (E.blk kb) ob }) hmem hl hk (h.below.trans ⟨rfl, rfl, rfl, by simp, fun b hb2 => hsame b (by omega)⟩) (by simp) (fun b _ hne => hsame b hne)
                  (fun X' hx2 hoff => ⟨hl, es.push _, clock + 1, by
                    show (w.heap.setIfInBounds (E.blk kb) ob)[E.blk kb]? = _
                    rw [Array.getElem?_setIfInBounds_self_of_lt hpl.2, ← hob], by
                    rw [Array.toList_push]
                    have hR := RB.up (X' := X') (w' := { w with heap := w.heap.setIfInBounds (E.blk kb) ob }) (E' := E) (k := kb) (h.mem kb _ hmem)
                    have hup : ∀ (es : List MapEntry) (m : List (Int × SV)), RFm (own X0 E st.mem) w E es m → RFm X' { w with heap := w.heap.setIfInBounds (E.blk kb) ob } E es m := by
                      intro es
                      induction es with
                      | nil => intro m h; cases m with
                        | nil => trivial
                        | cons => exact h.elim
                      | cons e es ih => intro m h; cases m with
                        | nil => exact h.elim
                        | cons p ps => exact ⟨h.1, h.2.1.up hoff (fun b _ hb => hx2 b hb) (fun _ _ => ⟨rfl, rfl⟩), ih ps h.2.2⟩
                    exact hnew _ _ _ _ (hup _ _ hes) (hx.up hoff (fun b _ hb => hx2 b hb) (fun _ _ => ⟨rfl, rfl⟩))⟩)
                unfold Oper.wp
                rw [hrun]
                exact hn st' _ undef _ E q1 q2 trivial ⟨by simp, fun b hb hb2 => hsame b fun e => hb2 kb (by simp [mapsOf]) _ hmem hl e.symm⟩
              · exact hk.elim
        · exact hk.elim
      · exact hk.elim
    · exact hk.elim
  · exact hk.elim

theorem isTail_is {lo hi mx : Option Operand} (h : isTail lo hi mx = true) : lo = some (.const (.int .i64 1)) ∧ hi = none ∧ mx = none := by
  unfold isTail at h
  split at h
  · split at h
    · split at h
      · rename_i n _ _
        have := of_decide_eq_true h
        subst this
        exact ⟨rfl, rfl, rfl⟩
      · cases h
    · cases h
  · cases h
/-- A row of one's own loses its first element. -/
theorem cutTail_is {o : Oper} {n : Act → World → Prop} {Q : Exit → Act → World → Prop} {b k : Nat} {x : Operand} {lo hi mx : Option Operand} {t : TypeId} {K : St → SV → Prop} (hT : T.ok P) (ho : o.op = .slice t x lo hi mx)
    (h : RE X0 w0 as E st a w) (hv : RV (own X0 E st.mem) w E (a.eval x) (.one (.row k))) (hk : cutTailK T b o.dst t st k K) (hpr : as.free (appendsOf (.one (.row k))))
    (htl : isTail lo hi mx = true) (hn : ∀ st' v u E', K st' v → RE X0 w0 as E' st' a w → RV (own X0 E' st'.mem) w E' u v → n (a.put o.dst u) w) : o.wp P a w n Q := by
  obtain ⟨rfl, rfl, rfl⟩ := isTail_is htl
  have hev : a.eval x = E.rv k := hv.1
  unfold cutTailK at hk
  split at hk
  · rename_i e hkd
    obtain ⟨bx, hmem, hk⟩ := findK_is hk
    have hr := h.mem k bx hmem
    split at hk
    · rename_i e' ty lst
      cases hz : szOk (T.at e).size ty.size with
      | false => rw [hz] at hk; exact hk.elim
      | true =>
        rw [hz] at hk
        have hs := elem_size hT hkd hz
        have hu := tab_sl hT hkd
        split at hk
        · rename_i dd hdd
          obtain ⟨h1, hk⟩ := hk
          unfold RB at hr
          cases hlv : E.live k with
          | false => rw [hlv] at hr; obtain ⟨_, hr⟩ := hr; rw [hr] at h1; exact absurd h1 (Nat.not_succ_le_zero 0)
          | true =>
            rw [hlv] at hr
            obtain ⟨pre, cap, cur, e1, e2, e3, e4, e5, e6⟩ := hr
            have hpl := h.place k _ hmem hlv
            have hdl : (lst.drop 1).length = lst.length - 1 := List.length_drop
            have hy := yields_slice (P := P) (l := 1) ho hu hs (hev.trans e1) (.inr (.inr ⟨_, _, rfl, rfl, rfl⟩)) (.inl ⟨.inl ⟨rfl, rfl⟩, .inl ⟨rfl, rfl⟩, rfl, rfl⟩) h1 e3 (Nat.le_refl _) w
            by_cases hc : cap = 1
            · subst hc
              have hl1 : lst.length = 1 := by omega
              have hnil : lst.drop 1 = [] := List.eq_nil_of_length_eq_zero (by omega)
              rw [hnil] at hk
              rw [if_pos rfl, hl1] at hy
              obtain ⟨st1, hk, h2, hown1, _⟩ := h.drop (X1 := X0) hmem hk (fun b hb => .inl hb) (fun _ _ _ => trivial)
              obtain ⟨E', st', sv, q1, q2, q3⟩ := newEmp h2 hk (Below.refl _ w) (v := .slice (some ⟨E.blk k, pre.length, none⟩) 0 0) ⟨_, rfl⟩
              exact wp_yield n Q _ hy (hn st' sv _ E' q1 q2 q3)
            · obtain ⟨st1, hk, h2, hown1, _⟩ := h.drop (X1 := fun b => X0 b ∨ b = E.blk k) hmem hk (fun b hb => hb.elim .inl fun e => .inr ⟨hlv, e⟩) (fun _ _ _ => trivial)
              have hX : ∀ b, X0 b → (X0 b ∨ b = E.blk k) ∧ b ≠ E.blk k := fun b hb => ⟨.inl hb, fun e => own_of_mem h hmem hlv (e ▸ hb)⟩
              have hsz : ty.size ≤ cur.length := by
                rw [e5]
                have := Nat.mul_le_mul_right ty.size (show 1 ≤ cap by omega)
                rwa [Nat.one_mul] at this
              have hch := Chunks.dropL ty.size (fun _ _ h => DC.len h) 1 e6
              rw [Nat.one_mul, List.drop_take, show lst.length * ty.size - ty.size = (lst.drop 1).length * ty.size by rw [hdl, Nat.sub_mul, Nat.one_mul]] at hch
              obtain ⟨E', st', sv, q1, q2, q3⟩ := newRowOld (X0 := X0) (w' := w) (cap := cap - 1) (pre := pre ++ cur.take ty.size) (cur := cur.drop ty.size) h2 hk h2.below (Nat.le_refl _) (fun _ _ _ => rfl) (.inr rfl) (hpr k (by simp [appendsOf]) _ (h.prot k _ hmem hlv) _) hpl.1 hX (by rw [List.append_assoc, List.take_append_drop]; exact e2)
                (hch.mono fun _ _ h => DC.up (Off.refl _ _) (fun b _ hb => hown1 b hb) h) (by omega) (by omega) (by rw [List.length_drop, e5, Nat.sub_mul, Nat.one_mul])
              rw [hdl] at q3
              refine wp_yield n Q _ hy ?_
              rw [if_neg hc]
              have hpl2 : (pre ++ cur.take ty.size).length = pre.length + 1 * ty.size := by rw [List.length_append, List.length_take, Nat.min_eq_left hsz, Nat.one_mul]
              rw [hpl2] at q3
              rw [show Option.map (fun x : Addr => x.add (1 * ty.size)) (some (⟨E.blk k, pre.length, none⟩ : Addr)) = some ⟨E.blk k, pre.length + 1 * ty.size, none⟩ from congrArg some (Addr.add_lit _ _ _)]
              exact hn st' sv _ E' q1 q2 q3
        · exact hk.elim
    · exact hk.elim
  · exact hk.elim
/-- One operation. -/
theorem op_is {hd : Bool} {call : Nat → List SV → St → (St → SV → Prop) → Prop} {N : Nat → Prop} {b : Nat} {o : Oper} {n : Act → World → Prop} {Q : Exit → Act → World → Prop} {K : St → SV → Prop} (hT : T.ok P) (hC : CallOkF P call as N) (hNw : ∀ b, N b → b < w.heap.size)
    (h : RE X0 w0 as E st a w) (hpr : as.free (wrOf o st)) (hk : vOp T hd call b o st K)
    (hn : ∀ st' v u w' E', K st' v → RE X0 w0 as E' st' a w' → RV (own X0 E' st'.mem) w' E' u v → ((isCallV o = true ∧ BelowS N w w') ∨ Wrote E st.mem (wrOf o st) w w') → n (a.put o.dst u) w') : o.wp P a w n Q := by
  have read : ∀ {K : SV → Prop}, vRead T hd o st K → (∀ v u, K v → RV (own X0 E st.mem) w E u v → n (a.put o.dst u) w) → o.wp P a w n Q := fun hk hn => by
    obtain ⟨v, u, h1, h2, h3⟩ := read_is hT h hk
    exact wp_yield n Q u (h3 w (.inr fun _ _ _ => rfl)) (hn v u h1 h2)
  have plain : vRead T hd o st (fun v => K st v) → o.wp P a w n Q := fun hk => read hk fun v u h1 h2 => hn st v u w E h1 h h2 (.inr (Wrote.fresh (Below.refl _ w)))
  unfold vOp at hk
  split at hk
  · rename_i t ho
    split at hk
    · rename_i d hd
      split at hk
      · rename_i ty hty
        obtain ⟨h1, _, z, hz, hz2, _⟩ := tab_ty hT hty
        refine wp_alloc n Q t z z.cells ho hz rfl fun g w' hg1 hg2 hb hB => ?_
        rw [← hd] at hk
        obtain ⟨E', st', q1, q2, q3⟩ := newCells (us := zeroV ty) h hk hB hg1 hg2 (by rw [← hz2]; simpa using hb) (zero_is ty)
        exact hn st' _ _ w' E' q1 q2 q3 (.inr (Wrote.fresh hB))
      · split at hk
        · rename_i nn e hkd
          split at hk
          · rename_i he
            have hk := normL_is hk
            obtain ⟨z, hz, hz2⟩ := tab_fns hT hkd he
            refine wp_alloc n Q t z z.cells ho hz rfl fun g w' hg1 hg2 hb hB => ?_
            rw [← hd] at hk
            obtain ⟨E', st', q1, q2, q3⟩ := newCells (us := List.replicate nn .nilFunc) h hk hB hg1 hg2 (by rw [← hz2]; simpa using hb) (nofn_is nn)
            exact hn st' _ _ w' E' q1 q2 q3 (.inr (Wrote.fresh hB))
          · exact hk.elim
        · exact hk.elim
    · exact hk.elim
  · rename_i t x ho
    obtain ⟨v, hk, hv⟩ := eval_is hk h
    obtain ⟨us, cs, hk, hu, hcs⟩ := cells_is hv hk
    split at hk
    · rename_i d hd
      refine wp_box n Q t x us.toArray ho hu fun g w' hg1 hg2 hb hB => ?_
      rw [← hd] at hk
      obtain ⟨E', st', q1, q2, q3⟩ := newCells h hk hB hg1 hg2 hb hcs
      exact hn st' _ _ w' E' q1 q2 q3 (.inr (Wrote.fresh hB))
    · exact hk.elim
  · rename_i t nn parts ho
    split at hk
    · rename_i e hkd
      split at hk
      · rename_i d hd
        split at hk
        · rename_i ty hty
          have hok := tab_clone hT hkd hty
          split at hk
          · split at hk
            · rename_i hp
              have e1 : parts = #[] := by apply Array.ext'; simpa using hp
              subst e1
              refine wp_empty n Q t e ty.size ho hok fun g w' hg1 hg2 hb hM => ?_
              have hB := fresh_mod hM fun _ _ h => h
              have hoff : Off (own X0 E st.mem) w w' := Off.ofBelow hB
              have h2 : RE X0 w0 as E st a w' := by
                refine ⟨fun b hb => ⟨Nat.lt_of_lt_of_le (h.apart b hb).1 hB.size, (h.apart b hb).2⟩, h.belowUp hB, h.defers, h.tmps.up hoff (fun _ _ hx => hx) fun _ _ => ⟨rfl, rfl⟩, fun k bx hm => (h.mem k bx hm).up hoff (fun _ _ hx => hx) (fun _ _ => ⟨rfl, rfl⟩) ⟨rfl, rfl, rfl⟩ fun hl => hB.block _ (h.place k bx hm hl).2,
                  fun k bx hm hl => ⟨(h.place k bx hm hl).1, Nat.lt_of_lt_of_le (h.place k bx hm hl).2 hB.size⟩, h.keys, h.inj, h.stk.up hoff (fun _ _ hx => hx) (fun _ _ => ⟨rfl, rfl⟩), h.prot, fun j b hb => h.prN j b (Nat.le_trans hB.size hb)⟩
              exact hn st _ _ w' E hk h2 ⟨some ⟨g, 0, none⟩, rfl⟩ (.inr (Wrote.fresh hB))
            · exact hk.elim
          · rename_i nn
            obtain ⟨st1, ys, news, hk, h1, hch, hsub, hfill⟩ := elems_is h hk
            cases hlen0 : (bif Nat.beq ys.length (nn + 1) then Nat.ble ((nn + 1) * ty.size) 16777216 else false) with
            | false => rw [hlen0] at hk; exact hk.elim
            | true =>
              rw [hlen0] at hk
              have hlen : ys.length = nn + 1 ∧ (nn + 1) * ty.size ≤ 16777216 := by
                cases hlb : Nat.beq ys.length (nn + 1) with
                | false => rw [hlb] at hlen0; cases hlen0
                | true => rw [hlb] at hlen0; exact ⟨beq_of hlb, Nat.le_of_ble_eq_true hlen0⟩
              obtain ⟨hlen, hsmall⟩ := hlen
              obtain ⟨i, z, c1, c2, c3, c4, c5, c6, c7⟩ := cloneOk_is hok
              have hnl : news.length = ys.length * ty.size := Chunks.length ty.size (fun _ _ h => DC.len h) hch
              have hb : ∀ w, (Instr.buildSlice t (nn + 1) (parts.map fun p => (p.1, a.eval p.2))).run P w = .ok (.slice (some ⟨w.heap.size, 0, none⟩) (nn + 1) (nn + 1)) (w.alloc (.cells news.toArray e)) := fun w2 => by
                have hf := hfill [] ((Array.range ((nn + 1) * ty.size)).map (z.cells[· % z.cells.size]!)).toList (by simp) (by simp; rw [hnl, hlen]; exact Nat.le_refl _)
                rw [List.nil_append, List.nil_append, List.drop_eq_nil_of_le (by simp; rw [hnl, hlen]; exact Nat.le_refl _), List.append_nil, Array.toArray_toList] at hf
                have hne : ¬ (nn + 1) * ty.size = 0 := by
                  have := Nat.mul_pos (show 0 < nn + 1 by omega) c6
                  omega
                have hbig : ¬ (nn + 1) * ty.size > 2 ^ 24 := by omega
                have hzv : (zeroValue e).run P w2 = .ok z w2 := by simp [zeroValue, typeInfo, c2, c3]
                unfold Instr.buildSlice
                simp only [Sem.run_bind, run_underlying c1, Result.andThen_ok]
                simp [sizeOf, typeInfo, c2, c4, hne, hbig, hzv, hf, Go.newRow]
              refine wp_build1 n Q t e (nn + 1) parts _ news.toArray ho rfl hb fun g w' hg1 hg2 hbb hM => ?_
              have hB := fresh_mod hM fun _ _ h => h
              obtain ⟨E', st', sv, q1, q2, q3⟩ := newRow (cap := nn + 1) h1 hk hB hg1 hg2 hbb hch (by omega) (by unfold maxLen; have := Nat.le_mul_of_pos_right (nn + 1) c6; omega) (by rw [List.size_toArray, hnl, hlen]) (by
                rw [List.toList_toArray]
                exact List.take_of_length_le (by rw [hnl]; exact Nat.le_refl _))
              rw [hlen] at q3
              exact hn st' _ _ w' E' q1 q2 q3 (.inr (Wrote.fresh hB))
        · exact hk.elim
      · exact hk.elim
    · exact hk.elim
  · rename_i t x y ho
    obtain ⟨hk, hv⟩ := eval_of hk h
    obtain ⟨v, hk, hy⟩ := eval_is hk h
    obtain ⟨us, ds, hk, hu, hds⟩ := cells_is hy hk
    refine store_is hT ho h hv hu hds hk fun st' v' u w' E' q1 q2 q3 q4 => hn st' v' u w' E' q1 q2 q3 (.inr ?_)
    have : wrOf o st = storesTo (valOf st x) := by unfold wrOf; rw [ho]
    rw [this]; exact q4
  · rename_i t x y ho
    obtain ⟨vx, hk, hx⟩ := eval_is hk h
    obtain ⟨vy, hk, hy⟩ := eval_is hk h
    split at hk
    · rename_i nn _
      split at hk
      · rename_i mm
        split at hk
        · rename_i e hkd
          split at hk
          · rename_i d hd
            split at hk
            · rename_i ty hty
              obtain ⟨⟨h0, h1, h2⟩, hk⟩ := hk
              subst h2
              obtain ⟨k, rfl⟩ := Int.eq_ofNat_of_zero_le h0
              have hok := tab_clone hT hkd hty
              rw [Int.toNat_natCast] at hk
              obtain ⟨_, _, z', hz, hz2, _⟩ := tab_ty hT hty
              refine wp_make n Q t e x y k ty.size ho hok hx hy (by omega) fun g w' cs hg1 hg2 hb hcs hM => ?_
              obtain ⟨z, i, c2, c3, rfl⟩ := hcs
              have hB := fresh_mod hM fun _ _ h => h
              have hzz : z.cells.toList = zeroV ty := by
                rw [c2] at hz
                simp only [Option.bind_some] at hz
                rw [c3] at hz
                rw [Option.some.inj hz]; exact hz2
              have hmz := made_zero (X := own X0 E st.mem) (w := w) hzz k
              obtain ⟨E', st', sv, q1, q2, q3⟩ := newRow (cap := k) h hk hB hg1 hg2 hb hmz (by simp) (by unfold maxLen; omega) (by rw [size_madeCells]) (by
                rw [List.length_replicate]
                exact List.take_of_length_le (by rw [Array.length_toList, size_madeCells]; exact Nat.le_refl _))
              rw [List.length_replicate] at q3
              exact hn st' _ _ w' E' q1 q2 q3 (.inr (Wrote.fresh hB))
            · exact hk.elim
          · exact hk.elim
        · exact hk.elim
      · exact hk.elim
    · exact hk.elim
  · rename_i t x lo hi mx ho
    obtain ⟨hk, hv⟩ := eval_of hk h
    have hpr' : as.free (appendsOf (valOf st x)) := by
      have : wrOf o st = appendsOf (valOf st x) := by unfold wrOf; rw [ho]
      rw [← this]; exact hpr
    generalize valOf st x = v at hk hv hpr'
    split at hk
    · rename_i k
      cases htl : isTail lo hi mx with
      | true =>
        rw [htl] at hk
        exact cutTail_is hT ho h hv hk hpr' htl fun st' v u E' q1 q2 q3 => hn st' v u w E' q1 q2 q3 (.inr (Wrote.fresh (Below.refl _ w)))
      | false =>
      rw [htl] at hk
      simp only [cond_false] at hk
      obtain ⟨l, hk, hl⟩ := optInt_is hk h
      obtain ⟨hh, hk, hh2⟩ := optInt_is hk h
      obtain ⟨m, hk, hm⟩ := optInt_is hk h
      cases l with
      | some lo =>
        simp only at hk
        obtain ⟨st1, c', hk, h1, hu', _⟩ := freeze_is (u := a.eval x) (c := .row k) h hv hk
        obtain ⟨v', u, q1, q2, q3⟩ := slice_is (v := .one c') hT ho hu' hl hh2 hm hk
        exact wp_yield n Q u (q3 w) (hn st1 v' u w E q1 h1 q2 (.inr (Wrote.fresh (Below.refl _ w))))
      | none =>
      simp only at hk
      unfold cutRowK at hk
      split at hk
      · rename_i e hkd
        obtain ⟨bx, hmem, hk⟩ := findK_is hk
        have hr := h.mem k bx hmem
        split at hk
        · rename_i e' ty lst
          cases hz : szOk (T.at e).size ty.size with
          | false => rw [hz] at hk; exact hk.elim
          | true =>
            rw [hz] at hk
            have hs := elem_size hT hkd hz
            have hu := tab_sl hT hkd
            split at hk
            · rename_i dd hh0 hdd _ _ _
              obtain ⟨⟨h0, h1⟩, hk⟩ := hk
              have hev : a.eval x = E.rv k := hv.1
              unfold RB at hr
              cases hlv : E.live k with
              | false =>
                rw [hlv] at hr
                obtain ⟨hr, rfl⟩ := hr
                obtain ⟨st1, hk, h2, hown1, _⟩ := h.drop (X1 := X0) hmem hk (fun b hb => .inl hb) (fun _ _ _ => trivial)
                have hbase : ∃ base, E.rv k = .slice base 0 0 := hr
                obtain ⟨base, hbase⟩ := hbase
                have hhz : hh0.toNat = 0 := by simp at h1; omega
                have hy := yields_slice (P := P) ho hu hs (hev.trans hbase) (.inl ⟨hl, rfl⟩) (.inr ⟨bd_nat hh2 h0, .inl ⟨hm, rfl⟩⟩) (Nat.zero_le _) (by omega) (Nat.le_refl _) w
                rw [hhz] at hy
                simp only [List.take_nil] at hk
                obtain ⟨E', st', sv, q1, q2, q3⟩ := newEmp h2 hk (Below.refl _ w) (v := .slice base 0 0) (by rw [← hbase]; exact hr.up (Off.refl _ _) fun b _ hb => hown1 b hb)
                exact wp_yield n Q (.slice base 0 0) (show Yields P o a (.slice base 0 0) w by simpa using hy) (hn st' sv _ w E' q1 q2 q3 (.inr (Wrote.fresh (Below.refl _ w))))
              | true =>
                rw [hlv] at hr
                obtain ⟨pre, cap, cur, e1, e2, e3, e4, e5, e6⟩ := hr
                have hpl := h.place k _ hmem hlv
                obtain ⟨st1, hk, h2, hown1, _⟩ := h.drop (X1 := fun b => X0 b ∨ b = E.blk k) hmem hk (fun b hb => hb.elim .inl fun e => .inr ⟨hlv, e⟩) (fun _ _ _ => trivial)
                have hX : ∀ b, X0 b → (X0 b ∨ b = E.blk k) ∧ b ≠ E.blk k := fun b hb => ⟨.inl hb, fun e => own_of_mem h hmem hlv (e ▸ hb)⟩
                have htl : (lst.take hh0.toNat).length = hh0.toNat := by rw [List.length_take]; omega
                have hy := yields_slice (P := P) ho hu hs (hev.trans e1) (.inl ⟨hl, rfl⟩) (.inr ⟨bd_nat hh2 h0, .inl ⟨hm, rfl⟩⟩) (Nat.zero_le _) (by omega) (Nat.le_refl _) w
                have hch := Chunks.takeL ty.size (fun _ _ h => DC.len h) hh0.toNat e6
                have hle : hh0.toNat * ty.size ≤ lst.length * ty.size := Nat.mul_le_mul_right _ (by omega)
                rw [List.take_take, Nat.min_eq_left hle] at hch
                obtain ⟨E', st', sv, q1, q2, q3⟩ := newRowOld (X0 := X0) (w' := w) (cap := cap) (cur := cur) h2 hk h2.below (Nat.le_refl _) (fun _ _ _ => rfl) (.inr rfl) (hpr' k (by simp [appendsOf]) _ (h.prot k _ hmem hlv) _) hpl.1 hX e2 (by rw [htl]; exact hch.mono fun _ _ h => DC.up (Off.refl _ _) (fun b _ hb => hown1 b hb) h) (by rw [htl]; omega) e4 e5
                rw [htl] at q3
                refine wp_yield n Q (.slice (some ⟨E.blk k, pre.length, none⟩) hh0.toNat cap) (show Yields P o a _ w by
                  have : (if cap = 0 then some (⟨E.blk k, pre.length, none⟩ : Addr) else Option.map (fun x : Addr => x.add (0 * ty.size)) (some (⟨E.blk k, pre.length, none⟩ : Addr))) = some ⟨E.blk k, pre.length, none⟩ := by
                    split <;> simp [Addr.add]
                  rw [this] at hy
                  simpa using hy) (hn st' sv _ w E' q1 q2 q3 (.inr (Wrote.fresh (Below.refl _ w))))
            · exact hk.elim
        · exact hk.elim
      · exact hk.elim
    · obtain ⟨l, hk, hl⟩ := optInt_is hk h
      obtain ⟨hh, hk, hh2⟩ := optInt_is hk h
      obtain ⟨m, hk, hm⟩ := optInt_is hk h
      obtain ⟨v', u, h1, h2, h3⟩ := slice_is hT ho hv hl hh2 hm hk
      exact wp_yield n Q u (h3 w) (hn st v' u w E h1 h h2 (.inr (Wrote.fresh (Below.refl _ w))))
  · rename_i t r ho
    split at hk
    · split at hk
      · rename_i d hd
        have hrun : (execOp a.eval o).run P w = .ok (.value (.map (some w.heap.size))) (w.alloc (.map #[] 0)) := by
          unfold execOp
          simp only [ho, Option.map_none, Sem.run_bind, run_makeMap, Result.andThen_ok, Sem.run_pure]
        have hB : Below w.heap.size w (w.alloc (.map #[] 0)) := below_box _
        have go : ∀ bx : Box, (∀ (X' : Nat → Prop) (w' : World) (E'' : Env) (kk : Nat), E''.live kk = true → w'.heap[E''.blk kk]? = some (.map #[] 0) → RB X' w' E'' kk bx) → (st.new (b + d) none bx fun st => K st (.one (.map (b + d)))) → o.wp P a w n Q := fun bx hbx hk => by
          obtain ⟨E', st', q1, q2, q3, q4, q5, q6, q7⟩ := RE.new (X1 := X0) (g := w.heap.size) (v := undef) (l := true) h hk (h.belowUp hB) hB.size (fun b hb _ => hB.block b hb) (fun _ => ⟨.inr (Nat.le_refl _), h.below.size, by simp⟩)
            (fun b hb => ⟨hb, fun _ e => by have := (h.apart b hb).1; omega⟩) (fun X' E'' hx hoff hag e1 e2 e3 _ _ => hbx X' _ E'' _ e3 (by rw [e1]; exact heap_alloc_new _ _))
          unfold Oper.wp
          rw [hrun]
          exact hn st' _ _ _ E' q1 q2 (by show _ = _; rw [q3]) (.inr (Wrote.fresh hB))
        split at hk
        · split at hk
          · exact go (.bmap []) (fun X' w' E'' kk hl hb => ⟨hl, #[], 0, hb, trivial⟩) hk
          · exact go (.fmap []) (fun X' w' E'' kk hl hb => ⟨hl, #[], 0, hb, trivial⟩) hk
        · exact go (.fmap []) (fun X' w' E'' kk hl hb => ⟨hl, #[], 0, hb, trivial⟩) hk
      · exact hk.elim
    · exact hk.elim
  · rename_i t m k x ho
    obtain ⟨hk, hm⟩ := eval_of hk h
    obtain ⟨vk, hk, hkk⟩ := eval_is hk h
    obtain ⟨vx, hk, hx⟩ := eval_is hk h
    refine update_is hT (.inl ho) h hm hkk hx hk fun st' v' u w' E' q1 q2 q3 q4 => hn st' v' u w' E' q1 q2 q3 (.inr ?_)
    have : wrOf o st = mapsOf (valOf st m) := by unfold wrOf; rw [ho]
    rw [this]; exact q4
  · rename_i t m k x ho
    obtain ⟨hk, hm⟩ := eval_of hk h
    obtain ⟨vk, hk, hkk⟩ := eval_is hk h
    obtain ⟨vx, hk, hx⟩ := eval_is hk h
    refine update_is hT (.inr ho) h hm hkk hx hk fun st' v' u w' E' q1 q2 q3 q4 => hn st' v' u w' E' q1 q2 q3 (.inr ?_)
    have : wrOf o st = mapsOf (valOf st m) := by unfold wrOf; rw [ho]
    rw [this]; exact q4
  · rename_i c ho
    obtain ⟨callee, args, argTypes⟩ := c
    split at hk
    · rename_i bn hbn
      simp only at hbn
      subst hbn
      split at hk
      · split at hk
        · rename_i x y hxy
          split at hk
          · rename_i t t' htt
            cases hte : Nat.beq t t' with
            | false =>
              rw [hte] at hk
              have e1 : args = #[x, y] := by apply Array.ext'; simpa using hxy
              have e2 : argTypes = #[t, t'] := by apply Array.ext'; simpa using htt
              subst e1 e2
              simp only [cond_false] at hk
              obtain ⟨vs', hk, hx⟩ := eval_is hk h
              obtain ⟨vy, hk, hy⟩ := eval_is hk h
              exact appendZ_is hT ho h hx hy hk fun st' v' u w' E' q1 q2 q3 q4 => hn st' v' u w' E' q1 q2 q3 (.inr ⟨q4.1, fun b hb _ => q4.2 b hb fun k hk => nomatch hk⟩)
            | true =>
              rw [hte] at hk
              have hte := beq_of hte
              subst hte
              have e1 : args = #[x, y] := by apply Array.ext'; simpa using hxy
              have e2 : argTypes = #[t, t] := by apply Array.ext'; simpa using htt
              subst e1 e2
              obtain ⟨hk, hx⟩ := eval_of hk h
              obtain ⟨vy, hk, hy⟩ := eval_is hk h
              refine append_is hT ho h hx hy hk (show as.free (appendsOf (valOf st x)) from (show wrOf o st = appendsOf (valOf st x) by unfold wrOf; rw [ho]) ▸ hpr) fun st' v' u w' E' q1 q2 q3 q4 => hn st' v' u w' E' q1 q2 q3 (.inr ?_)
              have : wrOf o st = appendsOf (valOf st x) := by unfold wrOf; rw [ho]
              rw [this]; exact q4
          · exact hk.elim
        · exact hk.elim
      · split at hk
        · rename_i x y hxy
          split at hk
          · rename_i t t' htt
            have e1 : args = #[x, y] := by apply Array.ext'; simpa using hxy
            have e2 : argTypes = #[t, t'] := by apply Array.ext'; simpa using htt
            subst e1 e2
            obtain ⟨hk, hx⟩ := eval_of hk h
            obtain ⟨vy, hk, hy⟩ := eval_is hk h
            refine copy_is hT ho h hx hy hk (show as.free (appendsOf (valOf st x)) from (show wrOf o st = appendsOf (valOf st x) by unfold wrOf; rw [ho]) ▸ hpr) fun st' v' u w' E' q1 q2 q3 q4 => hn st' v' u w' E' q1 q2 q3 (.inr ?_)
            have : wrOf o st = appendsOf (valOf st x) := by unfold wrOf; rw [ho]
            rw [this]; exact q4
          · exact hk.elim
        · exact hk.elim
      · exact plain hk
    · rename_i f hf
      simp only at hf
      subst hf
      obtain ⟨vf, hk, hvf⟩ := eval_is hk h
      split at hk
      · rename_i g caps
        obtain ⟨vs, hk, hvs⟩ := args_is hk h
        have hall := RVs.append hvs (caps_read (X := own X0 E st.mem) (w := w) (E := E) (caps := caps))
        obtain ⟨hg, hcall⟩ := hC g _ st K X0 w0 E a w _ hNw hk h hall
        refine wp_callv ho hvf rfl hg (vs := args.map a.eval) (R := _) (by
          have e : (args.map a.eval ++ (caps.map fun p => Value.pointer (some ⟨E.blk p.1, p.2, none⟩)).toArray) = (args.toList.map a.eval ++ caps.map fun p => Value.pointer (some ⟨E.blk p.1, p.2, none⟩)).toArray := by
            apply Array.ext'; simp
          rw [e]; exact hcall) fun e w' hr => ?_
        obtain ⟨u, st', v, E', rfl, q1, q2, q3, q4⟩ := hr
        exact ⟨u, rfl, hn st' v u w' E' q1 q2 q3 (.inl ⟨by unfold isCallV; rw [ho], q4⟩)⟩
      · exact hk.elim
    · exact hk.elim
  · exact plain hk
end
end Go.Proofs.YtpobngddiifdpaaGreat.V
