/- Contracts of functions of the program, and what they need (Src, Src2, Gath). -/
import Derived.Test.YtkepgkjbhdgbiaaZ6

namespace Go.Proofs.Ytkepgkjbhdgbiaa
open Go.RowKit

/-- A method called on an interface value whose type is known. -/
theorem wp_invoke {P : Program} {ops : Array Oper} {rest : List Oper} {o : Oper} {a : Act} {w : World} {Q : Exit → Act → World → Prop} {r : Operand} {name : String} {ags : Array Operand} {ats : Array TypeId} {T : TypeId} {f : FuncId} {v : Value} {args : Array Value} {res : Value}
    (hgd : o.guard = none) (ho : o.op = .call { callee := .invoke r name, args := ags, argTypes := ats }) (hr : a.eval r = .iface T v) (hargs : ags.map a.eval = args)
    (hm : (method (P.types.size + Made.depth) T v name).run P w = .ok (f, v) w) (hf : (callFunc f (#[v] ++ args)).run P w = .ok (.enter f (#[v] ++ args)) w)
    (hc : Calls P f (#[v] ++ args) w fun e w' => e = .returned res ∧ Below w.heap.size w w')
    (h : ∀ w', Below w.heap.size w w' → wpList P ops Q rest (a.put o.dst res) w') : wpList P ops Q (o :: rest) a w := by
  refine wpList_plain hgd fun K hK => ?_
  have hrun : (execOp a.eval o).run P w = .ok (.enter f (#[v] ++ args)) w := by
    unfold execOp
    rw [ho]
    have e3 : (#[Value.iface T v] ++ args).extract 1 (#[Value.iface T v] ++ args).size = args := by apply Array.ext'; simp
    have e4 : (#[Value.iface T v] ++ args)[0]? = some (Value.iface T v) := by rw [Array.getElem?_append_left (by simp)]; rfl
    simp only [resolve, invoke, callMethod, hr, hargs]
    simp only [e3, e4, Sem.run_bind, Sem.run_pure, Result.andThen_ok, run_program, hm, hf]
  unfold Oper.wp
  rw [hrun, Oper.upon_enter]
  refine hc.mono ?_
  rintro e w' ⟨rfl, hb⟩
  exact hK _ _ (h w' hb)

/-- Where tokens come from: a page, or lists. -/
inductive Src where
  | paged (g : Nat) (p : Pg)
  | plain (ks vs : List (List Int))

def Src.count : Src → Nat
  | .paged _ p => p.values.length
  | .plain ks _ => ks.length
def Src.key (s : Src) (t i : Nat) : Int := match s with
  | .paged _ p => p.keyAt t i
  | .plain ks _ => (ks.getD t []).getD i 0
def Src.val (s : Src) (t i : Nat) : Int := match s with
  | .paged _ p => p.valAt t i
  | .plain _ vs => (vs.getD t []).getD i 0
/-- It is d wide. -/
def Src.wide (s : Src) (d : Nat) : Prop := match s with
  | .paged _ p => p.keys.length = d
  | .plain ks vs => vs.length = ks.length ∧ (∀ l ∈ ks, l.length = d) ∧ ∀ l ∈ vs, l.length = d

def SrcV (F : Nat → Prop) (w : World) (u : Value) (s : Src) : Prop := match s with
  | .paged g p => u = .iface 65 (.agg #[.pointer (some ⟨g, 0, none⟩)]) ∧ PageAt F w g p
  | .plain ks vs => ∃ kv vv, u = .iface 67 (.agg #[kv, vv]) ∧ Rows F w kv ks ∧ Rows F w vv vs

theorem SrcV.below {F : Nat → Prop} {w w' : World} {u : Value} {s : Src} (h : SrcV F w u s) (hb : Below w.heap.size w w') : SrcV F w' u s := by
  cases s with
  | paged g p => exact ⟨h.1, h.2.below hb⟩
  | plain ks vs =>
    obtain ⟨kv, vv, e, h1, h2⟩ := h
    exact ⟨kv, vv, e, h1.below hb, h2.below hb⟩

theorem field_tokens (kb vb tk dm ly hd ix : Int) (w : World) : (Instr.field 41 (.agg #[.int .i64 kb, .int .i64 vb, .int .i64 tk, .int .i64 dm, .int .i64 ly, .int .i64 hd, .int .i64 ix]) 2).run Try.prog w = .ok (.int .i64 tk) w := by kernel_rfl
theorem field_dim (kb vb tk dm ly hd ix : Int) (w : World) : (Instr.field 41 (.agg #[.int .i64 kb, .int .i64 vb, .int .i64 tk, .int .i64 dm, .int .i64 ly, .int .i64 hd, .int .i64 ix]) 3).run Try.prog w = .ok (.int .i64 dm) w := by kernel_rfl

theorem paged_count {F : Nat → Prop} {w : World} {g : Nat} {p : Pg} (h : PageAt F w g p) : Calls Try.prog 107 #[.agg #[.pointer (some ⟨g, 0, none⟩)]] w (fun e w' => e = .returned (.int .i64 p.values.length) ∧ Below w.heap.size w w') := by
  have hB1 : Below w.heap.size w (w.alloc (.cells #[.pointer (some ⟨g, 0, none⟩)] 65)) := (Below.refl _ _).alloc (Nat.le_refl _) _
  have hp := page_Head (h.below hB1)
  have hl : (p.values.length : Int) = p.head.tokens := h.2.2.2.1
  have HP := Lib.hid hp
  have HL := Lib.hid hl
  clear hp hl
  unfold hdCells at HP
  have hfld := field_tokens
  go_enter Try.func107, Try.ntmps107
  go_wp2_with (go_at_call 40; refine (HP.out).mono ?_; rintro e w' ⟨rfl, hb⟩)
  go_ret
  exact ⟨by rw [HL.out]; rfl, hB1.trans (hb.mono (by simp))⟩

theorem paged_key {F : Nat → Prop} {w : World} {g : Nat} {p : Pg} (h : PageAt F w g p) (t i : Nat) (ht : t < p.values.length) (hi : i < p.keys.length) : Calls Try.prog 108 #[.agg #[.pointer (some ⟨g, 0, none⟩)], .int .i64 t, .int .i64 i] w (fun e w' => e = .returned (.int .i32 (p.keyAt t i)) ∧ Below w.heap.size w w') := by
  have hB1 : Below w.heap.size w (w.alloc (.cells #[.pointer (some ⟨g, 0, none⟩)] 65)) := (Below.refl _ _).alloc (Nat.le_refl _) _
  have hp := page_Key (h.below hB1) t i ht hi
  have HP := Lib.hid hp
  clear hp ht hi
  go_enter Try.func108, Try.ntmps108
  go_wp2_with (go_at_call 106; refine (HP.out).mono ?_; rintro e w' ⟨rfl, hb⟩)
  go_ret
  exact ⟨rfl, hB1.trans (hb.mono (by simp))⟩
theorem paged_value {F : Nat → Prop} {w : World} {g : Nat} {p : Pg} (h : PageAt F w g p) (t i : Nat) (ht : t < p.values.length) (hi : i < p.keys.length) : Calls Try.prog 109 #[.agg #[.pointer (some ⟨g, 0, none⟩)], .int .i64 t, .int .i64 i] w (fun e w' => e = .returned (.int .i32 (p.valAt t i)) ∧ Below w.heap.size w w') := by
  have hB1 : Below w.heap.size w (w.alloc (.cells #[.pointer (some ⟨g, 0, none⟩)] 65)) := (Below.refl _ _).alloc (Nat.le_refl _) _
  have hp := page_Value (h.below hB1) t i ht hi
  have HP := Lib.hid hp
  clear hp ht hi
  go_enter Try.func109, Try.ntmps109
  go_wp2_with (go_at_call 112; refine (HP.out).mono ?_; rintro e w' ⟨rfl, hb⟩)
  go_ret
  exact ⟨rfl, hB1.trans (hb.mono (by simp))⟩

theorem plain_count {F : Nat → Prop} {w : World} {kv vv : Value} {ks : List (List Int)} (h : Rows F w kv ks) : Calls Try.prog 115 #[.agg #[kv, vv]] w (fun e w' => e = .returned (.int .i64 ks.length) ∧ Below w.heap.size w w') := by
  obtain ⟨A, c, rfl, _, _⟩ := Sl.form h
  go_enter Try.func115, Try.ntmps115
  go_wp2
  go_ret
  exact ⟨rfl, (Below.refl _ _).alloc (Nat.le_refl _) _⟩

theorem plain_key {F : Nat → Prop} {w : World} {kv vv : Value} {ks : List (List Int)} (h : Rows F w kv ks) (t i : Nat) (ht : t < ks.length) (hi : i < ks[t].length) : Calls Try.prog 116 #[.agg #[kv, vv], .int .i64 t, .int .i64 i] w (fun e w' => e = .returned (.int .i32 ((ks.getD t []).getD i 0)) ∧ Below w.heap.size w w') := by
  obtain ⟨A, c, rfl, _, _⟩ := Sl.form h
  obtain ⟨ad, A', c', rfl, hu, hr, _, _⟩ := Rows.row h ht
  obtain ⟨ad', u', rfl, _, hu', rfl, hx1, hx2⟩ := hr.at_ rfl hi
  have hv : (ks.getD t []).getD i 0 = ks[t][i] := by simp [ht, hi]
  rw [hv]
  have hb1 : ad.block < w.heap.size := by have := World.block_lt_of_cell? w _ hu; rwa [block_add] at this
  have hb2 : ad'.block < w.heap.size := by have := World.block_lt_of_cell? w _ hu'; rwa [block_add] at this
  generalize ks[t][i] = x at hu' hx1 hx2 hv ⊢
  generalize hn : ks[t].length = n at hu hi
  clear hn hr hv
  go_enter Try.func116, Try.ntmps116
  go_wp2
  go_ret
  exact ⟨rfl, (Below.refl _ _).alloc (Nat.le_refl _) _⟩
theorem plain_value {F : Nat → Prop} {w : World} {kv vv : Value} {ks : List (List Int)} (h : Rows F w vv ks) (t i : Nat) (ht : t < ks.length) (hi : i < ks[t].length) : Calls Try.prog 117 #[.agg #[kv, vv], .int .i64 t, .int .i64 i] w (fun e w' => e = .returned (.int .i32 ((ks.getD t []).getD i 0)) ∧ Below w.heap.size w w') := by
  obtain ⟨A, c, rfl, _, _⟩ := Sl.form h
  obtain ⟨ad, A', c', rfl, hu, hr, _, _⟩ := Rows.row h ht
  obtain ⟨ad', u', rfl, _, hu', rfl, hx1, hx2⟩ := hr.at_ rfl hi
  have hv : (ks.getD t []).getD i 0 = ks[t][i] := by simp [ht, hi]
  rw [hv]
  have hb1 : ad.block < w.heap.size := by have := World.block_lt_of_cell? w _ hu; rwa [block_add] at this
  have hb2 : ad'.block < w.heap.size := by have := World.block_lt_of_cell? w _ hu'; rwa [block_add] at this
  generalize ks[t][i] = x at hu' hx1 hx2 hv ⊢
  generalize hn : ks[t].length = n at hu hi
  clear hn hr hv
  go_enter Try.func117, Try.ntmps117
  go_wp2
  go_ret
  exact ⟨rfl, (Below.refl _ _).alloc (Nat.le_refl _) _⟩
end Go.Proofs.Ytkepgkjbhdgbiaa

namespace Go.Proofs.Ytkepgkjbhdgbiaa
open Go.RowKit

section
variable {ops : Array Oper} {rest : List Oper} {o : Oper} {a : Act} {w : World} {Q : Exit → Act → World → Prop}

theorem inv_count {F : Nat → Prop} {u : Value} {s : Src} (h : SrcV F w u s) (r : Operand) (hgd : o.guard = none) (ho : o.op = .call { callee := .invoke r "credenza/attn.count", args := #[], argTypes := #[] }) (hr : a.eval r = u)
    (hn : ∀ w', Below w.heap.size w w' → wpList Try.prog ops Q rest (a.put o.dst (.int .i64 s.count)) w') : wpList Try.prog ops Q (o :: rest) a w := by
  cases s with
  | paged g p =>
    obtain ⟨rfl, hp⟩ := h
    exact wp_invoke (T := 65) (f := 107) (args := #[]) hgd ho hr (by simp) (by kernel_rfl) (by kernel_rfl) (paged_count hp) hn
  | plain ks vs =>
    obtain ⟨kv, vv, rfl, h1, h2⟩ := h
    exact wp_invoke (T := 67) (f := 115) (args := #[]) hgd ho hr (by simp) (by kernel_rfl) (by kernel_rfl) (plain_count h1) hn

theorem inv_key {F : Nat → Prop} {u : Value} {s : Src} {d : Nat} (h : SrcV F w u s) (hw : s.wide d) (t i : Nat) (ht : t < s.count) (hi : i < d) (r ta ia : Operand) (hgd : o.guard = none) (ho : o.op = .call { callee := .invoke r "credenza/attn.key", args := #[ta, ia], argTypes := #[3, 3] }) (hr : a.eval r = u) (hta : a.eval ta = .int .i64 t) (hia : a.eval ia = .int .i64 i)
    (hn : ∀ w', Below w.heap.size w w' → wpList Try.prog ops Q rest (a.put o.dst (.int .i32 (s.key t i))) w') : wpList Try.prog ops Q (o :: rest) a w := by
  have hargs : (#[ta, ia] : Array Operand).map a.eval = #[.int .i64 t, .int .i64 i] := by simp [hta, hia]
  cases s with
  | paged g p =>
    obtain ⟨rfl, hp⟩ := h
    exact wp_invoke (T := 65) (f := 108) hgd ho hr hargs (by kernel_rfl) (by kernel_rfl) (paged_key hp t i ht (by rw [hw]; exact hi)) hn
  | plain ks vs =>
    obtain ⟨kv, vv, rfl, h1, h2⟩ := h
    obtain ⟨hl, hk, hv⟩ := hw
    have ht' : t < ks.length := by simp only [Src.count] at ht; omega
    exact wp_invoke (T := 67) (f := 116) hgd ho hr hargs (by kernel_rfl) (by kernel_rfl) (plain_key (vv := vv) h1 t i ht' (by rw [hk _ (List.getElem_mem ht')]; exact hi)) hn
theorem inv_value {F : Nat → Prop} {u : Value} {s : Src} {d : Nat} (h : SrcV F w u s) (hw : s.wide d) (t i : Nat) (ht : t < s.count) (hi : i < d) (r ta ia : Operand) (hgd : o.guard = none) (ho : o.op = .call { callee := .invoke r "credenza/attn.value", args := #[ta, ia], argTypes := #[3, 3] }) (hr : a.eval r = u) (hta : a.eval ta = .int .i64 t) (hia : a.eval ia = .int .i64 i)
    (hn : ∀ w', Below w.heap.size w w' → wpList Try.prog ops Q rest (a.put o.dst (.int .i32 (s.val t i))) w') : wpList Try.prog ops Q (o :: rest) a w := by
  have hargs : (#[ta, ia] : Array Operand).map a.eval = #[.int .i64 t, .int .i64 i] := by simp [hta, hia]
  cases s with
  | paged g p =>
    obtain ⟨rfl, hp⟩ := h
    exact wp_invoke (T := 65) (f := 109) hgd ho hr hargs (by kernel_rfl) (by kernel_rfl) (paged_value hp t i ht (by rw [hw]; exact hi)) hn
  | plain ks vs =>
    obtain ⟨kv, vv, rfl, h1, h2⟩ := h
    obtain ⟨hl, hk, hv⟩ := hw
    have ht' : t < vs.length := by simp only [Src.count] at ht; omega
    exact wp_invoke (T := 67) (f := 117) hgd ho hr hargs (by kernel_rfl) (by kernel_rfl) (plain_value (kv := kv) h2 t i ht' (by rw [hv _ (List.getElem_mem ht')]; exact hi)) hn
end

/-- All tokens' keys, one behind the other; their values. -/
def Src.keyL (s : Src) (d : Nat) : List (List Int) := (List.range s.count).map fun t => (List.range d).map fun i => s.key t i
def Src.valL (s : Src) (d : Nat) : List (List Int) := (List.range s.count).map fun t => (List.range d).map fun i => s.val t i

/-- A score out of a sum. -/
def scaleI (sum n : Int) : Int := wideI (ratioI (wideI (ratioI sum 65536) * rsqrtI (n * 65536)) 65536)
/-- The score of one token. -/
def Src.score (q : List Int) (s : Src) (t : Nat) : Int := scaleI (sumTo (fun i => q.getD i 0 * narrowI (s.key t i)) q.length) q.length
def Src.scores (q : List Int) (s : Src) : List Int := (List.range s.count).map (s.score q)
def scoresI (q : List Int) (all : List Src) : List Int := all.flatMap fun s => s.scores q

def NarL (l : List Int) : Prop := ∀ x ∈ l, -8388608 ≤ x ∧ x ≤ 8388608
theorem NarL.at_ {l : List Int} (h : NarL l) (i : Nat) : -8388608 ≤ l.getD i 0 ∧ l.getD i 0 ≤ 8388608 := by
  rcases Nat.lt_or_ge i l.length with h' | h'
  · rw [getD_at h']; exact h _ (List.getElem_mem h')
  · rw [List.getD_eq_getElem?_getD, List.getElem?_eq_none h']; simp
theorem qk_bd {q : List Int} (hq : NarL q) (f : Nat → Int) (i : Nat) : -70368744177664 ≤ q.getD i 0 * narrowI (f i) ∧ q.getD i 0 * narrowI (f i) ≤ 70368744177664 := by
  have h1 := hq.at_ i
  have h2 := narrow_bd (f i)
  have := mul_bd h1.1 h1.2 h2.1 h2.2
  omega
theorem qk_sum {q : List Int} (hq : NarL q) (f : Nat → Int) (k : Nat) (hk : k ≤ 16) : -1125899906842624 ≤ sumTo (fun i => q.getD i 0 * narrowI (f i)) k ∧ sumTo (fun i => q.getD i 0 * narrowI (f i)) k ≤ 1125899906842624 := by
  have h := sumTo_bd (n := k) (B := 70368744177664) fun i _ => qk_bd hq f i
  omega
theorem scale_in (sum n : Int) : InK .i32 (scaleI sum n) := wide_bd _

theorem inv_key_in {F : Nat → Prop} {w : World} {u : Value} {s : Src} {d : Nat} (h : SrcV F w u s) (hw : s.wide d) (t i : Nat) (ht : t < s.count) (hi : i < d) : InK .i32 (s.key t i) ∧ InK .i32 (s.val t i) := by
  cases s with
  | paged g p =>
    constructor
    · simp only [Src.key, Pg.keyAt]
      split
      · exact wide_bd _
      · exact ⟨by omega, by omega⟩
    · simp only [Src.val, Pg.valAt]
      split
      · exact wide_bd _
      · exact ⟨by omega, by omega⟩
  | plain ks vs =>
    obtain ⟨kv, vv, rfl, h1, h2⟩ := h
    obtain ⟨hl, hk, hv⟩ := hw
    have ht1 : t < ks.length := ht
    have ht2 : t < vs.length := by omega
    constructor
    · obtain ⟨A, c, rfl, _, _⟩ := Sl.form h1
      obtain ⟨_, _, _, _, _, hr, _, _⟩ := Rows.row h1 ht1
      have e : (ks.getD t []).getD i 0 = ks[t][i]'(by rw [hk _ (List.getElem_mem ht1)]; exact hi) := by simp [ht1, hk _ (List.getElem_mem ht1), hi]
      show InK .i32 ((ks.getD t []).getD i 0)
      rw [e]
      exact hr.inK _ (List.getElem_mem _)
    · obtain ⟨A, c, rfl, _, _⟩ := Sl.form h2
      obtain ⟨_, _, _, _, _, hr, _, _⟩ := Rows.row h2 ht2
      have e : (vs.getD t []).getD i 0 = vs[t][i]'(by rw [hv _ (List.getElem_mem ht2)]; exact hi) := by simp [ht2, hv _ (List.getElem_mem ht2), hi]
      show InK .i32 ((vs.getD t []).getD i 0)
      rw [e]
      exact hr.inK _ (List.getElem_mem _)

theorem srcs_count {F : Nat → Prop} {w : World} {u : Value} {all : List Src} (h : Sl F w (SrcV F w) u all) {w' : World} (hb : Below w.heap.size w w') : Sl F w' (SrcV F w') u all :=
  h.keep (fun b hb' _ => hb.block b hb') (fun _ _ h => h) (fun _ _ _ h => h.below hb)

theorem scores_len (q : List Int) (all : List Src) : (scoresI q all).length = (all.map Src.count).sum := by
  induction all with
  | nil => rfl
  | cons s all ih => simp only [scoresI, List.flatMap_cons, List.length_append, List.map_cons, List.sum_cons] at *; rw [ih]; simp [Src.scores]
theorem sum_take_le (l : List Nat) (k : Nat) : (l.take k).sum ≤ l.sum := by
  conv => rhs; rw [← List.take_append_drop k l]
  rw [List.sum_append]; omega

theorem count_take (all : List Src) {k : Nat} (hlt : k < all.length) : ((all.take k).map Src.count).sum + all[k].count ≤ (all.map Src.count).sum := by
  have h := sum_take_le (all.map Src.count) (k + 1)
  rw [← List.map_take, List.take_succ_eq_append_getElem hlt, List.map_append, List.sum_append] at h
  simpa only [List.map_cons, List.map_nil, List.sum_cons, List.sum_nil, Nat.add_zero] using h
theorem nums_append (k : IntKind) (a b : List Int) : nums k (a ++ b) = nums k a ++ nums k b := by simp [nums]
theorem nums_length (k : IntKind) (a : List Int) : (nums k a).length = a.length := by simp [nums]
theorem scores_take_succ (q : List Int) (all : List Src) {k : Nat} (hlt : k < all.length) : scoresI q (all.take (k + 1)) = scoresI q (all.take k) ++ all[k].scores q := by
  unfold scoresI
  rw [List.take_succ_eq_append_getElem hlt, List.flatMap_append]
  simp

theorem attn_scores {F G : Nat → Prop} {w : World} {v u : Value} {q : List Int} {all : List Src} (hq : Sl F w (IntV .i32) v q) (ha : Sl G w (SrcV G w) u all) (hd : ∀ s ∈ all, s.wide q.length) (hN : NarL q) (h1 : 1 ≤ q.length) (h2 : q.length ≤ 16)
    (hc : (all.map Src.count).sum ≤ 1024) : Calls Try.prog 23 #[v, u] w (RetSl w (fun _ => IntV .i32) (scoresI q all)) := by
  obtain ⟨A, c, rfl, hc1, hm1⟩ := hq.form
  obtain ⟨A2, c2, rfl, hc2, hm2⟩ := Sl.form ha
  have HC := Lib.hid hc
  clear hc
  go_enter Try.func23, Try.ntmps23
  go_upto_region 3 with fail
  go_loopg [5, 14] all.length (fun g v5 v14 wr => ∃ k : Nat, k ≤ all.length ∧ v14 = .int .i64 k ∧ g = all.length - k ∧
    wr.ownsRow w.heap.size 21 1 v5 (nums .i32 (scoresI q (all.take k))).length (nums .i32 (scoresI q (all.take k))) ∧ Below w.heap.size w wr)
  case atStart => exact ⟨0, Nat.zero_le _, rfl, by omega, World.ownsRow_nil _ _ _ _, Below.refl _ _⟩
  case round =>
    obtain ⟨k, hk, rfl, hg, HO, HB⟩ := hrel
    have HG := Lib.hid hg
    clear hg
    obtain ⟨wo, hwo⟩ : ∃ wo : World, wo = wr := ⟨_, rfl⟩
    subst hwo
    by_cases hlt : k < all.length
    · obtain ⟨ad, us, rfl, _, hus0, hsv⟩ := Sl.at_ ha rfl hlt
      have hus := cell_below HB hus0
      clear hus0
      have hwide := hd _ (List.getElem_mem hlt)
      have hcnt : (nums .i32 (scoresI q (all.take k))).length + all[k].count ≤ 1024 := by
        have := HC.out
        have := count_take all hlt
        rw [nums_length, scores_len q]
        omega
      have hsc : nums .i32 (scoresI q (all.take (k + 1))) = nums .i32 (scoresI q (all.take k)) ++ nums .i32 (all[k].scores q) := by rw [scores_take_succ q all hlt, nums_append]
      generalize all[k] = s at *
      generalize nums .i32 (scoresI q (all.take k)) = acc at *
      have HSC := Lib.hid hsc
      clear hsc
      go_upto_region 6 with (with_reducible change wpList _ _ _ (_ :: _) _ _; refine inv_count (hsv.below HB) (.tmp 18) rfl rfl rfl ?_; intro w1 hb1)
      have HB1 : Below w.heap.size w w1 := HB.trans (hb1.mono HB.size)
      have HO1 := own_below HO hb1
      clear hus HO HB hb1
      go_loopg [5, 20] s.count (fun g v5 v20 wr => ∃ t : Nat, t ≤ s.count ∧ v20 = .int .i64 t ∧ g = s.count - t ∧
        wr.ownsRow w.heap.size 21 1 v5 (acc ++ nums .i32 ((List.range t).map (s.score q))).length (acc ++ nums .i32 ((List.range t).map (s.score q))) ∧ Below w.heap.size w wr)
      case atStart => exact ⟨0, Nat.zero_le _, rfl, by omega, by simpa [nums] using HO1, HB1⟩
      case round =>
        obtain ⟨t, ht, rfl, hg, HO, HB⟩ := hrel
        have HG2 := Lib.hid hg
        clear hg
        obtain ⟨wt, hwt⟩ : ∃ wt : World, wt = wr := ⟨_, rfl⟩
        subst hwt
        by_cases hlt2 : t < s.count
        · go_upto_region 10 with fail
          go_loopg [9, 25] q.length (fun g v9 v25 wr => ∃ i : Nat, i ≤ q.length ∧ v25 = .int .i64 i ∧ g = q.length - i ∧ v9 = .int .i64 (sumTo (fun i => q.getD i 0 * narrowI (s.key t i)) i) ∧ Below wt.heap.size wt wr)
          case atStart => exact ⟨0, Nat.zero_le _, rfl, by omega, rfl, Below.refl _ _⟩
          case round =>
            obtain ⟨i, hi, rfl, hg, rfl, HBt⟩ := hrel
            have HG3 := Lib.hid hg
            clear hg
            have HBw : Below w.heap.size w wr := HB.trans (HBt.mono HB.size)
            by_cases hlt3 : i < q.length
            · obtain ⟨ad3, u3, rfl, _, hu3, rfl, hx1, hx2⟩ := (hq.below HBw).at_ rfl hlt3
              obtain ⟨s1, s2⟩ := qk_sum hN (s.key t) i (by omega)
              obtain ⟨p1, p2⟩ := qk_bd hN (s.key t) i
              have hs : sumTo (fun i => q.getD i 0 * narrowI (s.key t i)) (i + 1) = sumTo (fun i => q.getD i 0 * narrowI (s.key t i)) i + q[i] * narrowI (s.key t i) := by rw [← getD_at hlt3]; rfl
              rw [getD_at hlt3] at p1 p2
              obtain ⟨⟨k1, k2⟩, _⟩ := inv_key_in hsv hwide t i hlt2 hlt3
              have hsw := hsv.below HBw
              have hn := narrow_bd (s.key t i)
              generalize q[i] = x at hu3 hx1 hx2 hs p1 p2
              generalize sumTo (fun i => q.getD i 0 * narrowI (s.key t i)) i = sm at *
              obtain ⟨n1, n2⟩ := hn
              have HS := Lib.hid hs
              clear hs
              go_wp2_with (first
                | (with_reducible change wpList _ _ _ (_ :: _) _ _; refine inv_key hsw hwide t i hlt2 hlt3 (.tmp 33) (.tmp 34) (.tmp 35) rfl rfl rfl rfl rfl ?_; intro w2 hb2)
                | (go_at_call 45; refine (attn_narrow _ _ k1 k2).mono ?_; rintro e w' ⟨rfl, nq, rfl⟩))
              go_roundg (q.length - (i + 1))
              case rel => exact ⟨i + 1, by omega, by go_num, by omega, by rw [HS.out], below_drewN (HBt.trans (hb2.mono HBt.size)) _⟩
              case measure => rw [HG3.out]; omega
            · obtain rfl : i = q.length := by omega
              obtain ⟨s1, s2⟩ := qk_sum hN (s.key t) q.length (by omega)
              have hn' : (acc ++ nums .i32 ((List.range t).map (s.score q))).length + 1 ≤ 2199023255552 := by rw [List.length_append, rangemap_len]; omega
              have hs : acc ++ nums .i32 ((List.range (t + 1)).map (s.score q)) = (acc ++ nums .i32 ((List.range t).map (s.score q))) ++ [.int .i32 (s.score q t)] := by rw [rangemap_succ, List.append_assoc]
              rw [show s.score q t = scaleI (sumTo (fun i => q.getD i 0 * narrowI (s.key t i)) q.length) q.length from rfl] at hs
              generalize acc ++ nums .i32 ((List.range t).map (s.score q)) = acc2 at *
              generalize sumTo (fun i => q.getD i 0 * narrowI (s.key t i)) q.length = sm at *
              have HS := Lib.hid hs
              have HO2 := own_below HO HBt
              clear hs HO
              unfold scaleI at HS
              go_wp2_with (first
                | (go_at_call 36; refine (attn_scaled _ _ _ (by omega) (by omega) (by omega) (by omega)).mono ?_; rintro e w' ⟨rfl, nq, rfl⟩)
                | (at_builtin; refine app1 _ (.tmp 41) (.tmp 46) 22 21 (.int .i32 0) 4 rfl rfl Try.underlying22 info_i32 rfl _ _ _ rfl rfl rfl HO2 (by first | exact HBw | exact below_drewN HBw _) (HBw).size hn' (by decide) ?_; intro v1 w1 HO1 HB1 HG1 HA1))
              go_roundg (s.count - (t + 1))
              case rel => exact ⟨t + 1, by omega, by go_num, by omega, by rw [HS.out]; exact HO1, HB1⟩
              case measure => rw [HG2.out]; omega
        · obtain rfl : t = s.count := by omega
          go_wp2
          go_roundg (all.length - (k + 1))
          case rel => exact ⟨k + 1, by omega, by go_num, by omega, by rw [HSC.out]; exact HO, HB⟩
          case measure => rw [HG.out]; omega
    · obtain rfl : k = all.length := by omega
      rw [List.take_length] at HO
      go_wp2
      go_ret
      refine ⟨HB, _, rfl, Sl.ints HO (fun x hx => ?_)⟩
      obtain ⟨s, _, hs⟩ := List.mem_flatMap.1 hx
      obtain ⟨t, _, rfl⟩ := List.mem_map.1 hs
      exact scale_in _ _
end Go.Proofs.Ytkepgkjbhdgbiaa

namespace Go.Proofs.Ytkepgkjbhdgbiaa
open Go.RowKit

theorem wp_inv {P : Program} {o : Oper} {a : Act} {w : World} {K : Act → World → Prop} {Q : Exit → Act → World → Prop} {r : Operand} {name : String} {ags : Array Operand} {ats : Array TypeId} {T : TypeId} {f : FuncId} {v : Value} {args : Array Value} {res : Value}
    (ho : o.op = .call { callee := .invoke r name, args := ags, argTypes := ats }) (hr : a.eval r = .iface T v) (hargs : ags.map a.eval = args)
    (hm : (method (P.types.size + Made.depth) T v name).run P w = .ok (f, v) w) (hf : (callFunc f (#[v] ++ args)).run P w = .ok (.enter f (#[v] ++ args)) w)
    (hc : Calls P f (#[v] ++ args) w fun e w' => e = .returned res ∧ Below w.heap.size w w')
    (h : ∀ w', Below w.heap.size w w' → K (a.put o.dst res) w') : o.wp P a w K Q := by
  have hrun : (execOp a.eval o).run P w = .ok (.enter f (#[v] ++ args)) w := by
    unfold execOp
    rw [ho]
    have e3 : (#[Value.iface T v] ++ args).extract 1 (#[Value.iface T v] ++ args).size = args := by apply Array.ext'; simp
    have e4 : (#[Value.iface T v] ++ args)[0]? = some (Value.iface T v) := by rw [Array.getElem?_append_left (by simp)]; rfl
    simp only [resolve, invoke, callMethod, hr, hargs]
    simp only [e3, e4, Sem.run_bind, Sem.run_pure, Result.andThen_ok, run_program, hm, hf]
  unfold Oper.wp
  rw [hrun, Oper.upon_enter]
  refine hc.mono ?_
  rintro e w' ⟨rfl, hb⟩
  exact h w' hb

theorem step_value {ops : Array Oper} {o : Oper} {a : Act} {K : Act → World → Prop} {Q : Exit → Act → World → Prop} {E : Prop} {w : World} {F : Nat → Prop} {u : Value} {s : Src} {d : Nat} (h : SrcV F w u s) (hw : s.wide d) (t i : Nat) (ht : t < s.count) (hi : i < d) (r ta ia : Operand) (hgd : o.guard = none) (ho : o.op = .call { callee := .invoke r "credenza/attn.value", args := #[ta, ia], argTypes := #[3, 3] }) (hr : a.eval r = u) (hta : a.eval ta = .int .i64 t) (hia : a.eval ia = .int .i64 i)
    (hn : ∀ w', Below w.heap.size w w' → K (a.put o.dst (.int .i32 (s.val t i))) w') : if Region.wanted o (yielded ops a.tmps) = true then Oper.wp Try.prog o a w K Q else E := by
  have hwn : Region.wanted o (yielded ops a.tmps) = true := by simp [Region.wanted, hgd]
  rw [if_pos hwn]
  have hargs : (#[ta, ia] : Array Operand).map a.eval = #[.int .i64 t, .int .i64 i] := by simp [hta, hia]
  cases s with
  | paged g p =>
    obtain ⟨rfl, hp⟩ := h
    exact wp_inv (T := 65) (f := 109) ho hr hargs (by kernel_rfl) (by kernel_rfl) (paged_value hp t i ht (by rw [hw]; exact hi)) hn
  | plain ks vs =>
    obtain ⟨kv, vv, rfl, h1, h2⟩ := h
    obtain ⟨hl, hk, hv⟩ := hw
    have ht' : t < vs.length := by simp only [Src.count] at ht; omega
    exact wp_inv (T := 67) (f := 117) ho hr hargs (by kernel_rfl) (by kernel_rfl) (plain_value (kv := kv) h2 t i ht' (by rw [hv _ (List.getElem_mem ht')]; exact hi)) hn

theorem info_int64 : (Try.prog.info? 2).map (fun i => (i.zero, i.size, i.bytes)) = some (some (.int .i64 0), 1, 8) := by kernel_rfl

/-- All values, narrow, one token behind the other. -/
def valsL (all : List Src) (d : Nat) : List (List Int) := (all.flatMap fun s => s.valL d).map fun l => l.map narrowI
/-- The sum of the first n tokens' values at a place. -/
def sumAt (ws : List Int) (ls : List (List Int)) (j n : Nat) : Int := sumTo (fun k => ws.getD k 0 * (ls.getD k []).getD j 0) n
/-- The row of sums in the midst of token n: the first i places are told. -/
def sumRow (ws : List Int) (ls : List (List Int)) (d n i : Nat) : List Int := (List.range d).map fun j => sumAt ws ls j (if j < i then n + 1 else n)

theorem sumRow_len (ws : List Int) (ls : List (List Int)) (d n i : Nat) : (sumRow ws ls d n i).length = d := by simp [sumRow]
theorem sumRow_get (ws : List Int) (ls : List (List Int)) {d n i j : Nat} (hj : j < d) : (sumRow ws ls d n i)[j]'(by rw [sumRow_len]; exact hj) = sumAt ws ls j (if j < i then n + 1 else n) := by simp [sumRow]
theorem sumRow_set (ws : List Int) (ls : List (List Int)) {d n i : Nat} (hi : i < d) : (sumRow ws ls d n i).set i (sumAt ws ls i (n + 1)) = sumRow ws ls d n (i + 1) := by
  apply List.ext_getElem
  · simp [sumRow]
  · intro j h1 h2
    have hj : j < d := by simpa [sumRow] using h2
    rw [List.getElem_set]
    by_cases e : i = j
    · subst e
      rw [if_pos rfl, sumRow_get ws ls hj, if_pos (by omega)]
    · rw [if_neg e, sumRow_get ws ls hj, sumRow_get ws ls hj]
      by_cases h : j < i
      · rw [if_pos h, if_pos (by omega)]
      · rw [if_neg h, if_neg (by omega)]
theorem sumRow_all (ws : List Int) (ls : List (List Int)) (d n : Nat) : sumRow ws ls d n d = sumRow ws ls d (n + 1) 0 := by
  apply List.ext_getElem
  · simp [sumRow]
  · intro j h1 h2
    have hj : j < d := by simpa [sumRow] using h2
    rw [sumRow_get ws ls hj, sumRow_get ws ls hj, if_pos hj, if_neg (by omega)]
theorem sumRow_zero (ws : List Int) (ls : List (List Int)) (d : Nat) : sumRow ws ls d 0 0 = List.replicate d 0 := by
  apply List.ext_getElem
  · simp [sumRow]
  · intro j h1 h2
    have hj : j < d := by simpa [sumRow] using h1
    rw [sumRow_get ws ls hj]
    simp [sumAt, sumTo]

def offs (all : List Src) (k : Nat) : Nat := ((all.take k).map Src.count).sum
theorem flat_len (all : List Src) (d : Nat) : (all.flatMap fun s => s.valL d).length = (all.map Src.count).sum := by
  induction all with
  | nil => rfl
  | cons s all ih => simp only [List.flatMap_cons, List.length_append, List.map_cons, List.sum_cons]; rw [ih]; simp [Src.valL]
theorem vals_get {all : List Src} {d k t i : Nat} (hk : k < all.length) (ht : t < all[k].count) (hi : i < d) : ((valsL all d).getD (offs all k + t) []).getD i 0 = narrowI (all[k].val t i) := by
  have e : all.flatMap (fun s => s.valL d) = (all.take k).flatMap (fun s => s.valL d) ++ (all[k].valL d ++ (all.drop (k + 1)).flatMap (fun s => s.valL d)) := by
    conv => lhs; rw [← List.take_append_drop k all, List.drop_eq_getElem_cons hk]
    rw [List.flatMap_append, List.flatMap_cons]
  have hl : ((all.take k).flatMap fun s => s.valL d).length = offs all k := flat_len _ d
  have hg : (all.flatMap (fun s => s.valL d))[offs all k + t]? = some ((List.range d).map fun i => all[k].val t i) := by
    rw [e, List.getElem?_append_right (by omega), hl, Nat.add_sub_cancel_left, List.getElem?_append_left (by simpa [Src.valL] using ht)]
    simp [Src.valL, ht]
  unfold valsL
  rw [List.getD_eq_getElem?_getD (l := List.map _ _), List.getElem?_map, hg]
  simp [hi]
theorem vals_nar (all : List Src) (d : Nat) : ∀ l ∈ valsL all d, l.length = d ∧ ∀ x ∈ l, -8388608 ≤ x ∧ x ≤ 8388608 := by
  intro l hl
  obtain ⟨l', h1, rfl⟩ := List.mem_map.1 hl
  obtain ⟨s, _, h2⟩ := List.mem_flatMap.1 h1
  obtain ⟨t, _, rfl⟩ := List.mem_map.1 h2
  refine ⟨by simp, fun x hx => ?_⟩
  obtain ⟨y, _, rfl⟩ := List.mem_map.1 hx
  exact narrow_bd y
theorem offs_succ {all : List Src} {k : Nat} (hk : k < all.length) : offs all (k + 1) = offs all k + all[k].count := by
  unfold offs
  rw [List.take_succ_eq_append_getElem hk, List.map_append, List.sum_append]
  simp
end Go.Proofs.Ytkepgkjbhdgbiaa
