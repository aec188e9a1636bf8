/- Contracts of functions of the program, and what they need (QHead, QRow). -/
import Derived.Test.YtkepgkjbhdgbiaaZ14

namespace Go.Proofs.Ytkepgkjbhdgbiaa
open Go.RowKit

def hdB (h : Hd) : Bool := bitsB h.kb && bitsB h.vb && withinB h.tokens 1 16 && withinB h.dim 1 16 && withinB h.layer 0 3 && withinB h.head 0 3 && withinB h.index 0 1023
theorem hdB_iff (h : Hd) : hdB h = true ↔ HdOk h := by
  unfold hdB HdOk bitsB withinB
  simp only [Bool.and_eq_true, decide_eq_true_eq]
  constructor
  · rintro ⟨⟨⟨⟨⟨⟨a, b⟩, c⟩, d⟩, e⟩, f⟩, g⟩; exact ⟨a, b, c, d, e, f, g⟩
  · rintro ⟨a, b, c, d, e, f, g⟩; exact ⟨⟨⟨⟨⟨⟨a, b⟩, c⟩, d⟩, e⟩, f⟩, g⟩

set_option maxRecDepth 100000 in
theorem page_Right (h : Hd) (w : World) : Calls Try.prog 30 #[.agg (hdCells h)] w (fun e w' => e = .returned (.bool (hdB h)) ∧ Below w.heap.size w w') := by
  unfold hdB hdCells
  obtain ⟨kb, vb, tk, dm, ly, hd, ix⟩ := h
  dsimp only
  have h1 := fun W => pack_Bits kb W
  have h2 := fun W => pack_Bits vb W
  have h3 := fun W => page_within tk 1 16 W
  have h4 := fun W => page_within dm 1 16 W
  have h5 := fun W => page_within ly 0 3 W
  have h6 := fun W => page_within hd 0 3 W
  have h7 := fun W => page_within ix 0 1023 W
  generalize bitsB kb = b1 at *
  generalize bitsB vb = b2 at *
  generalize withinB tk 1 16 = b3 at *
  generalize withinB dm 1 16 = b4 at *
  generalize withinB ly 0 3 = b5 at *
  generalize withinB hd 0 3 = b6 at *
  generalize withinB ix 0 1023 = b7 at *
  have H1 := Lib.hid h1
  have H2 := Lib.hid h2
  have H3 := Lib.hid h3
  have H4 := Lib.hid h4
  have H5 := Lib.hid h5
  have H6 := Lib.hid h6
  have H7 := Lib.hid h7
  clear h1 h2 h3 h4 h5 h6 h7
  have hB1 : ∀ n, Below w.heap.size w ((w.alloc (.cells #[.int .i64 kb, .int .i64 vb, .int .i64 tk, .int .i64 dm, .int .i64 ly, .int .i64 hd, .int .i64 ix] 41)).drewN n) := fun n => below_drewN ((Below.refl _ _).alloc (Nat.le_refl _) _) n
  have HBL := Lib.hid hB1
  clear hB1
  rcases b1 with _ | _
  · skip
    go_enter Try.func30, Try.ntmps30
    go_wp2_with (first
      | (go_at_call 56; (with_reducible refine (H1.out _).mono ?_); rintro e w' ⟨rfl, nq, rfl⟩)
      | (go_at_call 56; (with_reducible refine (H2.out _).mono ?_); rintro e w' ⟨rfl, nq, rfl⟩)
      | (go_at_call 57; (with_reducible refine (H3.out _).mono ?_); rintro e w' ⟨rfl, nq, rfl⟩)
      | (go_at_call 57; (with_reducible refine (H4.out _).mono ?_); rintro e w' ⟨rfl, nq, rfl⟩)
      | (go_at_call 57; (with_reducible refine (H5.out _).mono ?_); rintro e w' ⟨rfl, nq, rfl⟩)
      | (go_at_call 57; (with_reducible refine (H6.out _).mono ?_); rintro e w' ⟨rfl, nq, rfl⟩)
      | (go_at_call 57; (with_reducible refine (H7.out _).mono ?_); rintro e w' ⟨rfl, nq, rfl⟩))
    go_ret
    exact ⟨by first | rfl | simp, HBL.out _⟩
  rcases b2 with _ | _
  · skip
    go_enter Try.func30, Try.ntmps30
    go_wp2_with (first
      | (go_at_call 56; (with_reducible refine (H1.out _).mono ?_); rintro e w' ⟨rfl, nq, rfl⟩)
      | (go_at_call 56; (with_reducible refine (H2.out _).mono ?_); rintro e w' ⟨rfl, nq, rfl⟩)
      | (go_at_call 57; (with_reducible refine (H3.out _).mono ?_); rintro e w' ⟨rfl, nq, rfl⟩)
      | (go_at_call 57; (with_reducible refine (H4.out _).mono ?_); rintro e w' ⟨rfl, nq, rfl⟩)
      | (go_at_call 57; (with_reducible refine (H5.out _).mono ?_); rintro e w' ⟨rfl, nq, rfl⟩)
      | (go_at_call 57; (with_reducible refine (H6.out _).mono ?_); rintro e w' ⟨rfl, nq, rfl⟩)
      | (go_at_call 57; (with_reducible refine (H7.out _).mono ?_); rintro e w' ⟨rfl, nq, rfl⟩))
    go_ret
    exact ⟨by first | rfl | simp, HBL.out _⟩
  rcases b3 with _ | _
  · skip
    go_enter Try.func30, Try.ntmps30
    go_wp2_with (first
      | (go_at_call 56; (with_reducible refine (H1.out _).mono ?_); rintro e w' ⟨rfl, nq, rfl⟩)
      | (go_at_call 56; (with_reducible refine (H2.out _).mono ?_); rintro e w' ⟨rfl, nq, rfl⟩)
      | (go_at_call 57; (with_reducible refine (H3.out _).mono ?_); rintro e w' ⟨rfl, nq, rfl⟩)
      | (go_at_call 57; (with_reducible refine (H4.out _).mono ?_); rintro e w' ⟨rfl, nq, rfl⟩)
      | (go_at_call 57; (with_reducible refine (H5.out _).mono ?_); rintro e w' ⟨rfl, nq, rfl⟩)
      | (go_at_call 57; (with_reducible refine (H6.out _).mono ?_); rintro e w' ⟨rfl, nq, rfl⟩)
      | (go_at_call 57; (with_reducible refine (H7.out _).mono ?_); rintro e w' ⟨rfl, nq, rfl⟩))
    go_ret
    exact ⟨by first | rfl | simp, HBL.out _⟩
  rcases b4 with _ | _
  · skip
    go_enter Try.func30, Try.ntmps30
    go_wp2_with (first
      | (go_at_call 56; (with_reducible refine (H1.out _).mono ?_); rintro e w' ⟨rfl, nq, rfl⟩)
      | (go_at_call 56; (with_reducible refine (H2.out _).mono ?_); rintro e w' ⟨rfl, nq, rfl⟩)
      | (go_at_call 57; (with_reducible refine (H3.out _).mono ?_); rintro e w' ⟨rfl, nq, rfl⟩)
      | (go_at_call 57; (with_reducible refine (H4.out _).mono ?_); rintro e w' ⟨rfl, nq, rfl⟩)
      | (go_at_call 57; (with_reducible refine (H5.out _).mono ?_); rintro e w' ⟨rfl, nq, rfl⟩)
      | (go_at_call 57; (with_reducible refine (H6.out _).mono ?_); rintro e w' ⟨rfl, nq, rfl⟩)
      | (go_at_call 57; (with_reducible refine (H7.out _).mono ?_); rintro e w' ⟨rfl, nq, rfl⟩))
    go_ret
    exact ⟨by first | rfl | simp, HBL.out _⟩
  rcases b5 with _ | _
  · skip
    go_enter Try.func30, Try.ntmps30
    go_wp2_with (first
      | (go_at_call 56; (with_reducible refine (H1.out _).mono ?_); rintro e w' ⟨rfl, nq, rfl⟩)
      | (go_at_call 56; (with_reducible refine (H2.out _).mono ?_); rintro e w' ⟨rfl, nq, rfl⟩)
      | (go_at_call 57; (with_reducible refine (H3.out _).mono ?_); rintro e w' ⟨rfl, nq, rfl⟩)
      | (go_at_call 57; (with_reducible refine (H4.out _).mono ?_); rintro e w' ⟨rfl, nq, rfl⟩)
      | (go_at_call 57; (with_reducible refine (H5.out _).mono ?_); rintro e w' ⟨rfl, nq, rfl⟩)
      | (go_at_call 57; (with_reducible refine (H6.out _).mono ?_); rintro e w' ⟨rfl, nq, rfl⟩)
      | (go_at_call 57; (with_reducible refine (H7.out _).mono ?_); rintro e w' ⟨rfl, nq, rfl⟩))
    go_ret
    exact ⟨by first | rfl | simp, HBL.out _⟩
  rcases b6 with _ | _
  · skip
    go_enter Try.func30, Try.ntmps30
    go_wp2_with (first
      | (go_at_call 56; (with_reducible refine (H1.out _).mono ?_); rintro e w' ⟨rfl, nq, rfl⟩)
      | (go_at_call 56; (with_reducible refine (H2.out _).mono ?_); rintro e w' ⟨rfl, nq, rfl⟩)
      | (go_at_call 57; (with_reducible refine (H3.out _).mono ?_); rintro e w' ⟨rfl, nq, rfl⟩)
      | (go_at_call 57; (with_reducible refine (H4.out _).mono ?_); rintro e w' ⟨rfl, nq, rfl⟩)
      | (go_at_call 57; (with_reducible refine (H5.out _).mono ?_); rintro e w' ⟨rfl, nq, rfl⟩)
      | (go_at_call 57; (with_reducible refine (H6.out _).mono ?_); rintro e w' ⟨rfl, nq, rfl⟩)
      | (go_at_call 57; (with_reducible refine (H7.out _).mono ?_); rintro e w' ⟨rfl, nq, rfl⟩))
    go_ret
    exact ⟨by first | rfl | simp, HBL.out _⟩
  rcases b7 with _ | _
  · skip
    go_enter Try.func30, Try.ntmps30
    go_wp2_with (first
      | (go_at_call 56; (with_reducible refine (H1.out _).mono ?_); rintro e w' ⟨rfl, nq, rfl⟩)
      | (go_at_call 56; (with_reducible refine (H2.out _).mono ?_); rintro e w' ⟨rfl, nq, rfl⟩)
      | (go_at_call 57; (with_reducible refine (H3.out _).mono ?_); rintro e w' ⟨rfl, nq, rfl⟩)
      | (go_at_call 57; (with_reducible refine (H4.out _).mono ?_); rintro e w' ⟨rfl, nq, rfl⟩)
      | (go_at_call 57; (with_reducible refine (H5.out _).mono ?_); rintro e w' ⟨rfl, nq, rfl⟩)
      | (go_at_call 57; (with_reducible refine (H6.out _).mono ?_); rintro e w' ⟨rfl, nq, rfl⟩)
      | (go_at_call 57; (with_reducible refine (H7.out _).mono ?_); rintro e w' ⟨rfl, nq, rfl⟩))
    go_ret
    exact ⟨by first | rfl | simp, HBL.out _⟩
  · skip
    go_enter Try.func30, Try.ntmps30
    go_wp2_with (first
      | (go_at_call 56; (with_reducible refine (H1.out _).mono ?_); rintro e w' ⟨rfl, nq, rfl⟩)
      | (go_at_call 56; (with_reducible refine (H2.out _).mono ?_); rintro e w' ⟨rfl, nq, rfl⟩)
      | (go_at_call 57; (with_reducible refine (H3.out _).mono ?_); rintro e w' ⟨rfl, nq, rfl⟩)
      | (go_at_call 57; (with_reducible refine (H4.out _).mono ?_); rintro e w' ⟨rfl, nq, rfl⟩)
      | (go_at_call 57; (with_reducible refine (H5.out _).mono ?_); rintro e w' ⟨rfl, nq, rfl⟩)
      | (go_at_call 57; (with_reducible refine (H6.out _).mono ?_); rintro e w' ⟨rfl, nq, rfl⟩)
      | (go_at_call 57; (with_reducible refine (H7.out _).mono ?_); rintro e w' ⟨rfl, nq, rfl⟩))
    go_ret
    exact ⟨by first | rfl | simp, HBL.out _⟩
end Go.Proofs.Ytkepgkjbhdgbiaa

namespace Go.Proofs.Ytkepgkjbhdgbiaa
open Go.RowKit

/-- 'append(v, y)' onto a row of the call's own, an element of several cells. -/
theorem appN {P : Program} {ops : Array Oper} {rest : List Oper} {o : Oper} {a : Act} {Q : Exit → Act → World → Prop} {w0 W : World} (base size : Nat) (s x : Operand) (t e : TypeId) (z : Value) (bytes : Nat)
    (hgd : o.guard = none) (ho : o.op = .call { callee := .builtin .append, args := #[s, x], argTypes := #[t, t] })
    (ht : P.underlying t = some (.slice e)) (hinfo : (P.info? e).map (fun i => (i.zero, i.size, i.bytes)) = some (some z, size, bytes)) (hz : z.cells.size = size) (hsz : 0 < size)
    (v : Value) (n : Nat) (xs : List Value) (cs : Array Value) (nb : Nat) (hs : a.eval s = v) (hx : a.eval x = .slice (some ⟨nb, 0, none⟩) 1 1) (hnb : nb = W.heap.size) (hcs : cs.size = size) (h1 : ∀ u ∈ cs.toList, u.oneCell' = true)
    (HO : W.ownsRow base e size v n xs) (HB : Below base w0 W) (hbase : base ≤ W.heap.size) (hl : n + 1 ≤ 1099511627776) (hby : bytes ≤ 128)
    (h : ∀ v1 w1, w1.ownsRow base e size v1 (n + 1) (xs ++ cs.toList) → Below base w0 w1 → W.grownBy w1 v.ownBlock → (v1.ownBlock = v.ownBlock ∨ ∃ b, v1.ownBlock = some b ∧ W.heap.size ≤ b) → wpList P ops Q rest (a.put o.dst v1) w1) :
    wpList P ops Q (o :: rest) a (W.alloc (.cells cs e)) := by
  subst hnb
  obtain ⟨i0, hi, hzz⟩ := Option.map_eq_some_iff.1 hinfo
  simp only [Prod.mk.injEq] at hzz
  obtain ⟨hz0, hz1, hz2⟩ := hzz
  have hlb : (n + 1) * bytes ≤ 140737488355328 := by
    have := Nat.mul_le_mul hl hby
    omega
  refine wpList_append_own_at (W.alloc (.cells cs e)) hgd s x t ho base e i0 z size bytes ht hi hz0 hz1 hz2 hz hsz v n xs hs (HO.alloc _) ⟨W.heap.size, 0, none⟩ 1 1 cs.toList hx (by simpa using hcs)
    (World.news_of_block (cs := cs) (t := e) (fr := (0, 0)) (heap_alloc_new W _)) h1 (by simp only [maxLen]; omega) hlb (by simp; omega) ?_
  intro v1 w1 hown hg _ hat
  refine h v1 w1 hown ((HB.alloc hbase _).grown hg (by simp; omega) (own_base HO)) (World.grownBy.trans (World.grownBy_alloc W _ _) hg) ?_
  rcases hat with hat | hat
  · exact .inl hat
  · exact .inr ⟨_, hat, by simp⟩

theorem own_slice {w : World} {base : Nat} {e : TypeId} {size n : Nat} {v : Value} {xs : List Value} (h : w.ownsRow base e size v n xs) : ∃ A m c, v = .slice A m c := by
  rcases h.2 with ⟨rfl, _⟩ | ⟨g, cap, cur, rfl, _⟩
  · exact ⟨_, _, _, rfl⟩
  · exact ⟨_, _, _, rfl⟩

section
variable {α : Type} {w w' : World} {base size : Nat} {e : TypeId} {v : Value} {R : (Nat → Option Value) → α → Prop} {l : List α} {xs : List Value}
/-- It asks of so many cells alone. -/
def LocR (size : Nat) (R : (Nat → Option Value) → α → Prop) : Prop := ∀ g g' x, (∀ i, i < size → g i = g' i) → R g x → R g' x
/-- A row of the call's own that tells a list, each element so many cells. -/
def OwnN (W : World) (base : Nat) (e : TypeId) (size : Nat) (R : (Nat → Option Value) → α → Prop) (v : Value) (l : List α) : Prop :=
  ∃ xs, W.ownsRow base e size v l.length xs ∧ xs.length = l.length * size ∧ ∀ (j : Nat) x, l[j]? = some x → R (fun i => xs[j * size + i]?) x
theorem OwnN.nil : OwnN w base e size R (.slice none 0 0) ([] : List α) := ⟨[], World.ownsRow_nil _ _ _ _, by simp, fun j x h => by simp at h⟩
theorem at_lt {n j i : Nat} (hj : j < n) (hi : i < size) : j * size + i < n * size := by
  have : (j + 1) * size ≤ n * size := Nat.mul_le_mul_right _ hj
  rw [Nat.add_mul, Nat.one_mul] at this
  omega
theorem OwnN.sl (h : OwnN w base e size R v l) (hL : LocR size R) : SlN (fun b => base ≤ b) w size R v l := by
  obtain ⟨xs, ho, hl, hr⟩ := h
  rcases ho.2 with ⟨rfl, h0⟩ | ⟨g, cap, cur, rfl, hb, hh, hc, hm, hs, ht⟩
  · have hn : l.length = 0 := h0
    have : l = [] := List.eq_nil_of_length_eq_zero hn
    subst this
    exact ⟨none, 0, rfl, Nat.le_refl _, Nat.zero_le _, fun j x h => by simp at h⟩
  · refine ⟨some ⟨g, 0, none⟩, cap, rfl, by omega, hm, fun j x hj => ⟨g, rfl, hb, (Array.getElem?_eq_some_iff.1 hh).1, ?_⟩⟩
    have hj' : j < l.length := (List.getElem?_eq_some_iff.1 hj).1
    refine hL _ _ x (fun i hi => ?_) (hr j x hj)
    exact (ho.cellAt (j * size + i) (at_lt hj' hi)).symm
theorem OwnN.snoc {v1 : Value} {ys : List Value} {x : α} {n : Nat} {R' : (Nat → Option Value) → α → Prop} (h : w'.ownsRow base e size v1 (n + 1) (xs ++ ys)) (hn : n = l.length) (hl : xs.length = l.length * size) (hy : ys.length = size) (hL : LocR size R')
    (hr : ∀ (j : Nat) x, l[j]? = some x → R' (fun i => xs[j * size + i]?) x) (hx : R' (fun i => ys[i]?) x) : OwnN w' base e size R' v1 (l ++ [x]) := by
  subst hn
  refine ⟨xs ++ ys, by simpa using h, by simp [hl, hy, Nat.add_mul], fun j x' hj => ?_⟩
  rcases Nat.lt_or_ge j l.length with h1 | h1
  · rw [List.getElem?_append_left h1] at hj
    refine hL _ _ x' (fun i hi => ?_) (hr j x' hj)
    rw [List.getElem?_append_left (by rw [hl]; exact at_lt h1 hi)]
  · rw [List.getElem?_append_right h1] at hj
    have hjl : j = l.length := by
      have := (List.getElem?_eq_some_iff.1 hj).1
      simp at this; omega
    subst hjl
    simp at hj
    subst hj
    refine hL _ _ x (fun i hi => ?_) hx
    rw [List.getElem?_append_right (by rw [hl]; omega), hl]
    congr 1
    omega
end

theorem bcell {W w1 : World} (hb : Below W.heap.size W w1) : (∀ b o, b < W.heap.size → w1.cell? ⟨b, o, none⟩ = W.cell? ⟨b, o, none⟩) ∧ (∀ b o, b < W.heap.size → w1.frozen? ⟨b, o, none⟩ = W.frozen? ⟨b, o, none⟩) :=
  ⟨fun b o h => hb.cell (p := ⟨b, o, none⟩) h, fun b o h => hb.frozen (p := ⟨b, o, none⟩) h⟩

/-- Numbers as codes. -/
structure Gr where
  zero : Int
  scale : Int
  codes : List Int
def GrR (F : Nat → Prop) (w : World) (get : Nat → Option Value) (g : Gr) : Prop :=
  ∃ v, get 0 = some (.int .i32 g.zero) ∧ get 1 = some (.int .u32 g.scale) ∧ get 2 = some v ∧ InK .i32 g.zero ∧ Sl F w (IntV .i64) v g.codes
theorem GrR.keep {F G : Nat → Prop} {w w' : World} {get : Nat → Option Value} {g : Gr} (h : GrR F w get g) (hF : ∀ b, b < w.heap.size → F b → w'.heap[b]? = w.heap[b]?) (hG : ∀ b, b < w.heap.size → F b → G b) : GrR G w' get g := by
  obtain ⟨v, g0, g1, g2, h1, hs⟩ := h
  exact ⟨v, g0, g1, g2, h1, hs.keep hF hG (fun _ _ _ h => h)⟩
theorem GrR.loc (F : Nat → Prop) (w : World) : LocR 3 (GrR F w) := by
  rintro g g' x hg ⟨v, h0, h1, h2, h3, h4⟩
  exact ⟨v, by rw [← hg 0 (by decide)]; exact h0, by rw [← hg 1 (by decide)]; exact h1, by rw [← hg 2 (by decide)]; exact h2, h3, h4⟩
theorem PkR.loc (F : Nat → Prop) (w : World) (n b : Nat) : LocR 4 (PkR F w n b) := by
  rintro g g' x hg ⟨v, h0, h1, h2, h3, h4⟩
  exact ⟨v, by rw [← hg 0 (by decide)]; exact h0, by rw [← hg 1 (by decide)]; exact h1, by rw [← hg 2 (by decide)]; exact h2, by rw [← hg 3 (by decide)]; exact h3, h4⟩
section
variable {w w1 : World} {B : Nat} {X X' : List (Option Nat)} {row : Option Nat} {get : Nat → Option Value}
theorem fx_keep (hg : w.grownBy w1 row) (hrow : row = none ∨ row ∈ X) (b : Nat) (hb : b < w.heap.size) (hf : Fx B X b) : w1.heap[b]? = w.heap[b]? := by
  refine hg.block b hb ?_
  rintro rfl
  rcases hrow with h | h
  · cases h
  · exact hf.2 h
theorem fx_turn (hX : ∀ o ∈ X', o ∈ X ∨ ∃ b, o = some b ∧ w.heap.size ≤ b) (b : Nat) (hb : b < w.heap.size) (hf : Fx B X b) : Fx B X' b := by
  refine ⟨hf.1, fun hm => ?_⟩
  rcases hX _ hm with h | ⟨b', h1, h2⟩
  · exact hf.2 h
  · injection h1 with h1
    omega
theorem fx_one {v v1 : Value} (h : v1.ownBlock = v.ownBlock ∨ ∃ b, v1.ownBlock = some b ∧ w.heap.size ≤ b) : ∀ o ∈ [v1.ownBlock], o ∈ [v.ownBlock] ∨ ∃ b, o = some b ∧ w.heap.size ≤ b := by
  intro o ho
  simp at ho
  subst ho
  exact h.imp (fun e => by simp [e]) id
theorem fx_new {v : Value} {W : World} (h : ∀ k, v.ownBlock = some k → k < W.heap.size) (hB : B ≤ W.heap.size) (b : Nat) (hb : W.heap.size ≤ b) : Fx B [v.ownBlock] b :=
  ⟨Nat.le_trans hB hb, fun hm => by simp at hm; have := h b hm.symm; omega⟩
end
def packG (b : Nat) (g : Gr) : Pk := ⟨g.zero, g.scale, packL g.codes b⟩
theorem info_gr : (Try.prog.info? 79).map (fun i => (i.zero, i.size, i.bytes)) = some (some (.agg #[.int .i32 0, .int .u32 0, .slice none 0 0]), 3, 32) := by kernel_rfl
theorem info_pk : (Try.prog.info? 129).map (fun i => (i.zero, i.size, i.bytes)) = some (some (.agg #[.int .i32 0, .int .u32 0, .slice none 0 0, .slice none 0 0]), 4, 56) := by kernel_rfl
end Go.Proofs.Ytkepgkjbhdgbiaa
