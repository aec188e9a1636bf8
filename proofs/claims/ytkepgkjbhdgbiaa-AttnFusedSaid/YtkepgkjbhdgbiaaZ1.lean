/- Contracts of functions of the program, and what they need (Base). -/
import Derived.Below
import Derived.Deep.Draws
import Derived.Maps.AppendAt
import Derived.Deep.AppendLies
import Derived.OwnWalk
import Derived.Laws.MakeOwn
import Derived.Deep.OwnRows
import Derived.Laws.OwnMore
import Derived.Tactics
import Derived.WalkKit
import Derived.Deep.QuietTactic
import Derived.BigQuiet
import Derived.Deep.LoopGhost
import Derived.Lib.Hide
import Derived.Deep.Cut
import Derived.Deep.CutRange
import Derived.Deep.DeepCutAuto
import Derived.Deep.CutBlock
import Derived.Outline
import Derived.KernelRfl
import Derived.RegionTactic
import Derived.StillTailTactics
import Derived.Deep.RegionWith
import Derived.Deep.RegionHeld3
import Derived.Deep.RegionLaw

namespace Go.Proofs.Ytkepgkjbhdgbiaa
open Go.RowKit

/-- A slice that reads as a list, each element one cell: 'R' says how a cell's value tells an element; the blocks lie in 'F'. -/
def Sl {α : Type} (F : Nat → Prop) (w : World) (R : Value → α → Prop) (v : Value) (l : List α) : Prop :=
  ∃ A c, v = .slice A l.length c ∧ l.length ≤ c ∧ c ≤ maxLen ∧ ∀ j x, l[j]? = some x → ∃ ad u, A = some ad ∧ F ad.block ∧ w.cell? (ad.add j) = some u ∧ R u x

def InK : IntKind → Int → Prop
  | .i8, x => -128 ≤ x ∧ x ≤ 127
  | .u8, x => 0 ≤ x ∧ x ≤ 255
  | .i16, x => -32768 ≤ x ∧ x ≤ 32767
  | .u16, x => 0 ≤ x ∧ x ≤ 65535
  | .i32, x => -2147483648 ≤ x ∧ x ≤ 2147483647
  | .u32, x => 0 ≤ x ∧ x ≤ 4294967295
  | .i64, x => -9223372036854775808 ≤ x ∧ x ≤ 9223372036854775807
  | .u64, x => 0 ≤ x ∧ x ≤ 18446744073709551615

def IntV (k : IntKind) (u : Value) (x : Int) : Prop := u = .int k x ∧ InK k x

section
variable {α : Type} {F G : Nat → Prop} {w w' : World} {R R' : Value → α → Prop} {v : Value} {l : List α}

theorem Sl.nil : Sl F w R (.slice none 0 0) ([] : List α) := ⟨none, 0, rfl, Nat.le_refl _, Nat.zero_le _, fun j x h => by simp at h⟩

@[go_sem] theorem block_add (a : Addr) (n : Nat) : (a.add n).block = a.block := by unfold Addr.add; split <;> rfl

/-- Kept where the blocks of 'F' are kept. -/
theorem Sl.keep (h : Sl F w R v l) (hF : ∀ b, b < w.heap.size → F b → w'.heap[b]? = w.heap[b]?) (hG : ∀ b, b < w.heap.size → F b → G b) (hR : ∀ u x, x ∈ l → R u x → R' u x) : Sl G w' R' v l := by
  obtain ⟨A, c, hv, hc, hm, h⟩ := h
  refine ⟨A, c, hv, hc, hm, fun j x hj => ?_⟩
  obtain ⟨ad, u, hA, hf, hu, hr⟩ := h j x hj
  have hb : (ad.add j).block < w.heap.size := World.block_lt_of_cell? w _ hu
  have hb' : (ad.add j).block = ad.block := block_add ad j
  refine ⟨ad, u, hA, hG _ (by rw [← hb']; exact hb) hf, ?_, hR u x (List.mem_of_getElem? hj) hr⟩
  rw [← hu]
  exact World.cell?_of_block (hF _ hb (by rw [hb']; exact hf))

theorem Sl.below (h : Sl F w R v l) (hb : Below w.heap.size w w') : Sl F w' R v l := h.keep (fun b hb' _ => hb.block b hb') (fun _ _ h => h) (fun _ _ _ h => h)

theorem Sl.at_ (h : Sl F w R v l) {A : Option Addr} {n c : Nat} (hv : v = .slice A n c) {k : Nat} (hk : k < l.length) : ∃ ad u, A = some ad ∧ F ad.block ∧ w.cell? (ad.add k) = some u ∧ R u l[k] := by
  obtain ⟨A', c', hv', _, _, h⟩ := h
  rw [hv'] at hv
  injection hv with h1 h2 h3
  subst h1
  exact h k _ (List.getElem?_eq_getElem hk)

theorem Sl.form (h : Sl F w R v l) : ∃ A c, v = .slice A l.length c ∧ l.length ≤ c ∧ c ≤ 9223372036854775807 := by
  obtain ⟨A, c, hv, h1, h2, _⟩ := h
  exact ⟨A, c, hv, h1, h2⟩
end

/-- A row of the call's own reads as a list. -/
theorem Sl.own {α : Type} {w : World} {base : Nat} {e : TypeId} {v : Value} {xs : List Value} {R : Value → α → Prop} {l : List α} {n : Nat} (h : w.ownsRow base e 1 v n xs) (hl : l.length = xs.length)
    (hR : ∀ (j : Nat) u x, xs[j]? = some u → l[j]? = some x → R u x) : Sl (fun b => base ≤ b) w R v l := by
  have hn : xs.length = n := by have := h.1; omega
  rcases h.2 with ⟨rfl, h0⟩ | ⟨g, cap, cur, rfl, hb, hh, hc, hm, hs, ht⟩
  · have : l = [] := List.eq_nil_of_length_eq_zero (by omega)
    subst this
    exact Sl.nil
  · refine ⟨some ⟨g, 0, none⟩, cap, by rw [hl, hn], by omega, hm, fun j x hj => ?_⟩
    have hj' : j < xs.length := by
      have := (List.getElem?_eq_some_iff.1 hj).1
      omega
    exact ⟨_, xs[j], rfl, hb, h.cells (g := g) rfl j _ (List.getElem?_eq_getElem hj'), hR j _ x (List.getElem?_eq_getElem hj') hj⟩

theorem own_base {w : World} {base : Nat} {e : TypeId} {size n : Nat} {v : Value} {xs : List Value} (h : w.ownsRow base e size v n xs) (k : Nat) (hk : v.ownBlock = some k) : base ≤ k := by
  rcases h.2 with ⟨rfl, _⟩ | ⟨g, cap, cur, rfl, hb, _⟩
  · simp [Value.ownBlock] at hk
  · have : g = k := by simpa [Value.ownBlock] using hk
    omega

/-- 'append(v, y)' onto a row of the call's own; the goal's world lays the variadic's box. -/
theorem app1 {P : Program} {ops : Array Oper} {rest : List Oper} {o : Oper} {a : Act} {Q : Exit → Act → World → Prop} {w0 W : World} (base : Nat) (s x : Operand) (t e : TypeId) (z : Value) (bytes : Nat)
    (hgd : o.guard = none) (ho : o.op = .call { callee := .builtin .append, args := #[s, x], argTypes := #[t, t] })
    (ht : P.underlying t = some (.slice e)) (hinfo : (P.info? e).map (fun i => (i.zero, i.size, i.bytes)) = some (some z, 1, bytes)) (hz : z.cells.size = 1)
    (v : Value) (xs : List Value) (y : Value) (hs : a.eval s = v) (hx : a.eval x = .slice (some ⟨W.heap.size, 0, none⟩) 1 1) (h1 : y.oneCell' = true)
    (HO : W.ownsRow base e 1 v xs.length xs) (HB : Below base w0 W) (hbase : base ≤ W.heap.size) (hl : xs.length + 1 ≤ 2199023255552) (hby : bytes ≤ 64)
    (h : ∀ v1 w1, w1.ownsRow base e 1 v1 (xs ++ [y]).length (xs ++ [y]) → Below base w0 w1 → W.grownBy w1 v.ownBlock → (v1.ownBlock = v.ownBlock ∨ ∃ b, v1.ownBlock = some b ∧ W.heap.size ≤ b) → wpList P ops Q rest (a.put o.dst v1) w1) :
    wpList P ops Q (o :: rest) a (W.alloc (.cells #[y] e)) := by
  obtain ⟨i0, hi, hzz⟩ := Option.map_eq_some_iff.1 hinfo
  simp only [Prod.mk.injEq] at hzz
  obtain ⟨hz0, hz1, hz2⟩ := hzz
  have hlb : (xs.length + 1) * bytes ≤ 140737488355328 := by
    have := Nat.mul_le_mul hl hby
    omega
  refine wpList_append_own_at (W.alloc (.cells #[y] e)) hgd s x t ho base e i0 z 1 bytes ht hi hz0 hz1 hz2 hz (by omega) v xs.length xs hs (HO.alloc _) ⟨W.heap.size, 0, none⟩ 1 1 [y] hx rfl
    (World.news_of_block (cs := #[y]) (t := e) (fr := (0, 0)) (heap_alloc_new W _)) (by simpa using h1) (by simp only [maxLen]; omega) hlb (by simp; omega) ?_
  intro v1 w1 hown hg _ hat
  refine h v1 w1 (by simpa using hown) ((HB.alloc hbase _).grown hg (by simp; omega) (own_base HO)) (World.grownBy.trans (World.grownBy_alloc W _ _) hg) ?_
  rcases hat with hat | hat
  · exact .inl hat
  · exact .inr ⟨_, hat, by simp⟩

/-- 'make([]T, m)', T of one cell. -/
theorem make_run {P : Program} (t e : TypeId) (z : Value) (bytes : Nat) (ht : P.underlying t = some (.slice e)) (hinfo : (P.info? e).map (fun i => (i.zero, i.size, i.bytes)) = some (some z, 1, bytes)) (hz : z.cells = #[z])
    (m : Nat) (hm : bytes * m ≤ 281474976710656) (hm' : m ≤ 9223372036854775807) :
    ∀ W : World, (Instr.makeSlice t (.int .i64 (m : Int)) (.int .i64 (m : Int))).run P W = .ok (.slice (some ⟨W.heap.size, 0, none⟩) m m) (W.alloc (.cells (madeCells #[z] m) e)) := fun W =>
  run_make_row' t e z bytes ht hinfo hz .i64 .i64 m hm (by omega) W

theorem own_made (W : World) (base : Nat) (e : TypeId) (z : Value) (m : Nat) (hb : base ≤ W.heap.size) (hm : m ≤ 9223372036854775807) :
    (W.alloc (.cells (madeCells #[z] m) e)).ownsRow base e 1 (.slice (some ⟨W.heap.size, 0, none⟩) m m) m (List.replicate m z) := by
  have h := World.ownsRow_lit (base := base) (e := e) (size := 1) W (madeCells #[z] m) m hb (by simpa [maxLen] using hm) (by simp [size_madeCells])
  have hl : (madeCells #[z] m).toList = List.replicate m z := by
    apply List.ext_getElem
    · simp [madeCells]
    · intro i h1 h2
      simp [madeCells, Nat.mod_one]
  rwa [hl] at h

theorem take_succ_map {α β : Type} (f : α → β) (l : List α) {k : Nat} (h : k < l.length) : (l.take (k + 1)).map f = (l.take k).map f ++ [f l[k]] := by
  rw [List.take_succ_eq_append_getElem h, List.map_append]; rfl

/-- Sums, by places. -/
def sumTo (f : Nat → Int) : Nat → Int
  | 0 => 0
  | n + 1 => sumTo f n + f n
theorem sumTo_bd {f : Nat → Int} {B : Int} {n : Nat} (h : ∀ i, i < n → -B ≤ f i ∧ f i ≤ B) : -(n * B) ≤ sumTo f n ∧ sumTo f n ≤ n * B := by
  induction n with
  | zero => simp [sumTo]
  | succ n ih =>
    have h1 := ih fun i hi => h i (by omega)
    have h2 := h n (by omega)
    have e : ((n + 1 : Nat) : Int) * B = n * B + B := by rw [Int.natCast_add, Int.add_mul]; simp
    rw [e]
    simp only [sumTo]
    omega
theorem sumTo_congr {f g : Nat → Int} {n : Nat} (h : ∀ i, i < n → f i = g i) : sumTo f n = sumTo g n := by
  induction n with
  | zero => rfl
  | succ n ih => simp only [sumTo]; rw [ih fun i hi => h i (by omega), h n (by omega)]

/-- It returns a slice that reads as a list; what it has made alone is new. -/
def RetSl {α : Type} (w : World) (R : World → Value → α → Prop) (l : List α) (e : Ending) (w' : World) : Prop :=
  Below w.heap.size w w' ∧ ∃ v, e = .returned v ∧ Sl (fun b => w.heap.size ≤ b) w' (R w') v l

theorem drewN_below (w : World) (n : Nat) : Below w.heap.size w (w.drewN n) := by
  induction n with
  | zero => exact Below.refl _ _
  | succ n ih => exact ⟨ih.os, ih.tape, ih.output, ih.size, ih.block⟩
theorem below_drewN {B : Nat} {a w : World} (h : Below B a w) (n : Nat) : Below B a (w.drewN n) := ⟨h.os, h.tape, h.output, h.size, h.block⟩
theorem own_drewN {w : World} {base : Nat} {e : TypeId} {size n : Nat} {v : Value} {xs : List Value} (h : w.ownsRow base e size v n xs) (k : Nat) : (w.drewN k).ownsRow base e size v n xs := h

/-- A row of the call's own that tells a list. -/
def OwnL {α : Type} (W : World) (base : Nat) (e : TypeId) (R : Value → α → Prop) (v : Value) (l : List α) : Prop :=
  ∃ xs, W.ownsRow base e 1 v xs.length xs ∧ xs.length = l.length ∧ ∀ (j : Nat) u x, xs[j]? = some u → l[j]? = some x → R u x
section
variable {α : Type} {W W' : World} {base : Nat} {e : TypeId} {R R' : Value → α → Prop} {v : Value} {l : List α}
theorem OwnL.nil : OwnL W base e R (.slice none 0 0) ([] : List α) := ⟨[], World.ownsRow_nil _ _ _ _, rfl, fun j u x h => by simp at h⟩
theorem OwnL.sl (h : OwnL W base e R v l) : Sl (fun b => base ≤ b) W R v l := by
  obtain ⟨xs, ho, hl, hr⟩ := h
  exact Sl.own ho hl.symm hr
theorem OwnL.snoc {v1 : Value} {xs : List Value} {u : Value} {x : α} (h : W'.ownsRow base e 1 v1 (xs ++ [u]).length (xs ++ [u])) (hl : xs.length = l.length) (hr : ∀ (j : Nat) u x, xs[j]? = some u → l[j]? = some x → R' u x) (hu : R' u x) :
    OwnL W' base e R' v1 (l ++ [x]) := by
  refine ⟨xs ++ [u], h, by simp [hl], fun j u' x' h1 h2 => ?_⟩
  rcases Nat.lt_or_ge j xs.length with hj | hj
  · rw [List.getElem?_append_left hj] at h1
    rw [List.getElem?_append_left (by omega)] at h2
    exact hr j u' x' h1 h2
  · rw [List.getElem?_append_right hj] at h1
    rw [List.getElem?_append_right (by omega)] at h2
    have e1 : j - xs.length = 0 := by
      have := (List.getElem?_eq_some_iff.1 h1).1
      simp at this; omega
    rw [e1] at h1
    rw [show j - l.length = 0 by omega] at h2
    simp at h1 h2
    subst h1; subst h2
    exact hu
theorem own_below {w w1 : World} {base : Nat} {e : TypeId} {size n : Nat} {v : Value} {xs : List Value} (h : w.ownsRow base e size v n xs) (hb : Below w.heap.size w w1) : w1.ownsRow base e size v n xs :=
  h.kept (row := none) ⟨hb.os, hb.tape, hb.output, hb.size, fun i hi _ => hb.block i hi⟩ (by cases v.ownBlock <;> simp)
theorem own_lt {w : World} {base : Nat} {e : TypeId} {size n : Nat} {v : Value} {xs : List Value} (h : w.ownsRow base e size v n xs) (k : Nat) (hk : v.ownBlock = some k) : k < w.heap.size := by
  rcases h.2 with ⟨rfl, _⟩ | ⟨g, cap, cur, rfl, hb, hh, _⟩
  · simp [Value.ownBlock] at hk
  · have : g = k := by simpa [Value.ownBlock] using hk
    subst this
    exact (Array.getElem?_eq_some_iff.1 hh).1
theorem own_ne {w : World} {b b' : Nat} {e e' : TypeId} {s s' n n' : Nat} {v v' : Value} {xs xs' : List Value} (h : w.ownsRow b e s v n xs) (h' : w.ownsRow b' e' s' v' n' xs') (hne : e ≠ e') : v.ownBlock = none ∨ v.ownBlock ≠ v'.ownBlock := by
  rcases h.2 with ⟨rfl, _⟩ | ⟨g, cap, cur, rfl, _, hh, _⟩
  · exact .inl rfl
  · refine .inr fun hk => ?_
    rcases h'.2 with ⟨rfl, _⟩ | ⟨g', cap', cur', rfl, _, hh', _⟩
    · simp [Value.ownBlock] at hk
    · have : g = g' := by simpa [Value.ownBlock] using hk
      subst this
      rw [hh] at hh'
      injection hh' with hh'
      injection hh' with _ ht
      exact hne ht
theorem OwnL.mono (h : OwnL W base e R v l) (hR : ∀ u x, R u x → R' u x) : OwnL W base e R' v l := by
  obtain ⟨xs, ho, hl, hr⟩ := h
  exact ⟨xs, ho, hl, fun j u x h1 h2 => hR _ _ (hr j u x h1 h2)⟩
end

/-- The blocks of the call's own but for rows that still grow. -/
def Fx (B : Nat) (X : List (Option Nat)) (b : Nat) : Prop := B ≤ b ∧ some b ∉ X
section
variable {α : Type} {W w1 : World} {B : Nat} {X X' : List (Option Nat)} {R : Value → α → Prop} {u : Value} {l : List α} {row : Option Nat}
theorem Sl.grow (h : Sl (Fx B X) W R u l) (hg : W.grownBy w1 row) (hrow : row = none ∨ row ∈ X) (hX : ∀ o ∈ X', o ∈ X ∨ ∃ b, o = some b ∧ W.heap.size ≤ b) : Sl (Fx B X') w1 R u l := by
  refine h.keep (fun b hb hf => hg.block b hb ?_) (fun b hb hf => ⟨hf.1, fun hm => ?_⟩) (fun _ _ _ h => h)
  · rintro rfl
    rcases hrow with h | h
    · cases h
    · exact hf.2 h
  · rcases hX _ hm with h | ⟨b', h1, h2⟩
    · exact hf.2 h
    · injection h1 with h1
      omega
theorem Sl.toFx (h : Sl (fun b => W.heap.size ≤ b) w1 R u l) (hB : B ≤ W.heap.size) (hX : ∀ b, some b ∈ X → b < W.heap.size) : Sl (Fx B X) w1 R u l :=
  h.keep (fun _ _ _ => rfl) (fun b _ hf => ⟨Nat.le_trans hB hf, fun hm => by have := hX b hm; omega⟩) (fun _ _ _ h => h)
end
theorem grown_of_below {w w1 : World} (h : Below w.heap.size w w1) (row : Option Nat) : w.grownBy w1 row := ⟨h.os, h.tape, h.output, h.size, fun i hi _ => h.block i hi⟩

theorem cell_below {w w1 : World} (h : Below w.heap.size w w1) {a : Addr} {v : Value} (hc : w.cell? a = some v) : w1.cell? a = some v := (h.cell (World.block_lt_of_cell? w a hc)).trans hc
end Go.Proofs.Ytkepgkjbhdgbiaa
