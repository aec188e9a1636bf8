/-
  Of any pages and plain tokens a query gathers just what it gathers of what they mean, as lists: the law AttnFused returns true for every input that can be read, and each argument reads behind the call as it read before.
  Conditions: none beyond the row's own (an input that can be read).
-/
import Derived.Test.YtkepgkjbhdgbiaaRows
import Derived.WalkKit
import Derived.ProofKit
import Derived.OpenShut
import Derived.ChangeOld
import Derived.Deep.Slices
import Derived.Test.YtkepgkjbhdgbiaaZ25

namespace Go.Proofs.Ytkepgkjbhdgbiaa
open Go.ChangeShapes Go.WideShapes Go.ChangeAt Go.RowKit

section
variable {H : Type} {enc : TypeId × Value → H} {w : World} {base : Nat} {spare : Nat → Bool} {held : Bool}

/-- A slice that can be read, of elements of one cell, reads as a list. -/
theorem read_sl {α : Type} [Inhabited α] {t e : TypeId} (R : Value → α → Prop) (ht : Try.prog.underlying t = some (.slice e)) (hc : Try.prog.cellsOf e = 1)
    (hR : ∀ n u x, DataW.trod enc Try.prog w base spare held n e [u] = some x → ∃ y, R u y) {fuel : Nat} {v : Value} {x : DataW H × List MemPlace} (h : DataW.trod enc Try.prog w base spare held fuel t [v] = some x) :
    ∃ l : List α, Sl (fun _ => True) w R v l ∧ ∀ A n c, v = .slice A n c → A = none → n = 0 ∧ c = 0 := by
  rcases Go.Deep.open_slice1 ht hc h with ⟨hcs, _⟩ | ⟨a, len, cap, m, n, V, D, Pl, hcs, _, hl, hm, hmm, _, hx⟩
  · simp only [List.cons.injEq, and_true] at hcs
    subst hcs
    exact ⟨[], Sl.nil, fun A n c hv _ => by cases hv; exact ⟨rfl, rfl⟩⟩
  · simp only [List.cons.injEq, and_true] at hcs
    subst hcs
    have hle : len ≤ m := by rw [hmm]; split <;> omega
    have hex : ∀ i, ∃ y, i < len → R (V i) y := fun i => by
      by_cases hi : i < len
      · obtain ⟨_, h2⟩ := hx i (by omega)
        obtain ⟨y, hy⟩ := hR n _ _ h2
        exact ⟨y, fun _ => hy⟩
      · exact ⟨default, fun h => absurd h hi⟩
    refine ⟨(List.range len).map fun i => Classical.choose (hex i), ⟨some a, cap, by simp, by simpa using hl, hm, fun j y hj => ?_⟩, fun A n c hv hA => by cases hv; cases hA⟩
    have hjl : j < len := by simpa using (List.getElem?_eq_some_iff.1 hj).1
    rw [List.getElem?_map, List.getElem?_range hjl] at hj
    simp only [Option.map_some, Option.some.injEq] at hj
    subst hj
    exact ⟨a, V j, rfl, trivial, (hx j (by omega)).1, Classical.choose_spec (hex j) hjl⟩

theorem read_i32 (n : Nat) (u : Value) (x : DataW H × List MemPlace) (h : DataW.trod enc Try.prog w base spare held n 21 [u] = some x) : ∃ y : Int, IntV .i32 u y := by
  obtain ⟨k, hcs, _, hw⟩ := DataW.trod_int Try.underlying21 h
  simp only [List.cons.injEq, and_true] at hcs
  exact ⟨k, hcs, bounds_i32 hw⟩
theorem read_row (n : Nat) (u : Value) (x : DataW H × List MemPlace) (h : DataW.trod enc Try.prog w base spare held n 22 [u] = some x) : ∃ l : List Int, Sl (fun _ => True) w (IntV .i32) u l := by
  obtain ⟨l, hl, _⟩ := read_sl (IntV .i32) Try.underlying22 (by kernel_rfl) read_i32 h
  exact ⟨l, hl⟩
theorem read_rows (n : Nat) (u : Value) (x : DataW H × List MemPlace) (h : DataW.trod enc Try.prog w base spare held n 25 [u] = some x) : ∃ l : List (List Int), Rows (fun _ => True) w u l ∧ ∀ A n c, u = .slice A n c → A = none → n = 0 ∧ c = 0 :=
  read_sl (fun u l => Sl (fun _ => True) w (IntV .i32) u l) Try.underlying25 (by kernel_rfl) read_row h
theorem read_rows3 (n : Nat) (u : Value) (x : DataW H × List MemPlace) (h : DataW.trod enc Try.prog w base spare held n 24 [u] = some x) : ∃ l : List (List (List Int)), Rows3 (fun _ => True) w u l := by
  obtain ⟨l, hl, _⟩ := read_sl (fun u l => Rows (fun _ => True) w u l) Try.underlying24 (by kernel_rfl) (fun n u x h => by obtain ⟨l, hl, _⟩ := read_rows n u x h; exact ⟨l, hl⟩) h
  exact ⟨l, hl⟩

theorem read_int (n : Nat) (u : Value) (x : DataW H × List MemPlace) (h : DataW.trod enc Try.prog w base spare held n 3 [u] = some x) : ∃ y : Int, u = .int .i64 y := by
  obtain ⟨k, hcs, _, hw⟩ := DataW.trod_int Try.underlying3 h
  simp only [List.cons.injEq, and_true] at hcs
  exact ⟨k, hcs⟩

set_option maxRecDepth 100000 in
theorem read_head (n : Nat) (cs : List Value) (x : DataW H × List MemPlace) (h : DataW.trod enc Try.prog w base spare held n 41 cs = some x) : ∃ hd : Hd, cs = (hdCells hd).toList := by
  obtain ⟨xs, m, _, _, hlen, hxl, hf⟩ := DataW.trod_struct Try.underlying41 h
  have hlen7 : cs.length = 7 := hlen.trans (by kernel_rfl)
  clear hlen
  match cs, hlen7 with
  | [c0, c1, c2, c3, c4, c5, c6], _ =>
    have hxs : xs.length = 7 := hxl
    have get : ∀ (i : Nat) (c : Value) (t : TypeId) (hi : i < 7), Try.prog.cellsOf t = 1 → (([c0, c1, c2, c3, c4, c5, c6].drop i).take 1 = [c]) → DataW.trod enc Try.prog w base spare held m t (([c0, c1, c2, c3, c4, c5, c6].drop i).take (Try.prog.cellsOf t)) = xs[i]? → ∃ y, DataW.trod enc Try.prog w base spare held m t [c] = some y := fun i c t hi h1 hc ht => by
      rw [h1, hc, List.getElem?_eq_getElem (by omega)] at ht
      exact ⟨_, ht⟩
    obtain ⟨_, g0⟩ := get 0 c0 3 (by omega) (by kernel_rfl) rfl (hf 0 _ rfl)
    obtain ⟨y0, rfl⟩ := read_int _ _ _ g0
    obtain ⟨_, g1⟩ := get 1 c1 3 (by omega) (by kernel_rfl) rfl (hf 1 _ rfl)
    obtain ⟨y1, rfl⟩ := read_int _ _ _ g1
    obtain ⟨_, g2⟩ := get 2 c2 3 (by omega) (by kernel_rfl) rfl (hf 2 _ rfl)
    obtain ⟨y2, rfl⟩ := read_int _ _ _ g2
    obtain ⟨_, g3⟩ := get 3 c3 3 (by omega) (by kernel_rfl) rfl (hf 3 _ rfl)
    obtain ⟨y3, rfl⟩ := read_int _ _ _ g3
    obtain ⟨_, g4⟩ := get 4 c4 3 (by omega) (by kernel_rfl) rfl (hf 4 _ rfl)
    obtain ⟨y4, rfl⟩ := read_int _ _ _ g4
    obtain ⟨_, g5⟩ := get 5 c5 3 (by omega) (by kernel_rfl) rfl (hf 5 _ rfl)
    obtain ⟨y5, rfl⟩ := read_int _ _ _ g5
    obtain ⟨_, g6⟩ := get 6 c6 3 (by omega) (by kernel_rfl) rfl (hf 6 _ rfl)
    obtain ⟨y6, rfl⟩ := read_int _ _ _ g6
    exact ⟨⟨y0, y1, y2, y3, y4, y5, y6⟩, rfl⟩
/-- Heads, wherever their slice begins. -/
theorem read_heads (n : Nat) (u : Value) (x : DataW H × List MemPlace) (h : DataW.trod enc Try.prog w base spare held n 23 [u] = some x) : ∃ l : List Hd, SlO w 7 HdR u l := by
  rcases Go.Deep.open_slice Try.underlying23 h with ⟨hcs, _⟩ | ⟨a, len, cap, m, n, D, Pl, hcs, _, hl, hm, hmm, _, hx⟩
  · simp only [List.cons.injEq, and_true] at hcs
    subst hcs
    exact ⟨[], none, 0, rfl, Nat.le_refl _, Nat.zero_le _, fun j x h => by simp at h⟩
  · simp only [List.cons.injEq, and_true] at hcs
    subst hcs
    have hle : len ≤ m := by rw [hmm]; split <;> omega
    have h7 : Try.prog.cellsOf 41 = 7 := by kernel_rfl
    rw [h7] at hx
    have hex : ∀ i, ∃ y : Hd, i < len → ∀ j, j < 7 → w.cell? (a.add (i * 7 + j)) = (hdCells y)[j]? := fun i => by
      by_cases hi : i < len
      · obtain ⟨cs', h1, h2⟩ := hx i (by omega)
        obtain ⟨y, rfl⟩ := read_head n _ _ h2
        obtain ⟨_, _, hat⟩ := World.cells?_some h1
        refine ⟨y, fun _ j hj => ?_⟩
        rw [← Go.Deep.add_add, hat j hj]
        simp
      · exact ⟨hd0, fun h => absurd h hi⟩
    refine ⟨(List.range len).map fun i => Classical.choose (hex i), some a, cap, by simp, by simpa using hl, hm, fun j y hj => ?_⟩
    have hjl : j < len := by simpa using (List.getElem?_eq_some_iff.1 hj).1
    rw [List.getElem?_map, List.getElem?_range hjl] at hj
    simp only [Option.map_some, Option.some.injEq] at hj
    have hc := Classical.choose_spec (hex j) hjl
    rw [hj] at hc
    obtain ⟨b, off, spot⟩ := a
    have hc0 := hc 0 (by omega)
    have hspot : spot = none := by
      have h1 := Classical.choose_spec (hex 0) (by omega) 0 (by omega)
      have h2 : w.cell? ⟨b, off, spot⟩ = some (.int .i64 (Classical.choose (hex 0)).kb) := h1
      exact World.cell?_spot h2
    subst hspot
    have hadd : ∀ k, (⟨b, off, none⟩ : Addr).add k = ⟨b, off + k, none⟩ := fun k => by unfold Addr.add; split <;> simp_all
    refine ⟨b, off, rfl, ?_, ?_⟩
    · have h1 : w.cell? ((⟨b, off, none⟩ : Addr).add (j * 7 + 0)) = some (.int .i64 y.kb) := hc0
      have := World.block_lt_of_cell? w _ h1
      rwa [block_add] at this
    · have hg : ∀ i, i < 7 → w.cell? ⟨b, off + j * 7 + i, none⟩ = (hdCells y)[i]? := fun i hi => by
        rw [← hc i hi, hadd, Nat.add_assoc]
      exact ⟨hg 0 (by omega), hg 1 (by omega), hg 2 (by omega), hg 3 (by omega), hg 4 (by omega), hg 5 (by omega), hg 6 (by omega)⟩

set_option maxRecDepth 100000 in
theorem read_case {r : Reach} {b0 : Nat} {v : Value} {d : DataW H} {p : List MemPlace} (hv : Value.okWide Try.prog w r b0 27 v) (h : DataW.Trod enc Try.prog w base spare held 27 v d p) :
    ∃ qv hv pkv pvv kv vv z, v = .agg #[qv, hv, pkv, pvv, kv, vv] ∧ CsV w qv hv pkv pvv kv vv z ∧ (∀ A n c, kv = .slice A n c → A = none → n = 0 ∧ c = 0) ∧ ∀ A n c, vv = .slice A n c → A = none → n = 0 ∧ c = 0 := by
  obtain ⟨cs, rfl, hsz⟩ := okWide_struct Try.underlying27 hv
  have hsz6 : cs.toList.length = 6 := by simpa using hsz.trans (by kernel_rfl : _ = 6)
  obtain ⟨cs⟩ := cs
  clear hsz hv
  match cs, hsz6 with
  | [c0, c1, c2, c3, c4, c5], _ =>
    obtain ⟨fuel, hf⟩ := h
    obtain ⟨xs, m, _, _, _, hxl, hf⟩ := DataW.trod_struct Try.underlying27 hf
    have hxs : xs.length = 6 := hxl
    have get : ∀ (i : Nat) (c : Value) (t : TypeId) (hi : i < 6), Try.prog.cellsOf t = 1 → (([c0, c1, c2, c3, c4, c5].drop i).take 1 = [c]) → DataW.trod enc Try.prog w base spare held m t (([c0, c1, c2, c3, c4, c5].drop i).take (Try.prog.cellsOf t)) = xs[i]? → ∃ y, DataW.trod enc Try.prog w base spare held m t [c] = some y := fun i c t hi h1 hc ht => by
      rw [h1, hc, List.getElem?_eq_getElem (by omega)] at ht
      exact ⟨_, ht⟩
    obtain ⟨_, g0⟩ := get 0 c0 22 (by omega) (by kernel_rfl) rfl (hf 0 _ rfl)
    obtain ⟨_, g1⟩ := get 1 c1 23 (by omega) (by kernel_rfl) rfl (hf 1 _ rfl)
    obtain ⟨_, g2⟩ := get 2 c2 24 (by omega) (by kernel_rfl) rfl (hf 2 _ rfl)
    obtain ⟨_, g3⟩ := get 3 c3 24 (by omega) (by kernel_rfl) rfl (hf 3 _ rfl)
    obtain ⟨_, g4⟩ := get 4 c4 25 (by omega) (by kernel_rfl) rfl (hf 4 _ rfl)
    obtain ⟨_, g5⟩ := get 5 c5 25 (by omega) (by kernel_rfl) rfl (hf 5 _ rfl)
    obtain ⟨q, hq⟩ := read_row _ _ _ g0
    obtain ⟨hs, hhs⟩ := read_heads _ _ _ g1
    obtain ⟨pk, hpk⟩ := read_rows3 _ _ _ g2
    obtain ⟨pv, hpv⟩ := read_rows3 _ _ _ g3
    obtain ⟨ks, hks, hkn⟩ := read_rows _ _ _ g4
    obtain ⟨vs, hvs, hvn⟩ := read_rows _ _ _ g5
    exact ⟨c0, c1, c2, c3, c4, c5, ⟨q, hs, pk, pv, ks, vs⟩, rfl, ⟨hq, hhs, hpk, hpv, hks, hvs⟩, hkn, hvn⟩
end
end Go.Proofs.Ytkepgkjbhdgbiaa

namespace Go.Proofs.Ytkepgkjbhdgbiaa.attnFused
open Go.ChangeShapes Go.WideShapes Go.ChangeAt Go.RowKit

theorem own : ownKnob Try.prog.godebug = none := by kernel_rfl
theorem laidOut : laidOutB Try.prog = true := by kernel_rfl

theorem walk {w : World} {qv hv pkv pvv kv vv : Value} {z : Cs} (h : CsV w qv hv pkv pvv kv vv z) (hkn : ∀ A n c, kv = .slice A n c → A = none → n = 0 ∧ c = 0) (hvn : ∀ A n c, vv = .slice A n c → A = none → n = 0 ∧ c = 0) :
    Calls Try.prog 3 #[.agg #[qv, hv, pkv, pvv, kv, vv]] w (fun e w' => e = .returned (.bool true) ∧ Below w.heap.size w w') := by
  cases hon : z.on with
  | false => exact law_off h hon
  | true => exact law_on h hkn hvn hon

set_option maxRecDepth 100000 in
theorem lifted (os : Os) (started : os.Started) (H : Type) (enc : TypeId × Value → H) :
    ReturnsInHanded {} Try.checked os 3 .any (Rows.attnFusedSpec.pre6 enc Try.prog Try.f3 Rows.attnFusedRow.domain false) (Rows.attnFusedSpec.post enc Try.prog Try.f3 false true false false) := by
  refine returnsInHanded_of_change (C := Try.checked) own started (by kernel_rfl) Try.func3
    (ChangeSpec.witness6 (enc := enc) (C := Try.checked) false ⟨#[], #[.agg #[.slice none 0 0, .slice none 0 0, .slice none 0 0, .slice none 0 0, .slice none 0 0, .slice none 0 0]], []⟩ 8 (by kernel_rfl) (by kernel_rfl) (by kernel_rfl) (by kernel_rfl)) ?_
  intro W base args ds gs before hval0 hW hcnd _
  have hval : ∀ (j : Nat) t v, Try.f3.params[j]? = some t → args[j]? = some v → Value.okWide Try.prog W .any base t v := hval0
  have hW' := hW
  obtain ⟨p, q, hA0, hV, rfl, hfz, hnd⟩ := hW
  have hA : DataW.TrodAll enc Try.prog W 0 (fun _ => true) true Try.f3.params.toList args.toList ds p := hA0
  rw [Try.params3] at hA hval
  obtain ⟨v0, vs0, d0, ds0, p0, q0, hargs, rfl, rfl, h0, r0⟩ := trodAll_cons hA
  obtain ⟨rfl, rfl, rfl⟩ := trodAll_nil r0
  obtain rfl : args = #[v0] := by cases args; simp_all
  obtain ⟨rfl, rfl⟩ := trodVars_none hV
  have k0 := h0
  have lt0 : ∀ x ∈ p0, x.block < W.heap.size := by obtain ⟨m, hm⟩ := k0; exact DataW.trod_lt m _ _ _ hm
  obtain ⟨qv, hv, pkv, pvv, kv, vv, z, rfl, hz, hkn, hvn⟩ := read_case (hval 0 27 v0 rfl rfl) h0
  clear hA0 hval0
  refine (walk hz hkn hvn).mono fun e W' ⟨he, bel⟩ => ?_
  subst he
  exact ⟨_, rfl, _, _, _, [], _, [], hW', trodAll_mk1 (shut_bool Try.underlying4 _), (trodAll_cons_mk (Below.trod laidOut (by kernel_rfl) (of_decide_eq_true (by kernel_rfl)) k0 bel lt0) trodAll_mk0), rfl, bel.frame _, fun h => by cases h⟩

theorem over : Rows.attnFusedRow.holds Try.pinned (OpenSpec.ofChange Rows.attnFusedSpec) :=
  OpenClaim.holds_of_wide 3 Try.f3 rfl rfl rfl rfl rfl rfl rfl ⟨rfl, rfl, rfl, rfl, rfl⟩ rfl rfl rfl rfl rfl (by kernel_rfl) Try.func3 (by kernel_rfl)
    (of_decide_eq_true (by kernel_rfl)) (by unfold Func.isWrapper; first | (rw [if_pos (by decide +kernel)]; kernel_rfl) | (rw [if_neg (by decide +kernel)]; exact ⟨rfl, rfl⟩))
    (fun os started H enc _ => lifted os started H enc)

end Go.Proofs.Ytkepgkjbhdgbiaa.attnFused
namespace Go.Proofs.Ytkepgkjbhdgbiaa
theorem attnFused_proved : Rows.AttnFusedSaid := attnFused.over
end Go.Proofs.Ytkepgkjbhdgbiaa
#print axioms Go.Proofs.Ytkepgkjbhdgbiaa.attnFused_proved
