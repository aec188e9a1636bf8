/- Contracts of functions of the program, and what they need (LPages). -/
import Derived.Test.YtkepgkjbhdgbiaaZ17
import Derived.Test.YtkepgkjbhdgbiaaZ20

namespace Go.Proofs.Ytkepgkjbhdgbiaa
open Go.RowKit

/-- A head in memory. -/
def HdR (get : Nat → Option Value) (h : Hd) : Prop := get 0 = some (.int .i64 h.kb) ∧ get 1 = some (.int .i64 h.vb) ∧ get 2 = some (.int .i64 h.tokens) ∧ get 3 = some (.int .i64 h.dim) ∧ get 4 = some (.int .i64 h.layer) ∧ get 5 = some (.int .i64 h.head) ∧ get 6 = some (.int .i64 h.index)
/-- A slice whose elements take several cells, wherever it begins. -/
def SlO {α : Type} (w : World) (size : Nat) (R : (Nat → Option Value) → α → Prop) (v : Value) (l : List α) : Prop :=
  ∃ A c, v = .slice A l.length c ∧ l.length ≤ c ∧ c ≤ maxLen ∧ ∀ j x, l[j]? = some x → ∃ g off, A = some ⟨g, off, none⟩ ∧ g < w.heap.size ∧ R (fun i => w.cell? ⟨g, off + j * size + i, none⟩) x
theorem SlO.form {α : Type} {w : World} {size : Nat} {R : (Nat → Option Value) → α → Prop} {v : Value} {l : List α} (h : SlO w size R v l) : ∃ A c, v = .slice A l.length c ∧ l.length ≤ c ∧ c ≤ 9223372036854775807 := by
  obtain ⟨A, c, hv, h1, h2, _⟩ := h
  exact ⟨A, c, hv, h1, h2⟩
theorem SlO.at_ {α : Type} {w : World} {size : Nat} {R : (Nat → Option Value) → α → Prop} {v : Value} {l : List α} (h : SlO w size R v l) {A : Option Addr} {n c : Nat} (hv : v = .slice A n c) {k : Nat} (hk : k < l.length) :
    ∃ g off, A = some ⟨g, off, none⟩ ∧ g < w.heap.size ∧ R (fun i => w.cell? ⟨g, off + k * size + i, none⟩) l[k] := by
  obtain ⟨A', c', hv', _, _, h⟩ := h
  rw [hv'] at hv
  injection hv with h1 h2 h3
  subst h1
  exact h k _ (List.getElem?_eq_getElem hk)
theorem SlO.below {α : Type} {w w' : World} {size : Nat} {R : (Nat → Option Value) → α → Prop} {v : Value} {l : List α} (h : SlO w size R v l) (hb : Below w.heap.size w w') : SlO w' size R v l := by
  obtain ⟨A, c, hv, h1, h2, h⟩ := h
  refine ⟨A, c, hv, h1, h2, fun j x hj => ?_⟩
  obtain ⟨g, off, hA, hl, hr⟩ := h j x hj
  refine ⟨g, off, hA, Nat.lt_of_lt_of_le hl hb.size, ?_⟩
  have e : (fun i => w'.cell? ⟨g, off + j * size + i, none⟩) = fun i => w.cell? ⟨g, off + j * size + i, none⟩ := funext fun i => World.cell?_of_block (hb.block g hl)
  rw [e]
  exact hr
/-- A case: six cells. -/
structure Cs where
  q : List Int
  heads : List Hd
  pk : List (List (List Int))
  pv : List (List (List Int))
  ks : List (List Int)
  vs : List (List Int)
def hd0 : Hd := ⟨0, 0, 0, 0, 0, 0, 0⟩
def Cs.okAt (z : Cs) (i : Nat) : Bool := qokB (z.heads.getD i hd0) (z.pk.getD i []) (z.pv.getD i [])
def Cs.pgAt (z : Cs) (i : Nat) : Pg := quantP (z.heads.getD i hd0) (z.pk.getD i []) (z.pv.getD i [])
def Cs.pgs (z : Cs) (n : Nat) : List Pg := (List.range n).map z.pgAt
def Cs.okB (z : Cs) : Bool := decide (z.pk.length = z.heads.length) && decide (z.pv.length = z.heads.length) && decide (z.heads.length ≤ 20) && (List.range z.heads.length).all z.okAt
/-- The case's slices read. -/
structure CsV (w : World) (qv hv pkv pvv kv vv : Value) (z : Cs) : Prop where
  q : Sl (fun _ => True) w (IntV .i32) qv z.q
  heads : SlO w 7 HdR hv z.heads
  pk : Rows3 (fun _ => True) w pkv z.pk
  pv : Rows3 (fun _ => True) w pvv z.pv
  ks : Rows (fun _ => True) w kv z.ks
  vs : Rows (fun _ => True) w vv z.vs
theorem CsV.below {w w' : World} {qv hv pkv pvv kv vv : Value} {z : Cs} (h : CsV w qv hv pkv pvv kv vv z) (hb : Below w.heap.size w w') : CsV w' qv hv pkv pvv kv vv z :=
  ⟨h.q.below hb, h.heads.below hb, h.pk.below hb, h.pv.below hb, h.ks.below hb, h.vs.below hb⟩

theorem PageAt.grow {w w1 : World} {B : Nat} {X X' : List (Option Nat)} {row : Option Nat} {g : Nat} {p : Pg} (h : PageAt (Fx B X) w g p) (hg : w.grownBy w1 row) (hrow : row = none ∨ row ∈ X) (hX : ∀ o ∈ X', o ∈ X ∨ ∃ b, o = some b ∧ w.heap.size ≤ b) : PageAt (Fx B X') w1 g p :=
  h.keep (fx_keep hg hrow) (fx_turn hX) hg.size

theorem info_ptr : (Try.prog.info? 33).map (fun i => (i.zero, i.size, i.bytes)) = some (some (.pointer none), 1, 8) := by kernel_rfl

/-- It returns the pages, or none. -/
def RetPgs (w : World) (z : Cs) (e : Ending) (w' : World) : Prop :=
  Below w.heap.size w w' ∧ ((z.okB = true ∧ ∃ pv pg, e = .returned (.tuple #[pv, .bool true]) ∧ pg.map (·.2) = z.pgs z.heads.length ∧ Sl (fun _ => True) w' (PgV (fun _ => True) w') pv pg) ∨ (z.okB = false ∧ e = .returned (.tuple #[.slice none 0 0, .bool false])))

set_option maxRecDepth 100000 in
set_option maxHeartbeats 4000000 in
theorem law_pages {w : World} {qv hv pkv pvv kv vv : Value} {z : Cs} (h : CsV w qv hv pkv pvv kv vv z) : Calls Try.prog 4 #[.agg #[qv, hv, pkv, pvv, kv, vv]] w (RetPgs w z) := by
  obtain ⟨A0, c0, rfl, _, _⟩ := h.q.form
  obtain ⟨A1, c1, rfl, _, _⟩ := h.heads.form
  obtain ⟨A2, c2, rfl, _, _⟩ := Sl.form h.pk
  obtain ⟨A3, c3, rfl, _, _⟩ := Sl.form h.pv
  obtain ⟨A4, c4, rfl, _, _⟩ := Sl.form h.ks
  obtain ⟨A5, c5, rfl, _, _⟩ := Sl.form h.vs
  have hB1 : ∀ o, Below w.heap.size w (w.alloc o) := fun o => (Below.refl _ _).alloc (Nat.le_refl _) _
  by_cases a1 : z.pk.length = z.heads.length
  · have s1 : ((z.pk.length : Int) != (z.heads.length : Int)) = false := by simp; omega
    by_cases a2 : z.pv.length = z.heads.length
    · have s2 : ((z.pv.length : Int) != (z.heads.length : Int)) = false := by simp; omega
      by_cases a3 : z.heads.length ≤ 20
      · have Q1 := Lib.hid a1
        have Q2 := Lib.hid a2
        have hok : z.okB = (List.range z.heads.length).all z.okAt := by unfold Cs.okB; rw [decide_eq_true a1, decide_eq_true a2, decide_eq_true a3]; simp
        have HOK := Lib.hid hok
        clear a1 a2 hok
        go_enter Try.func4, Try.ntmps4
        go_wp2
        go_loopg [4, 34] z.heads.length (fun g v4 v34 wr => ∃ (k : Nat) (pg : List (Nat × Pg)), k ≤ z.heads.length ∧ v34 = .int .i64 k ∧ g = z.heads.length - k ∧
          wr.heap[w.heap.size]? = some (.cells #[.slice A0 z.q.length c0, .slice A1 z.heads.length c1, .slice A2 z.pk.length c2, .slice A3 z.pv.length c3, .slice A4 z.ks.length c4, .slice A5 z.vs.length c5] 27 (0, 0)) ∧
          (∀ i, i < k → z.okAt i = true) ∧ pg.map (·.2) = z.pgs k ∧ OwnL wr (w.heap.size + 1) 33 (PgV (Fx (w.heap.size + 1) [v4.ownBlock]) wr) v4 pg ∧ Below w.heap.size w wr)
        case atStart => exact ⟨0, [], Nat.zero_le _, rfl, by omega, blk_new rfl, fun i hi => by omega, rfl, OwnL.nil, hB1 _⟩
        case round =>
          obtain ⟨k, pg, hk, rfl, hg, hk0, hoks, hpgs, HN, HB⟩ := hrel
          have HG := Lib.hid hg
          have HKS := Lib.hid hoks
          have HPG := Lib.hid hpgs
          clear hg hoks hpgs
          have hsz := (cells_of hk0).2.2
          by_cases hlt : k < z.heads.length
          · obtain ⟨gb, off, rfl, hgl, g0, g1, g2, g3, g4, g5, g6⟩ := h.heads.at_ rfl hlt
            have hl2 : k < z.pk.length := by have := Q1.out; omega
            have hl3 : k < z.pv.length := by have := Q2.out; omega
            obtain ⟨ad2, A6, c6, rfl, hu2, hr2, _, _⟩ := h.pk.row hl2
            obtain ⟨ad3, A7, c7, rfl, hu3, hr3, _, _⟩ := h.pv.row hl3
            have hok0 : z.okAt k = qokB z.heads[k] z.pk[k] z.pv[k] := by unfold Cs.okAt; simp [hlt, hl2, hl3]
            have hpg0 : z.pgAt k = quantP z.heads[k] z.pk[k] z.pv[k] := by unfold Cs.pgAt; simp [hlt, hl2, hl3]
            generalize z.heads[k] = hx at *
            generalize z.pk[k] = ks at *
            generalize z.pv[k] = vs at *
            have d0 := cell_below HB g0
            have d1 := cell_below HB g1
            have d2 := cell_below HB g2
            have d3 := cell_below HB g3
            have d4 := cell_below HB g4
            have d5 := cell_below HB g5
            have d6 := cell_below HB g6
            have du2 := cell_below HB hu2
            have du3 := cell_below HB hu3
            have hq2 : (ad2.add k).block < wr.heap.size := World.block_lt_of_cell? wr _ du2
            have hq3 : (ad3.add k).block < wr.heap.size := World.block_lt_of_cell? wr _ du3
            rw [Nat.add_zero] at d0
            have e02 := (cells_of hk0).1 2
            have e03 := (cells_of hk0).1 3
            have e01 := (cells_of hk0).1 1
            simp only [List.getElem?_toArray, List.getElem?_cons_succ, List.getElem?_cons_zero] at e01 e02 e03
            have hgb : gb < wr.heap.size := Nat.lt_of_lt_of_le hgl HB.size
            have hqe : ∀ W, Below wr.heap.size wr W → qokB hx ks vs = false → Calls Try.prog 16 #[.agg (hdCells hx), .slice A6 ks.length c6, .slice A7 vs.length c7] W (RetNoPg W) := fun W hW hf => page_Quantize_err hx ((hr2.below HB).below hW) ((hr3.below HB).below hW) hf
            have hqo : ∀ W, Below wr.heap.size wr W → qokB hx ks vs = true → Calls Try.prog 16 #[.agg (hdCells hx), .slice A6 ks.length c6, .slice A7 vs.length c7] W (RetPg W (quantP hx ks vs)) := fun W hW hf => by
              have hf' := hf
              unfold qokB at hf
              rw [Bool.and_eq_true, Bool.and_eq_true] at hf
              obtain ⟨⟨f1, f2⟩, f3⟩ := hf
              have ho := (hdB_iff hx).1 f1
              obtain ⟨kb, vb, tk, dm, ly, hd, ix⟩ := hx
              obtain ⟨b1, b2, ⟨t1, t2⟩, ⟨m1, m2⟩, _⟩ := id ho
              dsimp only at b1 b2 t1 t2 m1 m2 f2 f3
              obtain ⟨kb, rfl⟩ := Int.eq_ofNat_of_zero_le (show 0 ≤ kb by omega)
              obtain ⟨vb, rfl⟩ := Int.eq_ofNat_of_zero_le (show 0 ≤ vb by omega)
              obtain ⟨tk, rfl⟩ := Int.eq_ofNat_of_zero_le (show 0 ≤ tk by omega)
              obtain ⟨dm, rfl⟩ := Int.eq_ofNat_of_zero_le (show 0 ≤ dm by omega)
              exact page_Quantize kb vb tk dm ly hd ix ((hr2.below HB).below hW) ((hr3.below HB).below hW) ho (by simpa using f2) (by simpa using f3)
            unfold hdCells at hqe hqo
            obtain ⟨kb, vb, tk, dm, ly, hd, ix⟩ := hx
            dsimp only at *
            have HQE := Lib.hid hqe
            have HQO := Lib.hid hqo
            have HO0 := Lib.hid hok0
            have HP0 := Lib.hid hpg0
            clear g0 g1 g2 g3 g4 g5 g6 hu2 hu3 hr2 hr3 hok0 hpg0 hqe hqo
            go_upto_region 7 with fail
            have hB7 : Below w.heap.size w (wr.alloc (.cells #[.int .i64 kb, .int .i64 vb, .int .i64 tk, .int .i64 dm, .int .i64 ly, .int .i64 hd, .int .i64 ix] 41)) := HB.alloc HB.size _
            have hal : Below wr.heap.size wr (wr.alloc (.cells #[.int .i64 kb, .int .i64 vb, .int .i64 tk, .int .i64 dm, .int .i64 ly, .int .i64 hd, .int .i64 ix] 41)) := (Below.refl _ _).alloc (Nat.le_refl _) _
            have hSall : ∀ W, Below (wr.alloc (.cells #[.int .i64 kb, .int .i64 vb, .int .i64 tk, .int .i64 dm, .int .i64 ly, .int .i64 hd, .int .i64 ix] 41)).heap.size (wr.alloc (.cells #[.int .i64 kb, .int .i64 vb, .int .i64 tk, .int .i64 dm, .int .i64 ly, .int .i64 hd, .int .i64 ix] 41)) W → (fun W : World => W.cell? ⟨w.heap.size, 2, none⟩ = some (.slice (some ad2) z.pk.length c2) ∧ W.cell? ⟨w.heap.size, 3, none⟩ = some (.slice (some ad3) z.pv.length c3) ∧ W.cell? (ad2.add k) = some (.slice A6 ks.length c6) ∧ W.cell? (ad3.add k) = some (.slice A7 vs.length c7) ∧ W.cell? ⟨wr.heap.size, 0, none⟩ = some (.int .i64 kb) ∧ W.cell? ⟨wr.heap.size, 1, none⟩ = some (.int .i64 vb) ∧ W.cell? ⟨wr.heap.size, 2, none⟩ = some (.int .i64 tk) ∧ W.cell? ⟨wr.heap.size, 3, none⟩ = some (.int .i64 dm) ∧ W.cell? ⟨wr.heap.size, 4, none⟩ = some (.int .i64 ly) ∧ W.cell? ⟨wr.heap.size, 5, none⟩ = some (.int .i64 hd) ∧ W.cell? ⟨wr.heap.size, 6, none⟩ = some (.int .i64 ix)) W :=
              fun W hW => ⟨cell_below hW (cell_below hal e02), cell_below hW (cell_below hal e03), cell_below hW (cell_below hal du2), cell_below hW (cell_below hal du3), cell_below hW (by simp), cell_below hW (by simp), cell_below hW (by simp), cell_below hW (by simp), cell_below hW (by simp), cell_below hW (by simp), cell_below hW (by simp)⟩
            clear d0 d1 d2 d3 d4 d5 d6 e01 e02 e03 du2 du3 hq2 hq3
            cases hqk : qokB ⟨kb, vb, tk, dm, ly, hd, ix⟩ ks vs with
            | false =>
              refine AnyX.begin (z := 16) (S := (fun W : World => W.cell? ⟨w.heap.size, 2, none⟩ = some (.slice (some ad2) z.pk.length c2) ∧ W.cell? ⟨w.heap.size, 3, none⟩ = some (.slice (some ad3) z.pv.length c3) ∧ W.cell? (ad2.add k) = some (.slice A6 ks.length c6) ∧ W.cell? (ad3.add k) = some (.slice A7 vs.length c7) ∧ W.cell? ⟨wr.heap.size, 0, none⟩ = some (.int .i64 kb) ∧ W.cell? ⟨wr.heap.size, 1, none⟩ = some (.int .i64 vb) ∧ W.cell? ⟨wr.heap.size, 2, none⟩ = some (.int .i64 tk) ∧ W.cell? ⟨wr.heap.size, 3, none⟩ = some (.int .i64 dm) ∧ W.cell? ⟨wr.heap.size, 4, none⟩ = some (.int .i64 ly) ∧ W.cell? ⟨wr.heap.size, 5, none⟩ = some (.int .i64 hd) ∧ W.cell? ⟨wr.heap.size, 6, none⟩ = some (.int .i64 ix))) (by kernel_rfl) ?_
              have hS0 := hSall { (wr.alloc (.cells #[.int .i64 kb, .int .i64 vb, .int .i64 tk, .int .i64 dm, .int .i64 ly, .int .i64 hd, .int .i64 ix] 41)) with drawn := (wr.alloc (.cells #[.int .i64 kb, .int .i64 vb, .int .i64 tk, .int .i64 dm, .int .i64 ly, .int .i64 hd, .int .i64 ix] 41)).drawn + 1 } (Below.drew (Below.refl _ _))
              (refine AnyX.take' (i := 0) (v := ?v0a) (some 40) rfl rfl (by kernel_rfl) (by kernel_rfl) (by kernel_rfl) (by kernel_rfl) (waits (k := 0) (r := []) (by kernel_rfl) rfl rfl) (fun _ _ _ h => h) (Or.inl ⟨by rfl, ?hy0a⟩) hS0 ?rest0a; (case hy0a => (intro w hSw; (try dsimp only at hSw); go_simp; try with_reducible rfl)); simp only [Act.put, List.setIfInBounds_toArray, List.set_cons_zero, List.set_cons_succ])
              (refine AnyX.take' (i := 1) (v := ?v1a) (some 41) rfl rfl (by kernel_rfl) (by kernel_rfl) (by kernel_rfl) (by kernel_rfl) (waits (k := 1) (r := []) (by kernel_rfl) rfl rfl) (fun _ _ _ h => h) (Or.inl ⟨by rfl, ?hy1a⟩) hS0 ?rest1a; (case hy1a => (intro w hSw; (try dsimp only at hSw); go_simp; try with_reducible rfl)); simp only [Act.put, List.setIfInBounds_toArray, List.set_cons_zero, List.set_cons_succ])
              (refine AnyX.take' (i := 2) (v := ?v2a) (some 42) rfl rfl (by kernel_rfl) (by kernel_rfl) (by kernel_rfl) (by kernel_rfl) (waits (k := 2) (r := []) (by kernel_rfl) rfl rfl) (fun _ _ _ h => h) (Or.inl ⟨by rfl, ?hy2a⟩) hS0 ?rest2a; (case hy2a => (intro w hSw; (try dsimp only at hSw); go_simp; try with_reducible rfl)); simp only [Act.put, List.setIfInBounds_toArray, List.set_cons_zero, List.set_cons_succ])
              (refine AnyX.take' (i := 3) (v := ?v3a) (some 43) rfl rfl (by kernel_rfl) (by kernel_rfl) (by kernel_rfl) (by kernel_rfl) (waits (k := 3) (r := []) (by kernel_rfl) rfl rfl) (fun _ _ _ h => h) (Or.inl ⟨by rfl, ?hy3a⟩) hS0 ?rest3a; (case hy3a => (intro w hSw; (try dsimp only at hSw); go_simp; try with_reducible rfl)); simp only [Act.put, List.setIfInBounds_toArray, List.set_cons_zero, List.set_cons_succ])
              (refine AnyX.take' (i := 4) (v := ?v4a) (some 44) rfl rfl (by kernel_rfl) (by kernel_rfl) (by kernel_rfl) (by kernel_rfl) (waits (k := 4) (r := []) (by kernel_rfl) rfl rfl) (fun _ _ _ h => h) (Or.inl ⟨by rfl, ?hy4a⟩) hS0 ?rest4a; (case hy4a => (intro w hSw; (try dsimp only at hSw); go_simp; try with_reducible rfl)); simp only [Act.put, List.setIfInBounds_toArray, List.set_cons_zero, List.set_cons_succ])
              (refine AnyX.take' (i := 5) (v := ?v5a) (some 45) rfl rfl (by kernel_rfl) (by kernel_rfl) (by kernel_rfl) (by kernel_rfl) (waits (k := 5) (r := []) (by kernel_rfl) rfl rfl) (fun _ _ _ h => h) (Or.inl ⟨by rfl, ?hy5a⟩) hS0 ?rest5a; (case hy5a => (intro w hSw; (try dsimp only at hSw); go_simp; try with_reducible rfl)); simp only [Act.put, List.setIfInBounds_toArray, List.set_cons_zero, List.set_cons_succ])
              (refine AnyX.take' (i := 6) (v := ?v6a) (some 46) rfl rfl (by kernel_rfl) (by kernel_rfl) (by kernel_rfl) (by kernel_rfl) (waits (k := 6) (r := []) (by kernel_rfl) rfl rfl) (fun _ _ _ h => h) (Or.inl ⟨by rfl, ?hy6a⟩) hS0 ?rest6a; (case hy6a => (intro w hSw; (try dsimp only at hSw); go_simp; try with_reducible rfl)); simp only [Act.put, List.setIfInBounds_toArray, List.set_cons_zero, List.set_cons_succ])
              (refine AnyX.take' (i := 7) (v := ?v7a) (some 47) rfl rfl (by kernel_rfl) (by kernel_rfl) (by kernel_rfl) (by kernel_rfl) (waits (k := 7) (r := []) (by kernel_rfl) rfl rfl) (fun _ _ _ h => h) (Or.inl ⟨by rfl, ?hy7a⟩) hS0 ?rest7a; (case hy7a => (intro w hSw; (try dsimp only at hSw); go_simp; try with_reducible rfl)); simp only [Act.put, List.setIfInBounds_toArray, List.set_cons_zero, List.set_cons_succ])
              (refine AnyX.take' (i := 8) (v := ?v8a) (some 48) rfl rfl (by kernel_rfl) (by kernel_rfl) (by kernel_rfl) (by kernel_rfl) (waits (k := 8) (r := []) (by kernel_rfl) rfl rfl) (fun _ _ _ h => h) (Or.inl ⟨by rfl, ?hy8a⟩) hS0 ?rest8a; (case hy8a => (intro w hSw; (try dsimp only at hSw); go_simp; try with_reducible rfl)); simp only [Act.put, List.setIfInBounds_toArray, List.set_cons_zero, List.set_cons_succ])
              (refine AnyX.take' (i := 9) (v := ?v9a) (some 49) rfl rfl (by kernel_rfl) (by kernel_rfl) (by kernel_rfl) (by kernel_rfl) (waits (k := 9) (r := []) (by kernel_rfl) rfl rfl) (fun _ _ _ h => h) (Or.inl ⟨by rfl, ?hy9a⟩) hS0 ?rest9a; (case hy9a => (intro w hSw; (try dsimp only at hSw); go_simp; try with_reducible rfl)); simp only [Act.put, List.setIfInBounds_toArray, List.set_cons_zero, List.set_cons_succ])
              (refine AnyX.take' (i := 10) (v := ?v10a) (some 50) rfl rfl (by kernel_rfl) (by kernel_rfl) (by kernel_rfl) (by kernel_rfl) (waits (k := 10) (r := []) (by kernel_rfl) rfl rfl) (fun _ _ _ h => h) (Or.inl ⟨by rfl, ?hy10a⟩) hS0 ?rest10a; (case hy10a => (intro w hSw; (try dsimp only at hSw); go_simp; try with_reducible rfl)); simp only [Act.put, List.setIfInBounds_toArray, List.set_cons_zero, List.set_cons_succ])
              refine AnyX.one (i := 11) (by kernel_rfl) rfl (fun K' hK => ?_)
              refine step_callG (R := fun v w' => ∃ n : Int, n ≠ 0 ∧ v = .tuple #[.pointer none, .int .i64 n] ∧ Below (wr.alloc (.cells #[.int .i64 kb, .int .i64 vb, .int .i64 tk, .int .i64 dm, .int .i64 ly, .int .i64 hd, .int .i64 ix] 41)).heap.size (wr.alloc (.cells #[.int .i64 kb, .int .i64 vb, .int .i64 tk, .int .i64 dm, .int .i64 ly, .int .i64 hd, .int .i64 ix] 41)) w') 16 #[.tmp 40, .tmp 45, .tmp 50] #[41, 25, 25] #[.agg #[.int .i64 kb, .int .i64 vb, .int .i64 tk, .int .i64 dm, .int .i64 ly, .int .i64 hd, .int .i64 ix], .slice A6 ks.length c6, .slice A7 vs.length c7] rfl rfl rfl (by kernel_rfl) ((HQE.out _ (Below.drew ((Below.refl _ _).alloc (Nat.le_refl _) _)) hqk).mono fun e w' h => by obtain ⟨hb, n, hn, _, he⟩ := h; exact ⟨_, he, n, hn, rfl, (Below.drew (Below.refl _ _)).trans (hb.mono (Nat.le_refl _))⟩) ?_
              rintro v5 w5 ⟨n, hn, rfl, hb5⟩
              refine hK _ _ (.inr (hSall _ hb5)) ?_
              simp only [Act.put, List.setIfInBounds_toArray, List.set_cons_zero, List.set_cons_succ]
              have hS1 := hSall _ hb5
              (refine AnyX.take' (i := 12) (v := ?v12a) (some 39) rfl rfl (by kernel_rfl) (by kernel_rfl) (by kernel_rfl) (by kernel_rfl) (waits (k := 12) (r := []) (by kernel_rfl) rfl rfl) (fun _ _ _ h => h) (Or.inl ⟨by rfl, ?hy12a⟩) hS1 ?rest12a; (case hy12a => (intro w hSw; (try dsimp only at hSw); go_simp; try with_reducible rfl)); simp only [Act.put, List.setIfInBounds_toArray, List.set_cons_zero, List.set_cons_succ])
              (refine AnyX.take' (i := 13) (v := ?v13a) (some 52) rfl rfl (by kernel_rfl) (by kernel_rfl) (by kernel_rfl) (by kernel_rfl) (waits (k := 13) (r := []) (by kernel_rfl) rfl rfl) (fun _ _ _ h => h) (Or.inl ⟨by rfl, ?hy13a⟩) hS1 ?rest13a; (case hy13a => (intro w hSw; (try dsimp only at hSw); go_simp; try with_reducible rfl)); simp only [Act.put, List.setIfInBounds_toArray, List.set_cons_zero, List.set_cons_succ])
              (refine AnyX.take' (i := 14) (v := ?v14a) (some 53) rfl rfl (by kernel_rfl) (by kernel_rfl) (by kernel_rfl) (by kernel_rfl) (waits (k := 14) (r := []) (by kernel_rfl) rfl rfl) (fun _ _ _ h => h) (Or.inl ⟨by rfl, ?hy14a⟩) hS1 ?rest14a; (case hy14a => (intro w hSw; (try dsimp only at hSw); go_simp; try with_reducible rfl)); simp only [Act.put, List.setIfInBounds_toArray, List.set_cons_zero, List.set_cons_succ])
              (refine AnyX.take' (i := 15) (v := ?v15a) (some 7) rfl rfl (by kernel_rfl) (by kernel_rfl) (by kernel_rfl) (by kernel_rfl) (waits (k := 15) (r := []) (by kernel_rfl) rfl rfl) (fun _ _ _ h => h) (Or.inl ⟨by rfl, ?hy15a⟩) hS1 ?rest15a; (case hy15a => (intro w hSw; (try dsimp only at hSw); go_simp; try with_reducible rfl)); simp only [Act.put, List.setIfInBounds_toArray, List.set_cons_zero, List.set_cons_succ])
              (refine AnyX.last (i := 16) (fuel := 0) (o := ?ooa) ?gaa ?gba ?gca rfl ?gda; (case gba => rfl); (case gaa => kernel_rfl); (case gca => kernel_rfl); intro K' hK; go_simp; refine hK _ _ ?_)
              have hn' : (n != 0) = true := by simpa using hn
              have hf : z.okB = false := by
                rw [HOK.out, List.all_eq_false]
                exact ⟨k, List.mem_range.2 hlt, by rw [HO0.out, hqk]; simp⟩
              have HF := Lib.hid hf
              have HQK := Lib.hid hqk
              clear hn hf hqk
              go_wp2
              go_ret2
              exact ⟨(hB7.trans (hb5.mono (by simp; omega))), .inr ⟨HF.out, rfl⟩⟩
            | true =>
              refine AnyX.begin (z := 16) (S := (fun W : World => W.cell? ⟨w.heap.size, 2, none⟩ = some (.slice (some ad2) z.pk.length c2) ∧ W.cell? ⟨w.heap.size, 3, none⟩ = some (.slice (some ad3) z.pv.length c3) ∧ W.cell? (ad2.add k) = some (.slice A6 ks.length c6) ∧ W.cell? (ad3.add k) = some (.slice A7 vs.length c7) ∧ W.cell? ⟨wr.heap.size, 0, none⟩ = some (.int .i64 kb) ∧ W.cell? ⟨wr.heap.size, 1, none⟩ = some (.int .i64 vb) ∧ W.cell? ⟨wr.heap.size, 2, none⟩ = some (.int .i64 tk) ∧ W.cell? ⟨wr.heap.size, 3, none⟩ = some (.int .i64 dm) ∧ W.cell? ⟨wr.heap.size, 4, none⟩ = some (.int .i64 ly) ∧ W.cell? ⟨wr.heap.size, 5, none⟩ = some (.int .i64 hd) ∧ W.cell? ⟨wr.heap.size, 6, none⟩ = some (.int .i64 ix))) (by kernel_rfl) ?_
              have hS0 := hSall { (wr.alloc (.cells #[.int .i64 kb, .int .i64 vb, .int .i64 tk, .int .i64 dm, .int .i64 ly, .int .i64 hd, .int .i64 ix] 41)) with drawn := (wr.alloc (.cells #[.int .i64 kb, .int .i64 vb, .int .i64 tk, .int .i64 dm, .int .i64 ly, .int .i64 hd, .int .i64 ix] 41)).drawn + 1 } (Below.drew (Below.refl _ _))
              (refine AnyX.take' (i := 0) (v := ?v0b) (some 40) rfl rfl (by kernel_rfl) (by kernel_rfl) (by kernel_rfl) (by kernel_rfl) (waits (k := 0) (r := []) (by kernel_rfl) rfl rfl) (fun _ _ _ h => h) (Or.inl ⟨by rfl, ?hy0b⟩) hS0 ?rest0b; (case hy0b => (intro w hSw; (try dsimp only at hSw); go_simp; try with_reducible rfl)); simp only [Act.put, List.setIfInBounds_toArray, List.set_cons_zero, List.set_cons_succ])
              (refine AnyX.take' (i := 1) (v := ?v1b) (some 41) rfl rfl (by kernel_rfl) (by kernel_rfl) (by kernel_rfl) (by kernel_rfl) (waits (k := 1) (r := []) (by kernel_rfl) rfl rfl) (fun _ _ _ h => h) (Or.inl ⟨by rfl, ?hy1b⟩) hS0 ?rest1b; (case hy1b => (intro w hSw; (try dsimp only at hSw); go_simp; try with_reducible rfl)); simp only [Act.put, List.setIfInBounds_toArray, List.set_cons_zero, List.set_cons_succ])
              (refine AnyX.take' (i := 2) (v := ?v2b) (some 42) rfl rfl (by kernel_rfl) (by kernel_rfl) (by kernel_rfl) (by kernel_rfl) (waits (k := 2) (r := []) (by kernel_rfl) rfl rfl) (fun _ _ _ h => h) (Or.inl ⟨by rfl, ?hy2b⟩) hS0 ?rest2b; (case hy2b => (intro w hSw; (try dsimp only at hSw); go_simp; try with_reducible rfl)); simp only [Act.put, List.setIfInBounds_toArray, List.set_cons_zero, List.set_cons_succ])
              (refine AnyX.take' (i := 3) (v := ?v3b) (some 43) rfl rfl (by kernel_rfl) (by kernel_rfl) (by kernel_rfl) (by kernel_rfl) (waits (k := 3) (r := []) (by kernel_rfl) rfl rfl) (fun _ _ _ h => h) (Or.inl ⟨by rfl, ?hy3b⟩) hS0 ?rest3b; (case hy3b => (intro w hSw; (try dsimp only at hSw); go_simp; try with_reducible rfl)); simp only [Act.put, List.setIfInBounds_toArray, List.set_cons_zero, List.set_cons_succ])
              (refine AnyX.take' (i := 4) (v := ?v4b) (some 44) rfl rfl (by kernel_rfl) (by kernel_rfl) (by kernel_rfl) (by kernel_rfl) (waits (k := 4) (r := []) (by kernel_rfl) rfl rfl) (fun _ _ _ h => h) (Or.inl ⟨by rfl, ?hy4b⟩) hS0 ?rest4b; (case hy4b => (intro w hSw; (try dsimp only at hSw); go_simp; try with_reducible rfl)); simp only [Act.put, List.setIfInBounds_toArray, List.set_cons_zero, List.set_cons_succ])
              (refine AnyX.take' (i := 5) (v := ?v5b) (some 45) rfl rfl (by kernel_rfl) (by kernel_rfl) (by kernel_rfl) (by kernel_rfl) (waits (k := 5) (r := []) (by kernel_rfl) rfl rfl) (fun _ _ _ h => h) (Or.inl ⟨by rfl, ?hy5b⟩) hS0 ?rest5b; (case hy5b => (intro w hSw; (try dsimp only at hSw); go_simp; try with_reducible rfl)); simp only [Act.put, List.setIfInBounds_toArray, List.set_cons_zero, List.set_cons_succ])
              (refine AnyX.take' (i := 6) (v := ?v6b) (some 46) rfl rfl (by kernel_rfl) (by kernel_rfl) (by kernel_rfl) (by kernel_rfl) (waits (k := 6) (r := []) (by kernel_rfl) rfl rfl) (fun _ _ _ h => h) (Or.inl ⟨by rfl, ?hy6b⟩) hS0 ?rest6b; (case hy6b => (intro w hSw; (try dsimp only at hSw); go_simp; try with_reducible rfl)); simp only [Act.put, List.setIfInBounds_toArray, List.set_cons_zero, List.set_cons_succ])
              (refine AnyX.take' (i := 7) (v := ?v7b) (some 47) rfl rfl (by kernel_rfl) (by kernel_rfl) (by kernel_rfl) (by kernel_rfl) (waits (k := 7) (r := []) (by kernel_rfl) rfl rfl) (fun _ _ _ h => h) (Or.inl ⟨by rfl, ?hy7b⟩) hS0 ?rest7b; (case hy7b => (intro w hSw; (try dsimp only at hSw); go_simp; try with_reducible rfl)); simp only [Act.put, List.setIfInBounds_toArray, List.set_cons_zero, List.set_cons_succ])
              (refine AnyX.take' (i := 8) (v := ?v8b) (some 48) rfl rfl (by kernel_rfl) (by kernel_rfl) (by kernel_rfl) (by kernel_rfl) (waits (k := 8) (r := []) (by kernel_rfl) rfl rfl) (fun _ _ _ h => h) (Or.inl ⟨by rfl, ?hy8b⟩) hS0 ?rest8b; (case hy8b => (intro w hSw; (try dsimp only at hSw); go_simp; try with_reducible rfl)); simp only [Act.put, List.setIfInBounds_toArray, List.set_cons_zero, List.set_cons_succ])
              (refine AnyX.take' (i := 9) (v := ?v9b) (some 49) rfl rfl (by kernel_rfl) (by kernel_rfl) (by kernel_rfl) (by kernel_rfl) (waits (k := 9) (r := []) (by kernel_rfl) rfl rfl) (fun _ _ _ h => h) (Or.inl ⟨by rfl, ?hy9b⟩) hS0 ?rest9b; (case hy9b => (intro w hSw; (try dsimp only at hSw); go_simp; try with_reducible rfl)); simp only [Act.put, List.setIfInBounds_toArray, List.set_cons_zero, List.set_cons_succ])
              (refine AnyX.take' (i := 10) (v := ?v10b) (some 50) rfl rfl (by kernel_rfl) (by kernel_rfl) (by kernel_rfl) (by kernel_rfl) (waits (k := 10) (r := []) (by kernel_rfl) rfl rfl) (fun _ _ _ h => h) (Or.inl ⟨by rfl, ?hy10b⟩) hS0 ?rest10b; (case hy10b => (intro w hSw; (try dsimp only at hSw); go_simp; try with_reducible rfl)); simp only [Act.put, List.setIfInBounds_toArray, List.set_cons_zero, List.set_cons_succ])
              refine AnyX.one (i := 11) (by kernel_rfl) rfl (fun K' hK => ?_)
              refine step_callG (R := fun v w' => ∃ g, v = .tuple #[.pointer (some ⟨g, 0, none⟩), .int .i64 0] ∧ Below (wr.alloc (.cells #[.int .i64 kb, .int .i64 vb, .int .i64 tk, .int .i64 dm, .int .i64 ly, .int .i64 hd, .int .i64 ix] 41)).heap.size (wr.alloc (.cells #[.int .i64 kb, .int .i64 vb, .int .i64 tk, .int .i64 dm, .int .i64 ly, .int .i64 hd, .int .i64 ix] 41)) w' ∧ PageAt (fun b => (wr.alloc (.cells #[.int .i64 kb, .int .i64 vb, .int .i64 tk, .int .i64 dm, .int .i64 ly, .int .i64 hd, .int .i64 ix] 41)).heap.size ≤ b) w' g (quantP ⟨kb, vb, tk, dm, ly, hd, ix⟩ ks vs)) 16 #[.tmp 40, .tmp 45, .tmp 50] #[41, 25, 25] #[.agg #[.int .i64 kb, .int .i64 vb, .int .i64 tk, .int .i64 dm, .int .i64 ly, .int .i64 hd, .int .i64 ix], .slice A6 ks.length c6, .slice A7 vs.length c7] rfl rfl rfl (by kernel_rfl) ((HQO.out _ (Below.drew ((Below.refl _ _).alloc (Nat.le_refl _) _)) hqk).mono fun e w' h => by obtain ⟨hb, g, he, hp⟩ := h; exact ⟨_, he, g, rfl, (Below.drew (Below.refl _ _)).trans (hb.mono (Nat.le_refl _)), hp⟩) ?_
              rintro v5 w5 ⟨g, rfl, hb5, hpg⟩
              refine hK _ _ (.inr (hSall _ hb5)) ?_
              simp only [Act.put, List.setIfInBounds_toArray, List.set_cons_zero, List.set_cons_succ]
              have hS1 := hSall _ hb5
              (refine AnyX.take' (i := 12) (v := ?v12b) (some 39) rfl rfl (by kernel_rfl) (by kernel_rfl) (by kernel_rfl) (by kernel_rfl) (waits (k := 12) (r := []) (by kernel_rfl) rfl rfl) (fun _ _ _ h => h) (Or.inl ⟨by rfl, ?hy12b⟩) hS1 ?rest12b; (case hy12b => (intro w hSw; (try dsimp only at hSw); go_simp; try with_reducible rfl)); simp only [Act.put, List.setIfInBounds_toArray, List.set_cons_zero, List.set_cons_succ])
              (refine AnyX.take' (i := 13) (v := ?v13b) (some 52) rfl rfl (by kernel_rfl) (by kernel_rfl) (by kernel_rfl) (by kernel_rfl) (waits (k := 13) (r := []) (by kernel_rfl) rfl rfl) (fun _ _ _ h => h) (Or.inl ⟨by rfl, ?hy13b⟩) hS1 ?rest13b; (case hy13b => (intro w hSw; (try dsimp only at hSw); go_simp; try with_reducible rfl)); simp only [Act.put, List.setIfInBounds_toArray, List.set_cons_zero, List.set_cons_succ])
              (refine AnyX.take' (i := 14) (v := ?v14b) (some 53) rfl rfl (by kernel_rfl) (by kernel_rfl) (by kernel_rfl) (by kernel_rfl) (waits (k := 14) (r := []) (by kernel_rfl) rfl rfl) (fun _ _ _ h => h) (Or.inl ⟨by rfl, ?hy14b⟩) hS1 ?rest14b; (case hy14b => (intro w hSw; (try dsimp only at hSw); go_simp; try with_reducible rfl)); simp only [Act.put, List.setIfInBounds_toArray, List.set_cons_zero, List.set_cons_succ])
              (refine AnyX.take' (i := 15) (v := ?v15b) (some 7) rfl rfl (by kernel_rfl) (by kernel_rfl) (by kernel_rfl) (by kernel_rfl) (waits (k := 15) (r := []) (by kernel_rfl) rfl rfl) (fun _ _ _ h => h) (Or.inl ⟨by rfl, ?hy15b⟩) hS1 ?rest15b; (case hy15b => (intro w hSw; (try dsimp only at hSw); go_simp; try with_reducible rfl)); simp only [Act.put, List.setIfInBounds_toArray, List.set_cons_zero, List.set_cons_succ])
              (refine AnyX.last (i := 16) (fuel := 0) (o := ?oob) ?gab ?gbb ?gcb rfl ?gdb; (case gbb => rfl); (case gab => kernel_rfl); (case gcb => kernel_rfl); intro K' hK; go_simp; refine hK _ _ ?_)
              have hbr5 : Below wr.heap.size wr w5 := hal.trans (hb5.mono (by simp))
              obtain ⟨xs, hox, hxl, hxr⟩ := HN
              have HO5 := own_below (own_below hox hal) hb5
              have HB5 : Below (w.heap.size + 1) wr w5 := hbr5.mono (by omega)
              have hn' : xs.length + 1 ≤ 2199023255552 := by
                have h1 : (pg.map (·.2)).length = k := by rw [HPG.out]; simp [Cs.pgs]
                rw [List.length_map] at h1
                omega
              have HXL := Lib.hid hxl
              have HXR := Lib.hid hxr
              have HQK := Lib.hid hqk
              clear hxl hxr hqk
              go_wp2_with (at_builtin; refine app1 (w.heap.size + 1) (.tmp 56) (.tmp 58) 28 33 (.pointer none) 8 rfl rfl Try.underlying28 info_ptr rfl _ _ _ rfl rfl rfl HO5 HB5 (Nat.le_trans hsz HB5.size) hn' (by decide) ?_; intro v1 w1 HO1 HB1 HG1 HA1)
              replace HG1 : w5.grownBy w1 u4.ownBlock := HG1
              replace HA1 : v1.ownBlock = u4.ownBlock ∨ ∃ b, v1.ownBlock = some b ∧ w5.heap.size ≤ b := HA1
              go_roundg (z.heads.length - (k + 1))
              case rel =>
                refine ⟨k + 1, pg ++ [(g, quantP ⟨kb, vb, tk, dm, ly, hd, ix⟩ ks vs)], by omega, by go_num, by omega, (HB1.block w.heap.size (by omega)).trans hk0, fun i hi => ?_, ?_, ?_, HB.trans (HB1.mono (by omega))⟩
                · rcases Nat.lt_or_ge i k with h | h
                  · exact HKS.out i h
                  · obtain rfl : i = k := by omega
                    rw [HO0.out]; exact HQK.out
                · rw [List.map_append, HPG.out]
                  unfold Cs.pgs
                  rw [List.range_succ, List.map_append]
                  simp only [List.map_cons, List.map_nil, HP0.out]
                · refine OwnL.snoc HO1 HXL.out (fun j u x h1 h2 => ?_) ⟨rfl, ?_⟩
                  · obtain ⟨q1, q2⟩ := HXR.out j u x h1 h2
                    exact ⟨q1, (q2.below hbr5).grow HG1 (.inr (by simp)) (fx_one HA1)⟩
                  · exact (hpg.keep (fun _ _ _ => rfl) (fun b _ hf => fx_new (v := u4) (W := wr) (B := w.heap.size + 1) (fun k hk => own_lt hox k hk) hsz b (Nat.le_trans (by simp) hf)) (Nat.le_refl _)).grow HG1 (.inr (by simp)) (fx_one HA1)
              case measure => rw [HG.out]; omega
          · obtain rfl : k = z.heads.length := by omega
            have hf : z.okB = true := by
              rw [HOK.out, List.all_eq_true]
              intro i hi
              exact HKS.out i (List.mem_range.1 hi)
            have HF := Lib.hid hf
            clear hf
            go_wp2
            go_ret2
            refine ⟨HB, .inl ⟨HF.out, _, pg, rfl, HPG.out, ?_⟩⟩
            exact Sl.keep HN.sl (fun _ _ _ => rfl) (fun _ _ _ => trivial) (fun _ _ _ h => ⟨h.1, h.2.all⟩)
      · have hf : z.okB = false := by unfold Cs.okB; rw [decide_eq_false a3]; simp
        have HF := Lib.hid hf
        clear hf a1 a2
        go_enter Try.func4, Try.ntmps4
        go_wp2
        go_ret2
        exact ⟨hB1 _, .inr ⟨HF.out, rfl⟩⟩
    · have s2 : ((z.pv.length : Int) != (z.heads.length : Int)) = true := by simp; omega
      have hf : z.okB = false := by unfold Cs.okB; rw [decide_eq_false a2]; simp
      have HF := Lib.hid hf
      clear hf a1 a2
      go_enter Try.func4, Try.ntmps4
      go_wp2
      go_ret2
      exact ⟨hB1 _, .inr ⟨HF.out, rfl⟩⟩
  · have s1 : ((z.pk.length : Int) != (z.heads.length : Int)) = true := by simp; omega
    have hf : z.okB = false := by unfold Cs.okB; rw [decide_eq_false a1]; simp
    have HF := Lib.hid hf
    clear hf a1
    go_enter Try.func4, Try.ntmps4
    go_wp2
    go_ret2
    exact ⟨hB1 _, .inr ⟨HF.out, rfl⟩⟩
end Go.Proofs.Ytkepgkjbhdgbiaa
