/- Contracts of functions of the program, and what they need (QRef, QBack). -/
import Derived.Test.YtkepgkjbhdgbiaaZ16
import Derived.Test.YtkepgkjbhdgbiaaZ18

namespace Go.Proofs.Ytkepgkjbhdgbiaa
open Go.RowKit

theorem r07_Steps (b : Nat) (hb : BitsN b) (w : World) : Calls Try.prog 37 #[.int .i64 b] w (Ret w (.int .i64 (stepsI b))) := by
  have hp := fun W => r01_Power b W (by rcases hb with rfl | rfl | rfl <;> decide)
  have hs := steps_bd hb
  unfold stepsI at *
  generalize (2 : Int) ^ b = p at *
  obtain ⟨s1, s2⟩ := hs
  have HP := Lib.hid hp
  clear hp
  go_enter Try.func37, Try.ntmps37
  go_wp2_with (go_at_call 69; refine (HP.out _).mono ?_; rintro e w' ⟨rfl, nq, rfl⟩)
  go_ret
  exact ⟨rfl, (by first | exact ⟨_, rfl⟩ | exact ⟨_, World.drewN_drewN ..⟩ | exact ⟨_, (World.drewN_drewN ..).trans (World.drewN_drewN ..)⟩)⟩

/-- It returns a group. -/
def RetG (w : World) (g : Gr) (e : Ending) (w' : World) : Prop :=
  Below w.heap.size w w' ∧ ∃ cv, e = .returned (.agg #[.int .i32 g.zero, .int .u32 g.scale, cv]) ∧ Sl (fun b => w.heap.size ≤ b) w' (IntV .i64) cv g.codes

theorem mnTo_succ {l : List Int} {k : Nat} (h : k < l.length) : mnTo (fun i => l.getD i 0) (k + 1) = if l[k] < mnTo (fun i => l.getD i 0) k then l[k] else mnTo (fun i => l.getD i 0) k := by rw [← getD_at h]; rfl

set_option maxRecDepth 100000 in
set_option maxHeartbeats 2000000 in
theorem r07_Of {F : Nat → Prop} {w : World} {v : Value} {l : List Int} (b : Nat) (hb : BitsN b) (h : Sl F w (IntV .i32) v l) (h0 : 0 < l.length) (hn : l.length ≤ 256) :
    Calls Try.prog 18 #[v, .int .i64 b] w (RetG w (quantG b l)) := by
  obtain ⟨A, c, rfl, hc1, hm1⟩ := h.form
  have hin := h.inK
  obtain ⟨⟨a1, a2⟩, ⟨b1, b2⟩, hle⟩ := min_max h0 hin
  have hst := fun W => r07_Steps b hb W
  have hs := steps_bd hb
  obtain ⟨sc1, sc2, -, -⟩ := scale_bd hb h0 hin
  have hsr := scale_ref hb h0 hin
  have hqg : quantG b l = ⟨minL l, gscaleI l b, l.map (codeI l b)⟩ := rfl
  have hcd0 : ∀ x ∈ l, gscaleI l b ≤ 0 → codeI l b x = 0 := fun x _ h => code_flat h x
  have hcd1 : ∀ x ∈ l, 0 < gscaleI l b → ∀ W, Calls Try.prog 38 #[.int .i64 (x - minL l), .int .i64 (gscaleI l b)] W (Ret W (.int .i64 (codeI l b x))) := by
    intro x hx hp W
    unfold codeI
    rw [if_neg (by omega)]
    have i1 := minL_le hx
    have i2 := hin x hx
    obtain ⟨i3, i4⟩ := i2
    exact r01_Ratio _ _ _ (by omega) (by omega) hp (by omega)
  obtain ⟨ad, u0, rfl, _, hu0, rfl, hz1, hz2⟩ := h.at_ rfl h0
  have hB1 : ∀ o, Below w.heap.size w (w.alloc o) := fun o => (Below.refl _ _).alloc (Nat.le_refl _) _
  have hm0 : l[0] = mnTo (fun i => l.getD i 0) 0 ∧ l[0] = mxTo (fun i => l.getD i 0) 0 := ⟨(getD_at h0).symm, (getD_at h0).symm⟩
  have HM0 := Lib.hid hm0
  rw [add_zero_] at hu0
  have hab : ad.block < w.heap.size := World.block_lt_of_cell? w _ hu0
  generalize l[0] = x0 at *
  have HST := Lib.hid hst
  have HSR := Lib.hid hsr
  have HQG := Lib.hid hqg
  have HC0 := Lib.hid hcd0
  have HC1 := Lib.hid hcd1
  have HIN := Lib.hid hin
  clear hst hsr hqg hcd0 hcd1 hin hm0
  go_enter Try.func18, Try.ntmps18
  go_upto_region 1 with fail
  go_quiet (fail)
  go_wp2
  go_loopg [5, 6, 7] l.length (fun g v5 v6 v7 wr => ∃ k : Nat, k ≤ l.length ∧ v7 = .int .i64 k ∧ g = l.length - k ∧ v5 = .int .i64 (mnTo (fun i => l.getD i 0) k) ∧ v6 = .int .i64 (mxTo (fun i => l.getD i 0) k) ∧ ∃ n, wr = (w.alloc (.cells #[.int .i32 0, .int .u32 0, .slice none 0 0] 58)).drewN n)
  case atStart => exact ⟨0, Nat.zero_le _, rfl, by omega, by rw [HM0.out.1], by rw [HM0.out.2], _, rfl⟩
  case round =>
    obtain ⟨k, hk, rfl, hg, rfl, rfl, nd, rfl⟩ := hrel
    have HG := Lib.hid hg
    clear hg hu0
    by_cases hlt : k < l.length
    · obtain ⟨ad', u, had, _, hu, rfl, hx1, hx2⟩ := h.at_ rfl hlt
      obtain rfl : ad = ad' := by injection had
      have hs1 := mnTo_succ hlt
      have hs2 := mxTo_succ hlt
      obtain ⟨hx3, hx4⟩ : -2147483648 ≤ l[k] ∧ l[k] ≤ 2147483647 := ⟨hx1, hx2⟩
      generalize l[k] = x at *
      generalize mnTo (fun i => l.getD i 0) k = y1 at *
      generalize mxTo (fun i => l.getD i 0) k = y2 at *
      have HS := Lib.hid (And.intro hs1 hs2)
      clear hs1 hs2 had
      go_wp2
      all_goals
        go_roundg (l.length - (k + 1))
        case rel => exact ⟨k + 1, by omega, by go_num, by omega, by rw [HS.out.1]; congr 1; split <;> omega, by rw [HS.out.2]; congr 1; split <;> omega, nd, rfl⟩
        case measure => rw [HG.out]; omega
    · obtain rfl : k = l.length := by omega
      rw [show mnTo (fun i => l.getD i 0) l.length = minL l from rfl, show mxTo (fun i => l.getD i 0) l.length = maxL l from rfl]
      generalize minL l = mn at *
      generalize maxL l = mx at *
      generalize hsc : gscaleI l b = sc at *
      generalize hS : stepsI b = S at *
      obtain ⟨s1, s2⟩ := hs
      have q0 : 0 ≤ (mx - mn) / S := Int.ediv_nonneg (by omega) (by omega)
      have q1 : (mx - mn) / S ≤ mx - mn := Int.ediv_le_self _ (by omega)
      have q2 : 0 ≤ (mx - mn) / S * S := Int.mul_nonneg q0 (by omega)
      have q3 : (mx - mn) / S * S ≤ mx - mn := Int.ediv_mul_le _ (by omega)
      have q4 : (if (mx - mn) / S * S < mx - mn then (mx - mn) / S + 1 else (mx - mn) / S) = sc := HSR.out
      have HS0 := Lib.hid (And.intro hsc hS)
      clear hsc hS
      have q5 : (mx - mn).tdiv S = (mx - mn) / S := Int.tdiv_eq_ediv_of_nonneg (by omega)
      by_cases hup : (mx - mn) / S * S < mx - mn
      · rw [if_pos hup] at q4
        have HQ4 := Lib.hid q4
        have Q5 := Lib.hid q5
        clear q4 q5
        go_upto_region 12 with (go_at_call 37; refine (HST.out _).mono ?_; rintro e w' ⟨rfl, nq, rfl⟩)
        rw [HQ4.out]
        by_cases hp : sc ≤ 0
        · have HCD : Hid (∀ x ∈ l, codeI l b x = 0) := Lib.hid fun x hx => HC0.out x hx hp
          clear q0 q1 q2 q3 hup
          go_wp2
          go_loopg [10] l.length (fun g v10 wr => ∃ (k : Nat) (v : Value), k ≤ l.length ∧ v10 = .int .i64 k ∧ g = l.length - k ∧
            wr.heap[w.heap.size]? = some (.cells #[.int .i32 0, .int .u32 0, .slice none 0 0] 58 (0, 0)) ∧
            wr.heap[w.heap.size + 1]? = some (.cells #[.int .i32 mn, .int .u32 sc, v] 58 (0, 0)) ∧
            wr.ownsRow (w.heap.size + 2) 3 1 v (nums .i64 ((l.take k).map (codeI l b))).length (nums .i64 ((l.take k).map (codeI l b))) ∧ Below w.heap.size w wr)
          case atStart => exact ⟨0, .slice none 0 0, Nat.zero_le _, rfl, by omega, blk_old (blk_drewN (blk_new rfl)), blk_new (by simp), World.ownsRow_nil _ _ _ _, (below_drewN ((Below.refl _ _).alloc (Nat.le_refl _) _) _).alloc (by simp) _⟩
          case round =>
            obtain ⟨k, v, hk, rfl, hg, hk0, hk1, HO, HB⟩ := hrel
            have HG := Lib.hid hg
            clear hg
            by_cases hlt : k < l.length
            · obtain ⟨ad', u, had, _, hu, rfl, hx1, hx2⟩ := (h.below HB).at_ rfl hlt
              obtain rfl : ad = ad' := by injection had
              clear had
              obtain ⟨hx3, hx4⟩ : -2147483648 ≤ l[k] ∧ l[k] ≤ 2147483647 := ⟨hx1, hx2⟩
              have hcd := HCD.out _ (List.getElem_mem hlt)
              have hn' : (nums .i64 ((l.take k).map (codeI l b))).length + 1 ≤ 2199023255552 := by have := nums_len .i64 (codeI l b) l k 2048 (by omega); omega
              have hs := nums_take_succ .i64 (codeI l b) l hlt
              have hcb := code_bd hb HIN.out (List.getElem_mem hlt)
              generalize codeI l b l[k] = cd at *
              generalize l[k] = x at *
              generalize nums .i64 ((l.take k).map (codeI l b)) = acc at *
              obtain ⟨c1, f1, hsz⟩ := cells_of hk1
              have c12 := c1 2
              simp only [List.getElem?_toArray, List.getElem?_cons_succ, List.getElem?_cons_zero] at c12
              have HS := Lib.hid hs
              have HCX := Lib.hid hcd
              clear hs hcd c1 hcb
              obtain rfl : cd = 0 := HCX.out
              go_wp2_with (first
                | (go_at_call 38; refine (HCX.out _).mono ?_; rintro e w' ⟨rfl, nq, rfl⟩)
                | (at_builtin; refine app1 _ (.tmp 89) (.tmp 91) 56 3 (.int .i64 0) 8 rfl rfl Try.underlying56 info_i64 rfl _ _ _ rfl rfl rfl HO (by first | exact below_drewN (Below.refl (w.heap.size + 2) wr) _ | exact Below.refl (w.heap.size + 2) wr) (by first | exact hsz | (simp; omega)) hn' (by decide) ?_; intro v1 w1 HO1 HB1 HG1 HA1; obtain ⟨A9, n9, c9, rfl⟩ := own_slice HO1; have hk2 := (HB1.block (w.heap.size + 1) (by omega)).trans hk1; obtain ⟨d1, d2, _⟩ := cells_of hk2))
              go_roundg (l.length - (k + 1))
              case rel =>
                have k2 := heap_setCell_same w1 (w.heap.size + 1) 2 _ _ (.slice A9 n9 c9) hk2
                simp only [List.setIfInBounds_toArray, List.set_cons_zero, List.set_cons_succ] at k2
                refine ⟨k + 1, .slice A9 n9 c9, by omega, by go_num, by omega, blk_set ((HB1.block w.heap.size (by omega)).trans hk0) (by simp), k2, ?_, (HB.trans (HB1.mono (by omega))).setCell (p := ⟨w.heap.size + 1, 2, none⟩) (by simp) _⟩
                rw [HS.out]
                exact ownsRow_setCell_below HO1 (by simp) _
              case measure => rw [HG.out]; omega
            · obtain rfl : k = l.length := by omega
              rw [List.take_length] at HO
              obtain ⟨A9, n9, c9, rfl⟩ := own_slice HO
              obtain ⟨hc0, hf0, _⟩ := cells_of hk0
              obtain ⟨hc2, hf2, hsz⟩ := cells_of hk1
              go_wp2
              have k1 := heap_setCell_same wr w.heap.size 0 _ _ (.int .i32 mn) hk0
              have k2 := heap_setCell_same _ w.heap.size 1 _ _ (.int .u32 sc) k1
              have k3 := heap_setCell_same _ w.heap.size 2 _ _ (.slice A9 n9 c9) k2
              simp only [List.setIfInBounds_toArray, List.set_cons_zero, List.set_cons_succ] at k3
              obtain ⟨e3, _, _⟩ := cells_of k3
              have e30 := e3 0
              have e31 := e3 1
              have e32 := e3 2
              simp only [List.getElem?_toArray, List.getElem?_cons_succ, List.getElem?_cons_zero] at e30 e31 e32
              clear e3 hc0 hc2
              refine bodyPost_ret (v := .agg #[.int .i32 mn, .int .u32 sc, .slice A9 n9 c9]) (by simp [results, Try.results18, go_sem, e30, e31, e32]) rfl ⟨((HB.setCell (p := ⟨w.heap.size, 0, none⟩) (Nat.le_refl _) _).setCell (p := ⟨w.heap.size, 1, none⟩) (Nat.le_refl _) _).setCell (p := ⟨w.heap.size, 2, none⟩) (Nat.le_refl _) _, _, by rw [HQG.out], ?_⟩
              rw [HQG.out]
              refine (Sl.ints HO ?_).keep (fun b _ hb => ?_) (fun b _ h => by omega) (fun _ _ _ h => h)
              · intro x hx
                obtain ⟨y, hy, rfl⟩ := List.mem_map.1 hx
                have := code_bd hb HIN.out hy
                have := steps_bd hb
                exact ⟨by omega, by omega⟩
              · rw [Below.heap_setCell _ _ _ _ (by simp; omega), Below.heap_setCell _ _ _ _ (by simp; omega), Below.heap_setCell _ _ _ _ (by simp; omega)]
        · have HCD : Hid (∀ x ∈ l, ∀ W, Calls Try.prog 38 #[.int .i64 (x - mn), .int .i64 sc] W (Ret W (.int .i64 (codeI l b x)))) := Lib.hid fun x hx => HC1.out x hx (by omega)
          clear q0 q1 q2 q3 hup
          go_wp2
          go_loopg [10] l.length (fun g v10 wr => ∃ (k : Nat) (v : Value), k ≤ l.length ∧ v10 = .int .i64 k ∧ g = l.length - k ∧
            wr.heap[w.heap.size]? = some (.cells #[.int .i32 0, .int .u32 0, .slice none 0 0] 58 (0, 0)) ∧
            wr.heap[w.heap.size + 1]? = some (.cells #[.int .i32 mn, .int .u32 sc, v] 58 (0, 0)) ∧
            wr.ownsRow (w.heap.size + 2) 3 1 v (nums .i64 ((l.take k).map (codeI l b))).length (nums .i64 ((l.take k).map (codeI l b))) ∧ Below w.heap.size w wr)
          case atStart => exact ⟨0, .slice none 0 0, Nat.zero_le _, rfl, by omega, blk_old (blk_drewN (blk_new rfl)), blk_new (by simp), World.ownsRow_nil _ _ _ _, (below_drewN ((Below.refl _ _).alloc (Nat.le_refl _) _) _).alloc (by simp) _⟩
          case round =>
            obtain ⟨k, v, hk, rfl, hg, hk0, hk1, HO, HB⟩ := hrel
            have HG := Lib.hid hg
            clear hg
            by_cases hlt : k < l.length
            · obtain ⟨ad', u, had, _, hu, rfl, hx1, hx2⟩ := (h.below HB).at_ rfl hlt
              obtain rfl : ad = ad' := by injection had
              clear had
              obtain ⟨hx3, hx4⟩ : -2147483648 ≤ l[k] ∧ l[k] ≤ 2147483647 := ⟨hx1, hx2⟩
              have hcd := HCD.out _ (List.getElem_mem hlt)
              have hn' : (nums .i64 ((l.take k).map (codeI l b))).length + 1 ≤ 2199023255552 := by have := nums_len .i64 (codeI l b) l k 2048 (by omega); omega
              have hs := nums_take_succ .i64 (codeI l b) l hlt
              have hcb := code_bd hb HIN.out (List.getElem_mem hlt)
              generalize codeI l b l[k] = cd at *
              generalize l[k] = x at *
              generalize nums .i64 ((l.take k).map (codeI l b)) = acc at *
              obtain ⟨c1, f1, hsz⟩ := cells_of hk1
              have c12 := c1 2
              simp only [List.getElem?_toArray, List.getElem?_cons_succ, List.getElem?_cons_zero] at c12
              have HS := Lib.hid hs
              have HCX := Lib.hid hcd
              clear hs hcd c1 hcb
              skip
              go_wp2_with (first
                | (go_at_call 38; refine (HCX.out _).mono ?_; rintro e w' ⟨rfl, nq, rfl⟩)
                | (at_builtin; refine app1 _ (.tmp 89) (.tmp 91) 56 3 (.int .i64 0) 8 rfl rfl Try.underlying56 info_i64 rfl _ _ _ rfl rfl rfl HO (by first | exact below_drewN (Below.refl (w.heap.size + 2) wr) _ | exact Below.refl (w.heap.size + 2) wr) (by first | exact hsz | (simp; omega)) hn' (by decide) ?_; intro v1 w1 HO1 HB1 HG1 HA1; obtain ⟨A9, n9, c9, rfl⟩ := own_slice HO1; have hk2 := (HB1.block (w.heap.size + 1) (by omega)).trans hk1; obtain ⟨d1, d2, _⟩ := cells_of hk2))
              go_roundg (l.length - (k + 1))
              case rel =>
                have k2 := heap_setCell_same w1 (w.heap.size + 1) 2 _ _ (.slice A9 n9 c9) hk2
                simp only [List.setIfInBounds_toArray, List.set_cons_zero, List.set_cons_succ] at k2
                refine ⟨k + 1, .slice A9 n9 c9, by omega, by go_num, by omega, blk_set ((HB1.block w.heap.size (by omega)).trans hk0) (by simp), k2, ?_, (HB.trans (HB1.mono (by omega))).setCell (p := ⟨w.heap.size + 1, 2, none⟩) (by simp) _⟩
                rw [HS.out]
                exact ownsRow_setCell_below HO1 (by simp) _
              case measure => rw [HG.out]; omega
            · obtain rfl : k = l.length := by omega
              rw [List.take_length] at HO
              obtain ⟨A9, n9, c9, rfl⟩ := own_slice HO
              obtain ⟨hc0, hf0, _⟩ := cells_of hk0
              obtain ⟨hc2, hf2, hsz⟩ := cells_of hk1
              go_wp2
              have k1 := heap_setCell_same wr w.heap.size 0 _ _ (.int .i32 mn) hk0
              have k2 := heap_setCell_same _ w.heap.size 1 _ _ (.int .u32 sc) k1
              have k3 := heap_setCell_same _ w.heap.size 2 _ _ (.slice A9 n9 c9) k2
              simp only [List.setIfInBounds_toArray, List.set_cons_zero, List.set_cons_succ] at k3
              obtain ⟨e3, _, _⟩ := cells_of k3
              have e30 := e3 0
              have e31 := e3 1
              have e32 := e3 2
              simp only [List.getElem?_toArray, List.getElem?_cons_succ, List.getElem?_cons_zero] at e30 e31 e32
              clear e3 hc0 hc2
              refine bodyPost_ret (v := .agg #[.int .i32 mn, .int .u32 sc, .slice A9 n9 c9]) (by simp [results, Try.results18, go_sem, e30, e31, e32]) rfl ⟨((HB.setCell (p := ⟨w.heap.size, 0, none⟩) (Nat.le_refl _) _).setCell (p := ⟨w.heap.size, 1, none⟩) (Nat.le_refl _) _).setCell (p := ⟨w.heap.size, 2, none⟩) (Nat.le_refl _) _, _, by rw [HQG.out], ?_⟩
              rw [HQG.out]
              refine (Sl.ints HO ?_).keep (fun b _ hb => ?_) (fun b _ h => by omega) (fun _ _ _ h => h)
              · intro x hx
                obtain ⟨y, hy, rfl⟩ := List.mem_map.1 hx
                have := code_bd hb HIN.out hy
                have := steps_bd hb
                exact ⟨by omega, by omega⟩
              · rw [Below.heap_setCell _ _ _ _ (by simp; omega), Below.heap_setCell _ _ _ _ (by simp; omega), Below.heap_setCell _ _ _ _ (by simp; omega)]
      · rw [if_neg hup] at q4
        have HQ4 := Lib.hid q4
        have Q5 := Lib.hid q5
        clear q4 q5
        go_upto_region 12 with (go_at_call 37; refine (HST.out _).mono ?_; rintro e w' ⟨rfl, nq, rfl⟩)
        rw [HQ4.out]
        by_cases hp : sc ≤ 0
        · have HCD : Hid (∀ x ∈ l, codeI l b x = 0) := Lib.hid fun x hx => HC0.out x hx hp
          clear q0 q1 q2 q3 hup
          go_wp2
          go_loopg [10] l.length (fun g v10 wr => ∃ (k : Nat) (v : Value), k ≤ l.length ∧ v10 = .int .i64 k ∧ g = l.length - k ∧
            wr.heap[w.heap.size]? = some (.cells #[.int .i32 0, .int .u32 0, .slice none 0 0] 58 (0, 0)) ∧
            wr.heap[w.heap.size + 1]? = some (.cells #[.int .i32 mn, .int .u32 sc, v] 58 (0, 0)) ∧
            wr.ownsRow (w.heap.size + 2) 3 1 v (nums .i64 ((l.take k).map (codeI l b))).length (nums .i64 ((l.take k).map (codeI l b))) ∧ Below w.heap.size w wr)
          case atStart => exact ⟨0, .slice none 0 0, Nat.zero_le _, rfl, by omega, blk_old (blk_drewN (blk_new rfl)), blk_new (by simp), World.ownsRow_nil _ _ _ _, (below_drewN ((Below.refl _ _).alloc (Nat.le_refl _) _) _).alloc (by simp) _⟩
          case round =>
            obtain ⟨k, v, hk, rfl, hg, hk0, hk1, HO, HB⟩ := hrel
            have HG := Lib.hid hg
            clear hg
            by_cases hlt : k < l.length
            · obtain ⟨ad', u, had, _, hu, rfl, hx1, hx2⟩ := (h.below HB).at_ rfl hlt
              obtain rfl : ad = ad' := by injection had
              clear had
              obtain ⟨hx3, hx4⟩ : -2147483648 ≤ l[k] ∧ l[k] ≤ 2147483647 := ⟨hx1, hx2⟩
              have hcd := HCD.out _ (List.getElem_mem hlt)
              have hn' : (nums .i64 ((l.take k).map (codeI l b))).length + 1 ≤ 2199023255552 := by have := nums_len .i64 (codeI l b) l k 2048 (by omega); omega
              have hs := nums_take_succ .i64 (codeI l b) l hlt
              have hcb := code_bd hb HIN.out (List.getElem_mem hlt)
              generalize codeI l b l[k] = cd at *
              generalize l[k] = x at *
              generalize nums .i64 ((l.take k).map (codeI l b)) = acc at *
              obtain ⟨c1, f1, hsz⟩ := cells_of hk1
              have c12 := c1 2
              simp only [List.getElem?_toArray, List.getElem?_cons_succ, List.getElem?_cons_zero] at c12
              have HS := Lib.hid hs
              have HCX := Lib.hid hcd
              clear hs hcd c1 hcb
              obtain rfl : cd = 0 := HCX.out
              go_wp2_with (first
                | (go_at_call 38; refine (HCX.out _).mono ?_; rintro e w' ⟨rfl, nq, rfl⟩)
                | (at_builtin; refine app1 _ (.tmp 89) (.tmp 91) 56 3 (.int .i64 0) 8 rfl rfl Try.underlying56 info_i64 rfl _ _ _ rfl rfl rfl HO (by first | exact below_drewN (Below.refl (w.heap.size + 2) wr) _ | exact Below.refl (w.heap.size + 2) wr) (by first | exact hsz | (simp; omega)) hn' (by decide) ?_; intro v1 w1 HO1 HB1 HG1 HA1; obtain ⟨A9, n9, c9, rfl⟩ := own_slice HO1; have hk2 := (HB1.block (w.heap.size + 1) (by omega)).trans hk1; obtain ⟨d1, d2, _⟩ := cells_of hk2))
              go_roundg (l.length - (k + 1))
              case rel =>
                have k2 := heap_setCell_same w1 (w.heap.size + 1) 2 _ _ (.slice A9 n9 c9) hk2
                simp only [List.setIfInBounds_toArray, List.set_cons_zero, List.set_cons_succ] at k2
                refine ⟨k + 1, .slice A9 n9 c9, by omega, by go_num, by omega, blk_set ((HB1.block w.heap.size (by omega)).trans hk0) (by simp), k2, ?_, (HB.trans (HB1.mono (by omega))).setCell (p := ⟨w.heap.size + 1, 2, none⟩) (by simp) _⟩
                rw [HS.out]
                exact ownsRow_setCell_below HO1 (by simp) _
              case measure => rw [HG.out]; omega
            · obtain rfl : k = l.length := by omega
              rw [List.take_length] at HO
              obtain ⟨A9, n9, c9, rfl⟩ := own_slice HO
              obtain ⟨hc0, hf0, _⟩ := cells_of hk0
              obtain ⟨hc2, hf2, hsz⟩ := cells_of hk1
              go_wp2
              have k1 := heap_setCell_same wr w.heap.size 0 _ _ (.int .i32 mn) hk0
              have k2 := heap_setCell_same _ w.heap.size 1 _ _ (.int .u32 sc) k1
              have k3 := heap_setCell_same _ w.heap.size 2 _ _ (.slice A9 n9 c9) k2
              simp only [List.setIfInBounds_toArray, List.set_cons_zero, List.set_cons_succ] at k3
              obtain ⟨e3, _, _⟩ := cells_of k3
              have e30 := e3 0
              have e31 := e3 1
              have e32 := e3 2
              simp only [List.getElem?_toArray, List.getElem?_cons_succ, List.getElem?_cons_zero] at e30 e31 e32
              clear e3 hc0 hc2
              refine bodyPost_ret (v := .agg #[.int .i32 mn, .int .u32 sc, .slice A9 n9 c9]) (by simp [results, Try.results18, go_sem, e30, e31, e32]) rfl ⟨((HB.setCell (p := ⟨w.heap.size, 0, none⟩) (Nat.le_refl _) _).setCell (p := ⟨w.heap.size, 1, none⟩) (Nat.le_refl _) _).setCell (p := ⟨w.heap.size, 2, none⟩) (Nat.le_refl _) _, _, by rw [HQG.out], ?_⟩
              rw [HQG.out]
              refine (Sl.ints HO ?_).keep (fun b _ hb => ?_) (fun b _ h => by omega) (fun _ _ _ h => h)
              · intro x hx
                obtain ⟨y, hy, rfl⟩ := List.mem_map.1 hx
                have := code_bd hb HIN.out hy
                have := steps_bd hb
                exact ⟨by omega, by omega⟩
              · rw [Below.heap_setCell _ _ _ _ (by simp; omega), Below.heap_setCell _ _ _ _ (by simp; omega), Below.heap_setCell _ _ _ _ (by simp; omega)]
        · have HCD : Hid (∀ x ∈ l, ∀ W, Calls Try.prog 38 #[.int .i64 (x - mn), .int .i64 sc] W (Ret W (.int .i64 (codeI l b x)))) := Lib.hid fun x hx => HC1.out x hx (by omega)
          clear q0 q1 q2 q3 hup
          go_wp2
          go_loopg [10] l.length (fun g v10 wr => ∃ (k : Nat) (v : Value), k ≤ l.length ∧ v10 = .int .i64 k ∧ g = l.length - k ∧
            wr.heap[w.heap.size]? = some (.cells #[.int .i32 0, .int .u32 0, .slice none 0 0] 58 (0, 0)) ∧
            wr.heap[w.heap.size + 1]? = some (.cells #[.int .i32 mn, .int .u32 sc, v] 58 (0, 0)) ∧
            wr.ownsRow (w.heap.size + 2) 3 1 v (nums .i64 ((l.take k).map (codeI l b))).length (nums .i64 ((l.take k).map (codeI l b))) ∧ Below w.heap.size w wr)
          case atStart => exact ⟨0, .slice none 0 0, Nat.zero_le _, rfl, by omega, blk_old (blk_drewN (blk_new rfl)), blk_new (by simp), World.ownsRow_nil _ _ _ _, (below_drewN ((Below.refl _ _).alloc (Nat.le_refl _) _) _).alloc (by simp) _⟩
          case round =>
            obtain ⟨k, v, hk, rfl, hg, hk0, hk1, HO, HB⟩ := hrel
            have HG := Lib.hid hg
            clear hg
            by_cases hlt : k < l.length
            · obtain ⟨ad', u, had, _, hu, rfl, hx1, hx2⟩ := (h.below HB).at_ rfl hlt
              obtain rfl : ad = ad' := by injection had
              clear had
              obtain ⟨hx3, hx4⟩ : -2147483648 ≤ l[k] ∧ l[k] ≤ 2147483647 := ⟨hx1, hx2⟩
              have hcd := HCD.out _ (List.getElem_mem hlt)
              have hn' : (nums .i64 ((l.take k).map (codeI l b))).length + 1 ≤ 2199023255552 := by have := nums_len .i64 (codeI l b) l k 2048 (by omega); omega
              have hs := nums_take_succ .i64 (codeI l b) l hlt
              have hcb := code_bd hb HIN.out (List.getElem_mem hlt)
              generalize codeI l b l[k] = cd at *
              generalize l[k] = x at *
              generalize nums .i64 ((l.take k).map (codeI l b)) = acc at *
              obtain ⟨c1, f1, hsz⟩ := cells_of hk1
              have c12 := c1 2
              simp only [List.getElem?_toArray, List.getElem?_cons_succ, List.getElem?_cons_zero] at c12
              have HS := Lib.hid hs
              have HCX := Lib.hid hcd
              clear hs hcd c1 hcb
              skip
              go_wp2_with (first
                | (go_at_call 38; refine (HCX.out _).mono ?_; rintro e w' ⟨rfl, nq, rfl⟩)
                | (at_builtin; refine app1 _ (.tmp 89) (.tmp 91) 56 3 (.int .i64 0) 8 rfl rfl Try.underlying56 info_i64 rfl _ _ _ rfl rfl rfl HO (by first | exact below_drewN (Below.refl (w.heap.size + 2) wr) _ | exact Below.refl (w.heap.size + 2) wr) (by first | exact hsz | (simp; omega)) hn' (by decide) ?_; intro v1 w1 HO1 HB1 HG1 HA1; obtain ⟨A9, n9, c9, rfl⟩ := own_slice HO1; have hk2 := (HB1.block (w.heap.size + 1) (by omega)).trans hk1; obtain ⟨d1, d2, _⟩ := cells_of hk2))
              go_roundg (l.length - (k + 1))
              case rel =>
                have k2 := heap_setCell_same w1 (w.heap.size + 1) 2 _ _ (.slice A9 n9 c9) hk2
                simp only [List.setIfInBounds_toArray, List.set_cons_zero, List.set_cons_succ] at k2
                refine ⟨k + 1, .slice A9 n9 c9, by omega, by go_num, by omega, blk_set ((HB1.block w.heap.size (by omega)).trans hk0) (by simp), k2, ?_, (HB.trans (HB1.mono (by omega))).setCell (p := ⟨w.heap.size + 1, 2, none⟩) (by simp) _⟩
                rw [HS.out]
                exact ownsRow_setCell_below HO1 (by simp) _
              case measure => rw [HG.out]; omega
            · obtain rfl : k = l.length := by omega
              rw [List.take_length] at HO
              obtain ⟨A9, n9, c9, rfl⟩ := own_slice HO
              obtain ⟨hc0, hf0, _⟩ := cells_of hk0
              obtain ⟨hc2, hf2, hsz⟩ := cells_of hk1
              go_wp2
              have k1 := heap_setCell_same wr w.heap.size 0 _ _ (.int .i32 mn) hk0
              have k2 := heap_setCell_same _ w.heap.size 1 _ _ (.int .u32 sc) k1
              have k3 := heap_setCell_same _ w.heap.size 2 _ _ (.slice A9 n9 c9) k2
              simp only [List.setIfInBounds_toArray, List.set_cons_zero, List.set_cons_succ] at k3
              obtain ⟨e3, _, _⟩ := cells_of k3
              have e30 := e3 0
              have e31 := e3 1
              have e32 := e3 2
              simp only [List.getElem?_toArray, List.getElem?_cons_succ, List.getElem?_cons_zero] at e30 e31 e32
              clear e3 hc0 hc2
              refine bodyPost_ret (v := .agg #[.int .i32 mn, .int .u32 sc, .slice A9 n9 c9]) (by simp [results, Try.results18, go_sem, e30, e31, e32]) rfl ⟨((HB.setCell (p := ⟨w.heap.size, 0, none⟩) (Nat.le_refl _) _).setCell (p := ⟨w.heap.size, 1, none⟩) (Nat.le_refl _) _).setCell (p := ⟨w.heap.size, 2, none⟩) (Nat.le_refl _) _, _, by rw [HQG.out], ?_⟩
              rw [HQG.out]
              refine (Sl.ints HO ?_).keep (fun b _ hb => ?_) (fun b _ h => by omega) (fun _ _ _ h => h)
              · intro x hx
                obtain ⟨y, hy, rfl⟩ := List.mem_map.1 hx
                have := code_bd hb HIN.out hy
                have := steps_bd hb
                exact ⟨by omega, by omega⟩
              · rw [Below.heap_setCell _ _ _ _ (by simp; omega), Below.heap_setCell _ _ _ _ (by simp; omega), Below.heap_setCell _ _ _ _ (by simp; omega)]
end Go.Proofs.Ytkepgkjbhdgbiaa

namespace Go.Proofs.Ytkepgkjbhdgbiaa
open Go.RowKit

theorem r07_One (z sc code : Int) (cs : Value) (w : World) (h1 : InK .i32 z) (h2 : InK .u32 sc) (h3 : 0 ≤ code) (h4 : code ≤ 255) :
    Calls Try.prog 19 #[.agg #[.int .i32 z, .int .u32 sc, cs], .int .i64 code] w (fun e w' => e = .returned (.int .i32 (oneI z sc code)) ∧ Below w.heap.size w w') := by
  obtain ⟨a1, a2⟩ := h1
  obtain ⟨b1, b2⟩ := h2
  have m1 : 0 ≤ code * sc := Int.mul_nonneg h3 b1
  have m2 : code * sc ≤ 255 * 4294967295 := Int.mul_le_mul h4 b2 b1 (by decide)
  unfold oneI
  go_enter Try.func19, Try.ntmps19
  go_wp2_with (go_at_call 39; refine (r01_Wide _ _).mono ?_; rintro e w' ⟨rfl, nq, rfl⟩)
  go_ret
  exact ⟨rfl, below_drewN ((Below.refl _ _).alloc (Nat.le_refl _) _) _⟩

/-- What a group means. -/
def backL (g : Gr) : List Int := g.codes.map fun c => oneI g.zero g.scale c
theorem back_in (g : Gr) : ∀ x ∈ backL g, InK .i32 x := by
  intro x hx
  obtain ⟨c, _, rfl⟩ := List.mem_map.1 hx
  exact wide_bd _

set_option maxRecDepth 100000 in
set_option maxHeartbeats 2000000 in
theorem r07_Back {F : Nat → Prop} {w : World} {v : Value} (g : Gr) (h : Sl F w (IntV .i64) v g.codes) (h1 : InK .i32 g.zero) (h2 : InK .u32 g.scale) (h3 : ∀ c ∈ g.codes, 0 ≤ c ∧ c ≤ 255) (hn : g.codes.length ≤ 256) :
    Calls Try.prog 20 #[.agg #[.int .i32 g.zero, .int .u32 g.scale, v]] w (RetSl w (fun _ => IntV .i32) (backL g)) := by
  obtain ⟨z, sc, cs⟩ := g
  dsimp only at *
  obtain ⟨A, c, rfl, hc, hm⟩ := h.form
  have hbk : ∀ k (hk : k < cs.length), nums .i32 ((cs.take (k + 1)).map fun c => oneI z sc c) = nums .i32 ((cs.take k).map fun c => oneI z sc c) ++ [.int .i32 (oneI z sc cs[k])] := fun k hk => nums_take_succ .i32 (fun c => oneI z sc c) cs hk
  have HBK := Lib.hid hbk
  have HI := Lib.hid (And.intro h1 (And.intro h2 h3))
  clear hbk h1 h2 h3
  go_enter Try.func20, Try.ntmps20
  go_wp2
  go_loopg [3, 4] cs.length (fun g v3 v4 wr => ∃ k : Nat, k ≤ cs.length ∧ v4 = .int .i64 k ∧ g = cs.length - k ∧
    wr.heap[w.heap.size]? = some (.cells #[.int .i32 z, .int .u32 sc, .slice A cs.length c] 58 (0, 0)) ∧
    wr.ownsRow (w.heap.size + 1) 21 1 v3 (nums .i32 ((cs.take k).map fun c => oneI z sc c)).length (nums .i32 ((cs.take k).map fun c => oneI z sc c)) ∧ Below w.heap.size w wr)
  case atStart => exact ⟨0, Nat.zero_le _, rfl, by omega, blk_new rfl, World.ownsRow_nil _ _ _ _, (Below.refl _ _).alloc (Nat.le_refl _) _⟩
  case round =>
    obtain ⟨k, hk, rfl, hg, hk0, HO, HB⟩ := hrel
    have HG := Lib.hid hg
    clear hg
    obtain ⟨e0, _, hsz⟩ := cells_of hk0
    have e00 := e0 0
    have e01 := e0 1
    have e02 := e0 2
    simp only [List.getElem?_toArray, List.getElem?_cons_succ, List.getElem?_cons_zero] at e00 e01 e02
    clear e0
    by_cases hlt : k < cs.length
    · obtain ⟨ad, u, rfl, _, hu0, rfl, _, _⟩ := h.at_ rfl hlt
      have hab : (ad.add k).block < w.heap.size := World.block_lt_of_cell? w _ hu0
      have hu := cell_below HB hu0
      have hs := HBK.out k hlt
      have h255 := HI.out.2.2 _ (List.getElem_mem hlt)
      have hn' : (nums .i32 ((cs.take k).map fun c => oneI z sc c)).length + 1 ≤ 1099511627776 := by simp [nums]; omega
      generalize cs[k] = cd at *
      generalize nums .i32 ((cs.take k).map fun c => oneI z sc c) = acc at *
      have HS := Lib.hid hs
      have H255 := Lib.hid h255
      have HOW := HO
      clear hs h255 hu0
      go_upto_region 5 with fail
      have hSall : ∀ W, Below (w.heap.size + 1) wr W → (fun W : World => W.cell? ⟨w.heap.size, 0, none⟩ = some (.int .i32 z) ∧ W.cell? ⟨w.heap.size, 1, none⟩ = some (.int .u32 sc) ∧ W.cell? ⟨w.heap.size, 2, none⟩ = some (.slice (some ad) cs.length c) ∧ W.cell? (ad.add k) = some (.int .i64 cd)) W :=
        fun W hW => ⟨cell_base hW (by simp) e00, cell_base hW (by simp) e01, cell_base hW (by simp) e02, cell_base hW (by omega) hu⟩
      refine AnyX.begin (z := 10) (S := (fun W : World => W.cell? ⟨w.heap.size, 0, none⟩ = some (.int .i32 z) ∧ W.cell? ⟨w.heap.size, 1, none⟩ = some (.int .u32 sc) ∧ W.cell? ⟨w.heap.size, 2, none⟩ = some (.slice (some ad) cs.length c) ∧ W.cell? (ad.add k) = some (.int .i64 cd))) (by kernel_rfl) ?_
      have hS0 := hSall { wr with drawn := wr.drawn + 1 } (Below.drew (Below.refl _ _))
      clear e00 e01 e02 hu
      (refine AnyX.take' (i := 0) (v := ?v0a) (some 12) rfl rfl (by kernel_rfl) (by kernel_rfl) (by kernel_rfl) (by kernel_rfl) (waits (k := 0) (r := []) (by kernel_rfl) rfl rfl) (fun _ _ _ h => h) (Or.inl ⟨by rfl, ?hy0a⟩) hS0 ?rest0a; (case hy0a => (intro w hSw; (try dsimp only at hSw); go_simp; try with_reducible rfl)); simp only [Act.put, List.setIfInBounds_toArray, List.set_cons_zero, List.set_cons_succ])
      (refine AnyX.take' (i := 1) (v := ?v1a) (some 13) rfl rfl (by kernel_rfl) (by kernel_rfl) (by kernel_rfl) (by kernel_rfl) (waits (k := 1) (r := []) (by kernel_rfl) rfl rfl) (fun _ _ _ h => h) (Or.inl ⟨by rfl, ?hy1a⟩) hS0 ?rest1a; (case hy1a => (intro w hSw; (try dsimp only at hSw); go_simp; try with_reducible rfl)); simp only [Act.put, List.setIfInBounds_toArray, List.set_cons_zero, List.set_cons_succ])
      (refine AnyX.take' (i := 2) (v := ?v2a) (some 14) rfl rfl (by kernel_rfl) (by kernel_rfl) (by kernel_rfl) (by kernel_rfl) (waits (k := 2) (r := []) (by kernel_rfl) rfl rfl) (fun _ _ _ h => h) (Or.inl ⟨by rfl, ?hy2a⟩) hS0 ?rest2a; (case hy2a => (intro w hSw; (try dsimp only at hSw); go_simp; try with_reducible rfl)); simp only [Act.put, List.setIfInBounds_toArray, List.set_cons_zero, List.set_cons_succ])
      (refine AnyX.take' (i := 3) (v := ?v3a) (some 15) rfl rfl (by kernel_rfl) (by kernel_rfl) (by kernel_rfl) (by kernel_rfl) (waits (k := 3) (r := []) (by kernel_rfl) rfl rfl) (fun _ _ _ h => h) (Or.inl ⟨by rfl, ?hy3a⟩) hS0 ?rest3a; (case hy3a => (intro w hSw; (try dsimp only at hSw); go_simp; try with_reducible rfl)); simp only [Act.put, List.setIfInBounds_toArray, List.set_cons_zero, List.set_cons_succ])
      (refine AnyX.take' (i := 4) (v := ?v4a) (some 16) rfl rfl (by kernel_rfl) (by kernel_rfl) (by kernel_rfl) (by kernel_rfl) (waits (k := 4) (r := []) (by kernel_rfl) rfl rfl) (fun _ _ _ h => h) (Or.inl ⟨by rfl, ?hy4a⟩) hS0 ?rest4a; (case hy4a => (intro w hSw; (try dsimp only at hSw); go_simp; try with_reducible rfl)); simp only [Act.put, List.setIfInBounds_toArray, List.set_cons_zero, List.set_cons_succ])
      (refine AnyX.take' (i := 5) (v := ?v5a) (some 17) rfl rfl (by kernel_rfl) (by kernel_rfl) (by kernel_rfl) (by kernel_rfl) (waits (k := 5) (r := []) (by kernel_rfl) rfl rfl) (fun _ _ _ h => h) (Or.inl ⟨by rfl, ?hy5a⟩) hS0 ?rest5a; (case hy5a => (intro w hSw; (try dsimp only at hSw); go_simp; try with_reducible rfl)); simp only [Act.put, List.setIfInBounds_toArray, List.set_cons_zero, List.set_cons_succ])
      (refine AnyX.take' (i := 6) (v := ?v6a) (some 18) rfl rfl (by kernel_rfl) (by kernel_rfl) (by kernel_rfl) (by kernel_rfl) (waits (k := 6) (r := []) (by kernel_rfl) rfl rfl) (fun _ _ _ h => h) (Or.inl ⟨by rfl, ?hy6a⟩) hS0 ?rest6a; (case hy6a => (intro w hSw; (try dsimp only at hSw); go_simp; try with_reducible rfl)); simp only [Act.put, List.setIfInBounds_toArray, List.set_cons_zero, List.set_cons_succ])
      refine AnyX.one (i := 7) (by kernel_rfl) rfl (fun K' hK => ?_)
      refine step_callG (R := fun v w' => v = .int .i32 (oneI z sc cd) ∧ Below wr.heap.size wr w') 19 #[.tmp 13, .tmp 18] #[58, 3] #[.agg #[.int .i32 z, .int .u32 sc, .slice (some ad) cs.length c], .int .i64 cd] rfl rfl rfl (by kernel_rfl) ((r07_One z sc cd _ _ HI.out.1 HI.out.2.1 H255.out.1 H255.out.2).mono fun e w' h => ⟨_, h.1, rfl, (Below.drew (Below.refl _ _)).trans (h.2.mono (Nat.le_refl _))⟩) ?_
      rintro v2 w2 ⟨rfl, hb2⟩
      refine hK _ _ (.inr (hSall _ (hb2.mono (by omega)))) ?_
      simp only [Act.put, List.setIfInBounds_toArray, List.set_cons_zero, List.set_cons_succ]
      refine AnyX.one (i := 8) (by kernel_rfl) rfl (fun K' hK => ?_)
      go_simp
      have hb2' : Below (w.heap.size + 1) wr w2 := hb2.mono (by omega)
      refine hK _ _ (.inr (hSall _ (hb2'.alloc (Nat.le_trans hsz hb2'.size) _))) ?_
      try simp only [Act.put, List.setIfInBounds_toArray, List.set_cons_zero, List.set_cons_succ]
      refine AnyX.one (i := 9) (by kernel_rfl) rfl (fun K' hK => ?_)
      refine step_app (w0 := wr) (w.heap.size + 1) 1 (.tmp 12) (.tmp 20) 22 21 (.int .i32 0) 4 rfl rfl Try.underlying22 info_i32 rfl (by decide) u3 acc.length acc #[.int .i32 (oneI z sc cd)] w2.heap.size rfl rfl rfl rfl (by simp [Value.oneCell']) (own_below HOW hb2) hb2' (Nat.le_trans hsz hb2'.size) hn' (by decide) ?_
      intro v1 w1 HO1 HB1 HG1 HA1
      refine hK _ _ (.inr (hSall _ HB1)) ?_
      simp only [Act.put, List.setIfInBounds_toArray, List.set_cons_zero, List.set_cons_succ]
      (refine AnyX.last (i := 10) (fuel := 0) (o := ?ooa) ?gaa ?gba ?gca rfl ?gda; (case gba => rfl); (case gaa => kernel_rfl); (case gca => kernel_rfl); intro K' hK; go_simp; refine hK _ _ ?_)
      go_wp2_with fail
      go_roundg (cs.length - (k + 1))
      case rel => exact ⟨k + 1, by omega, by go_num, by omega, (HB1.block w.heap.size (by omega)).trans hk0, by rw [HS.out]; simpa using HO1, HB.trans (HB1.mono (by omega))⟩
      case measure => rw [HG.out]; omega
    · obtain rfl : k = cs.length := by omega
      rw [List.take_length] at HO
      go_wp2
      go_ret
      refine ⟨HB, _, rfl, (Sl.ints HO ?_).keep (fun _ _ _ => rfl) (fun b _ h => by omega) (fun _ _ _ h => h)⟩
      exact back_in ⟨z, sc, cs⟩
end Go.Proofs.Ytkepgkjbhdgbiaa
