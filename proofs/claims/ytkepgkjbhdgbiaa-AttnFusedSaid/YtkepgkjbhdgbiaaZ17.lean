/- Contracts of functions of the program, and what they need (LAwake, LLight). -/
import Derived.Test.YtkepgkjbhdgbiaaZ11
import Derived.Test.YtkepgkjbhdgbiaaZ16

namespace Go.Proofs.Ytkepgkjbhdgbiaa
open Go.RowKit

theorem Sl.lit {k : IntKind} {F : Nat → Prop} {w : World} {g : Nat} {l : List Int} {t : TypeId} (h : w.heap[g]? = some (.cells (nums k l).toArray t (0, 0))) (hF : F g) (hl : l.length ≤ 1000) (hk : ∀ x ∈ l, InK k x) : Sl F w (IntV k) (.slice (some ⟨g, 0, none⟩) l.length l.length) l := by
  refine ⟨_, _, rfl, Nat.le_refl _, by unfold maxLen; omega, fun j x hj => ⟨_, .int k x, rfl, hF, ?_, rfl, hk x (List.mem_of_getElem? hj)⟩⟩
  rw [add_plain, (cells_of h).1 j]
  simp [nums, hj]
theorem Rows.lit1 {F : Nat → Prop} {w : World} {g : Nat} {v : Value} {l : List Int} {t : TypeId} (h : w.heap[g]? = some (.cells #[v] t (0, 0))) (hF : F g) (hs : Sl F w (IntV .i32) v l) : Rows F w (.slice (some ⟨g, 0, none⟩) 1 1) [l] := by
  refine ⟨_, _, rfl, Nat.le_refl _, by decide, fun j x hj => ?_⟩
  have hj0 : j = 0 := by
    have := (List.getElem?_eq_some_iff.1 hj).1
    simp at this; omega
  subst hj0
  simp at hj
  subst hj
  exact ⟨_, v, rfl, hF, by rw [add_plain, (cells_of h).1 0]; rfl, hs⟩
theorem Rows.nil {F : Nat → Prop} {w : World} : Rows F w (.slice none 0 0) ([] : List (List Int)) := ⟨none, 0, rfl, Nat.le_refl _, by decide, fun j x h => by simp at h⟩

theorem score_awake : scoreI [65536, 65536, 0, 0] [65536, 131072, 5, 5] = 98304 := by
  have hd : dotI ([65536, 65536, 0, 0].map narrowI) ([65536, 131072, 5, 5].map narrowI) = 12884901888 := by decide
  have hr : rsqrtI (4 * 65536) = 32768 := by
    unfold rsqrtI
    have e : ((281474976710656 : Int) / (if (4 : Int) * 65536 < 1 then 1 else 4 * 65536)).toNat = 1073741824 := by decide
    rw [e, rootN_of (r := 32768) (by decide) (by decide)]
    rfl
  unfold scoreI
  rw [hd, show (([65536, 65536, 0, 0] : List Int).length : Int) * 65536 = 4 * 65536 from rfl, hr]
  decide
theorem max_one (x : Int) : maxL [x] = x := by
  have h := maxL_mem (l := [x]) (by simp)
  simpa using h
theorem weight_one (x : Int) : weightsL [x] = [65536] := by
  have h := weight_top (s := [x])
  rw [max_one] at h
  unfold weightsL
  rw [List.map_cons, List.map_nil, h]
theorem mix_awake : mixL [65536] [[-3]] 1 = [-3] := by decide
theorem nar_awake : ([[-3]] : List (List Int)).map (fun l => l.map narrowI) = [[-3]] := by decide
theorem gather_awake : gatherI [7] [[9]] [[-3]] = [-3] := by
  have hw : weightsL ([[9]].map (scoreI [7])) = [65536] := weight_one (scoreI [7] [9])
  unfold gatherI
  rw [hw, nar_awake]
  exact mix_awake

set_option maxRecDepth 100000 in
theorem law_awake (w : World) : Calls Try.prog 6 #[] w (fun e w' => e = .returned (.bool true) ∧ Below w.heap.size w w') := by
  have sc1 : Calls Try.prog 17 #[.slice (some ⟨w.heap.size, 0, none⟩) 4 4, .slice (some ⟨w.heap.size + 1, 0, none⟩) 4 4] ((w.alloc (.cells #[.int .i32 65536, .int .i32 65536, .int .i32 0, .int .i32 0] 21)).alloc (.cells #[.int .i32 65536, .int .i32 131072, .int .i32 5, .int .i32 5] 21)) _ :=
    attn_Score (F := fun _ => True) (G := fun _ => True) (q := [65536, 65536, 0, 0]) (k := [65536, 131072, 5, 5]) (Sl.lit (l := [65536, 65536, 0, 0]) (blk_old (blk_new rfl)) trivial (by decide) (by simp [InK])) (Sl.lit (l := [65536, 131072, 5, 5]) (blk_new (by simp)) trivial (by decide) (by simp [InK])) rfl (by decide) (by decide)
  rw [score_awake] at sc1
  have ga : ∀ W : World, Calls Try.prog 13 #[.slice (some ⟨W.heap.size, 0, none⟩) 1 1, .slice (some ⟨W.heap.size + 1 + 1, 0, none⟩) 1 1, .slice (some ⟨W.heap.size + 1 + 1 + 1 + 1, 0, none⟩) 1 1]
      (((((W.alloc (.cells #[.int .i32 7] 21)).alloc (.cells #[.int .i32 9] 21)).alloc (.cells #[.slice (some ⟨W.heap.size + 1, 0, none⟩) 1 1] 22)).alloc (.cells #[.int .i32 (-3)] 21)).alloc (.cells #[.slice (some ⟨W.heap.size + 1 + 1 + 1, 0, none⟩) 1 1] 22)) (RetSlE _ (fun _ => IntV .i32) [-3]) := fun W => by
    rw [← gather_awake]
    exact attn_Gather (F := fun _ => True) (H := fun _ => True) (I := fun _ => True) (q := [7]) (kl := [[9]]) (vl := [[-3]]) (Sl.lit (l := [7]) (blk_old (blk_old (blk_old (blk_old (blk_new rfl))))) trivial (by decide) (by simp [InK]))
      (Rows.lit1 (blk_old (blk_old (blk_new (by simp)))) trivial (Sl.lit (l := [9]) (blk_old (blk_old (blk_old (blk_new (by simp))))) trivial (by decide) (by simp [InK])))
      (Rows.lit1 (blk_new (by simp)) trivial (Sl.lit (l := [-3]) (blk_old (blk_new (by simp))) trivial (by decide) (by simp [InK]))) (by decide) (by decide)
  have gn : ∀ W : World, Calls Try.prog 13 #[.slice (some ⟨W.heap.size, 0, none⟩) 1 1, .slice none 0 0, .slice none 0 0] (W.alloc (.cells #[.int .i32 7] 21)) (RetErr _ 14) := fun W =>
    attn_Gather_err (F := fun _ => True) (H := fun _ => True) (I := fun _ => True) (q := [7]) (kl := []) (vl := []) (Sl.lit (l := [7]) (blk_new rfl) trivial (by decide) (by simp [InK])) Rows.nil Rows.nil (by decide) (by decide)
  have sn : ∀ W : World, Calls Try.prog 17 #[.slice (some ⟨W.heap.size, 0, none⟩) 1 1, .slice none 0 0] (W.alloc (.cells #[.int .i32 7] 21)) (Ret _ (.tuple #[.int .i32 0, .int .i64 25])) := fun W =>
    attn_Score_no (F := fun _ => True) (G := fun _ => True) (q := [7]) (k := []) (Sl.lit (l := [7]) (blk_new rfl) trivial (by decide) (by simp [InK])) Sl.nil (by decide)
  have SC := Lib.hid sc1
  have GA := Lib.hid ga
  have GN := Lib.hid gn
  have SN := Lib.hid sn
  clear sc1 ga gn sn
  go_enter Try.func6, Try.ntmps6
  go_wp2_with (first
    | (go_at_call 17; (with_reducible refine (SC.out).mono ?_); rintro e w1 ⟨rfl, hb1⟩)
    | (go_at_call 13; (with_reducible refine (GA.out _).mono ?_); rintro e w2 ⟨hb2, v, rfl, hv⟩; obtain ⟨A9, c9, rfl, _, _⟩ := hv.form; obtain ⟨ad, u, rfl, hab, hu, hu2, _⟩ := hv.at_ (k := 0) rfl (by decide); rw [add_zero_] at hu; replace hu2 : u = .int .i32 (-3) := hu2; subst hu2)
    | (go_at_call 13; (with_reducible refine (GN.out _).mono ?_); rintro e w3 ⟨hb3, rfl⟩; have hu3 := cell_below hb3 (cell_below ((Below.refl _ _).alloc (Nat.le_refl _) _) hu); have hab3 := World.block_lt_of_cell? w3 _ hu3)
    | (go_at_call 17; (with_reducible refine (SN.out _).mono ?_); rintro e w4 ⟨rfl, nq, rfl⟩))
  go_ret
  have z1 : Below w.heap.size w w1 := (((Below.refl _ _).alloc (Nat.le_refl _) _).alloc (by simp) _).trans (hb1.mono (by simp; omega))
  have y1 := z1.size
  have z2 : Below w1.heap.size w1 w2 := ((((((Below.refl _ _).alloc (Nat.le_refl _) _).alloc (by simp) _).alloc (by simp; omega) _).alloc (by simp; omega) _).alloc (by simp; omega) _).trans (hb2.mono (by simp; omega))
  have z3 : Below w2.heap.size w2 w3 := ((Below.refl _ _).alloc (Nat.le_refl _) _).trans (hb3.mono (by simp))
  have z13 := (z1.trans (z2.mono y1)).trans (z3.mono (Nat.le_trans y1 z2.size))
  exact ⟨rfl, below_drewN (z13.alloc z13.size _) _⟩
end Go.Proofs.Ytkepgkjbhdgbiaa

namespace Go.Proofs.Ytkepgkjbhdgbiaa
open Go.RowKit

/-- Lists of lists of lists. -/
def Rows3 (F : Nat → Prop) (w : World) (v : Value) (lll : List (List (List Int))) : Prop := Sl F w (fun u x => Rows F w u x) v lll
theorem Rows3.below {F : Nat → Prop} {w w' : World} {v : Value} {lll : List (List (List Int))} (h : Rows3 F w v lll) (hb : Below w.heap.size w w') : Rows3 F w' v lll :=
  Sl.keep h (fun b hb' _ => hb.block b hb') (fun _ _ h => h) (fun _ _ _ h => h.below hb)
theorem Rows3.row {F : Nat → Prop} {w : World} {A : Option Addr} {n c : Nat} {lll : List (List (List Int))} (h : Rows3 F w (.slice A n c) lll) {k : Nat} (hk : k < lll.length) :
    ∃ ad A' c', A = some ad ∧ w.cell? (ad.add k) = some (.slice A' lll[k].length c') ∧ Rows F w (.slice A' lll[k].length c') lll[k] ∧ lll[k].length ≤ c' ∧ c' ≤ 9223372036854775807 := by
  obtain ⟨ad, u, hA, _, hu, hr⟩ := Sl.at_ h rfl hk
  obtain ⟨A', c', rfl, h1, h2⟩ := Sl.form hr
  exact ⟨ad, A', c', hA, hu, hr, h1, h2⟩

def lightB (lll : List (List (List Int))) : Bool := lll.all fun ll => decide (ll.length ≤ 40) && ll.all fun l => decide (l.length ≤ 40)

theorem light_no {lll : List (List (List Int))} {k : Nat} (hk : k < lll.length) (h : 40 < lll[k].length ∨ ∃ j, ∃ hj : j < lll[k].length, 40 < lll[k][j].length) : lightB lll = false := by
  unfold lightB
  rw [List.all_eq_false]
  refine ⟨lll[k], List.getElem_mem hk, ?_⟩
  simp only [Bool.and_eq_true, decide_eq_true_eq, List.all_eq_true]
  rintro ⟨h1, h2⟩
  rcases h with h | ⟨j, hj, h⟩
  · omega
  · have := h2 _ (List.getElem_mem hj); omega

set_option maxRecDepth 100000 in
theorem law_light {F : Nat → Prop} {w : World} {v : Value} {lll : List (List (List Int))} (h : Rows3 F w v lll) : Calls Try.prog 5 #[v] w (Ret w (.bool (lightB lll))) := by
  obtain ⟨A, c, rfl, hc, hm⟩ := Sl.form h
  go_enter Try.func5, Try.ntmps5
  go_wp2
  go_loopg [9] lll.length (fun g v9 wr => ∃ k : Nat, k ≤ lll.length ∧ v9 = .int .i64 k ∧ g = lll.length - k ∧ (∀ i (_ : i < k) (h1 : i < lll.length), lll[i].length ≤ 40 ∧ ∀ l ∈ lll[i], l.length ≤ 40) ∧ ∃ nd, wr = w.drewN nd)
  case atStart => exact ⟨0, Nat.zero_le _, rfl, by omega, fun j hj => by omega, 0, rfl⟩
  case round =>
    obtain ⟨k, hk, rfl, hg, he, nd, rfl⟩ := hrel
    have HG := Lib.hid hg
    have HE := Lib.hid he
    clear hg he
    by_cases hlt : k < lll.length
    · obtain ⟨ad, A', c', rfl, hu, hr, _, _⟩ := h.row hlt
      have hno := light_no hlt
      generalize hx : lll[k] = ll at *
      have HX := Lib.hid hx
      have HNO := Lib.hid hno
      clear hx hno
      by_cases h40 : 40 < ll.length
      · have hf := HNO.out (.inl h40)
        have HF := Lib.hid hf
        clear hf
        go_wp2
        go_ret
        exact ⟨by rw [HF.out]; rfl, (by first | exact ⟨_, rfl⟩ | exact ⟨_, World.drewN_drewN ..⟩ | exact ⟨_, (World.drewN_drewN ..).trans (World.drewN_drewN ..)⟩)⟩
      · go_wp2
        go_loopg [18] ll.length (fun g v18 wr => ∃ j : Nat, j ≤ ll.length ∧ v18 = .int .i64 j ∧ g = ll.length - j ∧ (∀ i (_ : i < j) (h1 : i < ll.length), ll[i].length ≤ 40) ∧ ∃ nd, wr = w.drewN nd)
        case atStart => exact ⟨0, Nat.zero_le _, rfl, by omega, fun j hj => by omega, (by first | exact ⟨_, rfl⟩ | exact ⟨_, World.drewN_drewN ..⟩ | exact ⟨_, (World.drewN_drewN ..).trans (World.drewN_drewN ..)⟩)⟩
        case round =>
          obtain ⟨j, hj, rfl, hg, he, nd2, rfl⟩ := hrel
          have HG2 := Lib.hid hg
          have HE2 := Lib.hid he
          clear hg he
          by_cases hlt2 : j < ll.length
          · obtain ⟨ad2, A2, c2, rfl, hu2, _, _, _⟩ := hr.row hlt2
            generalize hy : ll[j].length = m at *
            have HY := Lib.hid hy
            clear hy
            by_cases h41 : 40 < m
            · have hf := HNO.out (.inr ⟨j, hlt2, by rw [HY.out]; exact h41⟩)
              have HF := Lib.hid hf
              clear hf
              go_wp2
              go_ret
              exact ⟨by rw [HF.out]; rfl, (by first | exact ⟨_, rfl⟩ | exact ⟨_, World.drewN_drewN ..⟩ | exact ⟨_, (World.drewN_drewN ..).trans (World.drewN_drewN ..)⟩)⟩
            · go_wp2
              go_roundg (ll.length - (j + 1))
              case rel => exact ⟨j + 1, by omega, by go_num, by omega, fun i hi hl => by
                rcases Nat.lt_or_ge i j with h | h
                · exact HE2.out i h hl
                · obtain rfl : i = j := by omega
                  rw [HY.out]; omega, (by first | exact ⟨_, rfl⟩ | exact ⟨_, World.drewN_drewN ..⟩ | exact ⟨_, (World.drewN_drewN ..).trans (World.drewN_drewN ..)⟩)⟩
              case measure => rw [HG2.out]; omega
          · obtain rfl : j = ll.length := by omega
            go_wp2
            go_roundg (lll.length - (k + 1))
            case rel => exact ⟨k + 1, by omega, by go_num, by omega, fun i hi hl => by
              rcases Nat.lt_or_ge i k with h | h
              · exact HE.out i h hl
              · obtain rfl : i = k := by omega
                rw [HX.out]
                refine ⟨by omega, fun l hl => ?_⟩
                obtain ⟨j, hj, rfl⟩ := List.getElem_of_mem hl
                exact HE2.out j hj hj, (by first | exact ⟨_, rfl⟩ | exact ⟨_, World.drewN_drewN ..⟩ | exact ⟨_, (World.drewN_drewN ..).trans (World.drewN_drewN ..)⟩)⟩
            case measure => rw [HG.out]; omega
    · obtain rfl : k = lll.length := by omega
      have hf : lightB lll = true := by
        unfold lightB
        rw [List.all_eq_true]
        intro ll hll
        obtain ⟨i, hi, rfl⟩ := List.getElem_of_mem hll
        obtain ⟨h1, h2⟩ := HE.out i hi hi
        simp only [Bool.and_eq_true, decide_eq_true_eq, List.all_eq_true]
        exact ⟨h1, h2⟩
      have HF := Lib.hid hf
      clear hf
      go_wp2
      go_ret
      exact ⟨by rw [HF.out]; rfl, (by first | exact ⟨_, rfl⟩ | exact ⟨_, World.drewN_drewN ..⟩ | exact ⟨_, (World.drewN_drewN ..).trans (World.drewN_drewN ..)⟩)⟩

/-- A head's numbers in order. -/
theorem law_head (h : Hd) (w : World) : Calls Try.prog 8 #[.agg (hdCells h)] w (fun e w' => e = .returned (.agg (hdCells h)) ∧ Below w.heap.size w w') := by
  unfold hdCells
  obtain ⟨kb, vb, tk, dm, ly, hd, ix⟩ := h
  dsimp only
  go_enter Try.func8, Try.ntmps8
  go_wp2
  exact bodyPost_ret (v := .agg #[.int .i64 kb, .int .i64 vb, .int .i64 tk, .int .i64 dm, .int .i64 ly, .int .i64 hd, .int .i64 ix]) (by simp [results, Try.results8, go_sem]) rfl ⟨rfl, ((Below.refl _ _).alloc (Nat.le_refl _) _).alloc (by simp) _⟩
end Go.Proofs.Ytkepgkjbhdgbiaa
