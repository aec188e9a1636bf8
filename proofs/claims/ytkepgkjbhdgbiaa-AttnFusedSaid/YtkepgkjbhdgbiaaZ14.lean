/- Contracts of functions of the program, and what they need (QOf, QRight). -/
import Derived.Test.YtkepgkjbhdgbiaaZ6
import Derived.Test.YtkepgkjbhdgbiaaZ13

namespace Go.Proofs.Ytkepgkjbhdgbiaa
open Go.RowKit

theorem group_many (n b : Nat) (h0 : 0 < n) (h : n ≤ 256) (hb : BitsN b) (w : World) : Calls Try.prog 58 #[.int .i64 n, .int .i64 b] w (Ret w (.int .i64 0)) := by
  have hB := fun W => bits_yes (b := (b : Int)) (by rcases hb with rfl | rfl | rfl <;> simp) W
  have hz : ((n : Int) == 0) = false := by simp; omega
  have HB := Lib.hid hB
  clear hB
  go_enter Try.func58, Try.ntmps58
  go_wp2_with (go_at_call 56; refine (HB.out _).mono ?_; rintro e w' ⟨rfl, nq, rfl⟩)
  go_ret
  exact ⟨rfl, (by first | exact ⟨_, rfl⟩ | exact ⟨_, World.drewN_drewN ..⟩ | exact ⟨_, (World.drewN_drewN ..).trans (World.drewN_drewN ..)⟩)⟩

/-- It returns a group. -/
def RetGr (w : World) (z sc : Int) (cs : List Int) (e : Ending) (w' : World) : Prop :=
  Below w.heap.size w w' ∧ ∃ cv, e = .returned (.tuple #[.agg #[.int .i32 z, .int .u32 sc, cv], .int .i64 0]) ∧ Sl (fun b => w.heap.size ≤ b) w' (IntV .i64) cv cs

set_option maxRecDepth 100000 in
set_option maxHeartbeats 2000000 in
theorem group_Of {F : Nat → Prop} {w : World} {v : Value} {l : List Int} (b : Nat) (hb : BitsN b) (h : Sl F w (IntV .i32) v l) (h0 : 0 < l.length) (hn : l.length ≤ 256) :
    Calls Try.prog 32 #[v, .int .i64 b] w (RetGr w (minL l) (gscaleI l b) (l.map (codeI l b))) := by
  obtain ⟨A, c, rfl, hc1, hm1⟩ := h.form
  have hin := h.inK
  obtain ⟨⟨a1, a2⟩, ⟨b1, b2⟩, hle⟩ := min_max h0 hin
  have hB1 : Below w.heap.size w (w.alloc (.cells #[.int .i32 0, .int .u32 0, .slice none 0 0] 79)) := (Below.refl _ _).alloc (Nat.le_refl _) _
  have hgm := fun W => group_many l.length b h0 hn hb W
  have hmin : ∀ n, Calls Try.prog 59 #[.slice A l.length c] ((w.alloc (.cells #[.int .i32 0, .int .u32 0, .slice none 0 0] 79)).drewN n) (Ret _ (.int .i32 (minL l))) := fun n => slices_Min32 (h.below (below_drewN hB1 n)) h0
  have hmax : ∀ n, Calls Try.prog 60 #[.slice A l.length c] ((w.alloc (.cells #[.int .i32 0, .int .u32 0, .slice none 0 0] 79)).drewN n) (Ret _ (.int .i32 (maxL l))) := fun n => slices_Max32 (h.below (below_drewN hB1 n)) h0
  have hmk := make_run 56 3 (.int .i64 0) 8 Try.underlying56 info_i64 rfl l.length (by omega) (by omega)
  have hscb := scale_bd hb h0 hin
  have hrt : ∀ x ∈ l, ∀ W, Calls Try.prog 47 #[.int .i64 (x - minL l), .int .i64 (gscaleI l b)] W (Ret W (.int .i64 (codeI l b x))) := by
    intro x hx W
    unfold codeI
    have i1 := minL_le hx
    have i2 := hin x hx
    obtain ⟨i3, i4⟩ := i2
    split
    · rename_i hs; exact fix_Ratio0 _ _ _ hs
    · exact fix_Ratio _ _ _ ⟨by omega, by omega⟩ (by omega) (by omega)
  obtain ⟨hsb1, hsb2, _, _⟩ := hscb
  have hscb := And.intro hsb1 hsb2
  clear hsb1 hsb2
  have HRT := Lib.hid hrt
  clear hrt
  have HGM := Lib.hid hgm
  have HMN := Lib.hid hmin
  have HMX := Lib.hid hmax
  have HIN := Lib.hid hin
  clear hgm hmin hmax hin
  rcases hb with rfl | rfl | rfl
  · have hsc : gscaleI l 2 = (maxL l - minL l + 3 - 1) / 3 := by unfold gscaleI stepsI; rfl
    rw [hsc] at hscb HRT
    generalize maxL l = mx at *
    generalize minL l = mn at *
    go_enter Try.func32, Try.ntmps32
    go_upto_region 7 with (first
      | (go_at_call 58; refine (HGM.out _).mono ?_; rintro e w' ⟨rfl, nq, rfl⟩)
      | (go_at_call 59; refine (HMN.out _).mono ?_; rintro e w' ⟨rfl, nq, rfl⟩)
      | (go_at_call 60; refine (HMX.out _).mono ?_; rintro e w' ⟨rfl, nq, rfl⟩))
    generalize hsg : (mx - mn + 3 - 1) / 3 = sc at *
    have HSC := Lib.hid hsc
    clear hsc hsg HGM HMN HMX
    obtain ⟨sc1, sc2⟩ := hscb
    go_wp2
    go_loopg [49] l.length (fun g v49 wr => ∃ k : Nat, k ≤ l.length ∧ v49 = .int .i64 k ∧ g = l.length - k ∧
      wr.heap[w.heap.size]? = some (.cells #[.int .i32 0, .int .u32 0, .slice none 0 0] 79 (0, 0)) ∧
      wr.heap[w.heap.size + 2]? = some (.cells #[.int .i32 mn, .int .u32 sc, .slice (some ⟨w.heap.size + 1, 0, none⟩) l.length l.length] 79 (0, 0)) ∧
      wr.ownsRow (w.heap.size + 1) 3 1 (.slice (some ⟨w.heap.size + 1, 0, none⟩) l.length l.length) l.length (nums .i64 ((l.take k).map (codeI l 2) ++ List.replicate (l.length - k) 0)) ∧ Below w.heap.size w wr)
    case atStart =>
      refine ⟨0, Nat.zero_le _, rfl, by omega, ?_, ?_, ?_, ?_⟩
      · exact blk_old (blk_old (blk_drewN (blk_new rfl)))
      · exact blk_new (by simp)
      · have hm := fun n => own_made ((w.alloc (.cells #[.int .i32 0, .int .u32 0, .slice none 0 0] 79)).drewN n) (w.heap.size + 1) 3 (.int .i64 0) l.length (by simp) (by omega)
        have hm2 := fun n o => (hm n).alloc o
        simpa [← nums_repl] using hm2 _ _
      · exact ((below_drewN hB1 _).alloc (by simp) _).alloc (by simp; omega) _
    case round =>
      obtain ⟨k, hk, rfl, hg, hbk0, hbk2, HO, HBx⟩ := hrel
      have HG := Lib.hid hg
      clear hg
      by_cases hlt : k < l.length
      · obtain ⟨ad, u, rfl, _, hu, rfl, hx1, hx2⟩ := (h.below HBx).at_ rfl hlt
        obtain ⟨hl2, hcell, hfz⟩ := own_get HO hlt
        obtain ⟨hx3, hx4⟩ : -2147483648 ≤ l[k] ∧ l[k] ≤ 2147483647 := ⟨hx1, hx2⟩
        obtain ⟨hc2, hf2, _⟩ := cells_of hbk2
        have hr := HRT.out _ (List.getElem_mem hlt)
        have hnew : nums .i64 ((l.take (k + 1)).map (codeI l 2) ++ List.replicate (l.length - (k + 1)) 0) = (nums .i64 ((l.take k).map (codeI l 2) ++ List.replicate (l.length - k) 0)).set k (.int .i64 (codeI l 2 l[k])) := by
          rw [nums_set, List.set_append_right _ _ (by simp; omega), show l.length - k = (l.length - (k + 1)) + 1 by omega, List.replicate_succ, take_succ_map _ _ hlt]
          simp
          rw [show k - min k l.length = 0 by omega]
          simp
        generalize codeI l 2 l[k] = cd at *
        generalize l[k] = x at *
        generalize (nums .i64 ((l.take k).map (codeI l 2) ++ List.replicate (l.length - k) 0))[k] = old at *
        have HNW := Lib.hid hnew
        have HR := Lib.hid hr
        have hcs := hc2 2
        simp only [List.getElem?_toArray, List.getElem?_cons_succ, List.getElem?_cons_zero] at hcs
        clear hnew hr hl2 hc2 hf2
        have q1 : IntKind.i64.wrap (x - mn) = x - mn := IntWalk.i64_in _ (by omega)
        have q0 : IntKind.i64.wrap x = x := IntWalk.i64_in _ (by omega)
        have Q := Lib.hid (And.intro q0 q1)
        clear q0 q1
        go_upto_region 11 with fail
        obtain ⟨q0, q1⟩ := Q.out
        refine AnyX.begin (z := 10) (S := (fun W : World => W.cell? ⟨w.heap.size + 2, 2, none⟩ = some (.slice (some ⟨w.heap.size + 1, 0, none⟩) l.length l.length) ∧ W.cell? ⟨w.heap.size + 1, k, none⟩ = some old ∧ W.frozen? ⟨w.heap.size + 1, k, none⟩ = false)) (by kernel_rfl) ?_
        have hS0 : (fun W : World => W.cell? ⟨w.heap.size + 2, 2, none⟩ = some (.slice (some ⟨w.heap.size + 1, 0, none⟩) l.length l.length) ∧ W.cell? ⟨w.heap.size + 1, k, none⟩ = some old ∧ W.frozen? ⟨w.heap.size + 1, k, none⟩ = false) { wr with drawn := wr.drawn + 1 } := ⟨hcs, hcell, hfz⟩
        (refine AnyX.take' (i := 0) (v := ?v0q2) (some 54) rfl rfl (by kernel_rfl) (by kernel_rfl) (by kernel_rfl) (by kernel_rfl) (waits (k := 0) (r := []) (by kernel_rfl) rfl rfl) (fun _ _ _ h => h) (Or.inl ⟨by rfl, ?hy0q2⟩) hS0 ?rest0q2; (case hy0q2 => (intro w hSw; (try dsimp only at hSw); go_simp; try with_reducible rfl)); simp only [Act.put, List.setIfInBounds_toArray, List.set_cons_zero, List.set_cons_succ])
        (refine AnyX.take' (i := 1) (v := ?v1q2) (some 55) rfl rfl (by kernel_rfl) (by kernel_rfl) (by kernel_rfl) (by kernel_rfl) (waits (k := 1) (r := []) (by kernel_rfl) rfl rfl) (fun _ _ _ h => h) (Or.inl ⟨by rfl, ?hy1q2⟩) hS0 ?rest1q2; (case hy1q2 => (intro w hSw; (try dsimp only at hSw); go_simp; try with_reducible rfl)); simp only [Act.put, List.setIfInBounds_toArray, List.set_cons_zero, List.set_cons_succ])
        (refine AnyX.take' (i := 2) (v := ?v2q2) (some 56) rfl rfl (by kernel_rfl) (by kernel_rfl) (by kernel_rfl) (by kernel_rfl) (waits (k := 2) (r := []) (by kernel_rfl) rfl rfl) (fun _ _ _ h => h) (Or.inl ⟨by rfl, ?hy2q2⟩) hS0 ?rest2q2; (case hy2q2 => (intro w hSw; (try dsimp only at hSw); go_simp; try with_reducible rfl)); simp only [Act.put, List.setIfInBounds_toArray, List.set_cons_zero, List.set_cons_succ])
        (refine AnyX.take' (i := 3) (v := ?v3q2) (some 57) rfl rfl (by kernel_rfl) (by kernel_rfl) (by kernel_rfl) (by kernel_rfl) (waits (k := 3) (r := []) (by kernel_rfl) rfl rfl) (fun _ _ _ h => h) (Or.inl ⟨by rfl, ?hy3q2⟩) hS0 ?rest3q2; (case hy3q2 => (intro w hSw; (try dsimp only at hSw); go_simp; try with_reducible rfl)); simp only [Act.put, List.setIfInBounds_toArray, List.set_cons_zero, List.set_cons_succ])
        (refine AnyX.take' (i := 4) (v := ?v4q2) (some 58) rfl rfl (by kernel_rfl) (by kernel_rfl) (by kernel_rfl) (by kernel_rfl) (waits (k := 4) (r := []) (by kernel_rfl) rfl rfl) (fun _ _ _ h => h) (Or.inl ⟨by rfl, ?hy4q2⟩) hS0 ?rest4q2; (case hy4q2 => (intro w hSw; (try dsimp only at hSw); go_simp; try with_reducible rfl)); simp only [Act.put, List.setIfInBounds_toArray, List.set_cons_zero, List.set_cons_succ])
        (refine AnyX.take' (i := 5) (v := ?v5q2) (some 59) rfl rfl (by kernel_rfl) (by kernel_rfl) (by kernel_rfl) (by kernel_rfl) (waits (k := 5) (r := []) (by kernel_rfl) rfl rfl) (fun _ _ _ h => h) (Or.inl ⟨by rfl, ?hy5q2⟩) hS0 ?rest5q2; (case hy5q2 => (intro w hSw; (try dsimp only at hSw); go_simp; try with_reducible rfl)); simp only [Act.put, List.setIfInBounds_toArray, List.set_cons_zero, List.set_cons_succ])
        (refine AnyX.take' (i := 6) (v := ?v6q2) (some 60) rfl rfl (by kernel_rfl) (by kernel_rfl) (by kernel_rfl) (by kernel_rfl) (waits (k := 6) (r := []) (by kernel_rfl) rfl rfl) (fun _ _ _ h => h) (Or.inl ⟨by rfl, ?hy6q2⟩) hS0 ?rest6q2; (case hy6q2 => (intro w hSw; (try dsimp only at hSw); go_simp; try with_reducible rfl)); simp only [Act.put, List.setIfInBounds_toArray, List.set_cons_zero, List.set_cons_succ])
        (refine AnyX.take' (i := 7) (v := ?v7q2) (some 61) rfl rfl (by kernel_rfl) (by kernel_rfl) (by kernel_rfl) (by kernel_rfl) (waits (k := 7) (r := []) (by kernel_rfl) rfl rfl) (fun _ _ _ h => h) (Or.inl ⟨by rfl, ?hy7q2⟩) hS0 ?rest7q2; (case hy7q2 => (intro w hSw; (try dsimp only at hSw); go_simp; try with_reducible rfl)); simp only [Act.put, List.setIfInBounds_toArray, List.set_cons_zero, List.set_cons_succ])
        refine AnyX.one (i := 8) (by kernel_rfl) rfl (fun K' hK => ?_)
        refine step_callG (R := fun v w' => v = .int .i64 cd ∧ ∃ n, w' = World.drewN { wr with drawn := wr.drawn + 1 } n) 47 #[.tmp 60, .tmp 61] #[2, 2] #[.int .i64 (x - mn), .int .i64 sc] rfl rfl rfl (by kernel_rfl) ((HR.out _).mono fun e w' h => ⟨_, h.1, rfl, h.2⟩) ?_
        rintro v w' ⟨rfl, nq, rfl⟩
        refine hK _ _ (.inr hS0) ?_
        simp only [Act.put, List.setIfInBounds_toArray, List.set_cons_zero, List.set_cons_succ]
        (refine AnyX.take' (i := 9) (v := ?v9q2) (some 63) rfl rfl (by kernel_rfl) (by kernel_rfl) (by kernel_rfl) (by kernel_rfl) (waits (k := 9) (r := []) (by kernel_rfl) rfl rfl) (fun _ _ _ h => h) (Or.inl ⟨by rfl, ?hy9q2⟩) hS0 ?rest9q2; (case hy9q2 => (intro w hSw; (try dsimp only at hSw); go_simp; try with_reducible rfl)); simp only [Act.put, List.setIfInBounds_toArray, List.set_cons_zero, List.set_cons_succ])
        obtain ⟨d1, d2, d3⟩ := hS0
        (refine AnyX.last (i := 10) (fuel := 0) (o := ?ooq2) ?gaq2 ?gbq2 ?gcq2 rfl ?gdq2; (case gbq2 => rfl); (case gaq2 => kernel_rfl); (case gcq2 => kernel_rfl); intro K' hK; go_simp; refine hK _ _ ?_)
        go_wp2_with fail
        go_roundg (l.length - (k + 1))
        case rel => exact ⟨k + 1, by omega, by go_num, by omega, blk_set (blk_drewN hbk0) (by simp), blk_set (blk_drewN hbk2) (by simp), by rw [HNW.out]; exact ((own_drewN HO _).stored k _).1, (below_drewN HBx _).setCell (p := ⟨w.heap.size + 1, k, none⟩) (by simp) _⟩
        case measure => rw [HG.out]; omega
      · obtain rfl : k = l.length := by omega
        rw [Nat.sub_self, List.replicate_zero, List.append_nil, List.take_length] at HO
        obtain ⟨hc0, hf0, _⟩ := cells_of hbk0
        obtain ⟨hc2, hf2, _⟩ := cells_of hbk2
        go_wp2
        have k1 := heap_setCell_same wr w.heap.size 0 _ _ (.int .i32 mn) hbk0
        have k2 := heap_setCell_same _ w.heap.size 1 _ _ (.int .u32 sc) k1
        have k3 := heap_setCell_same _ w.heap.size 2 _ _ (.slice (some ⟨w.heap.size + 1, 0, none⟩) l.length l.length) k2
        simp only [List.setIfInBounds_toArray, List.set_cons_zero, List.set_cons_succ] at k3
        obtain ⟨e3, _, _⟩ := cells_of k3
        have e30 := e3 0
        have e31 := e3 1
        have e32 := e3 2
        simp only [List.getElem?_toArray, List.getElem?_cons_succ, List.getElem?_cons_zero] at e30 e31 e32
        clear e3 hc0 hc2
        refine bodyPost_ret (v := .tuple #[.agg #[.int .i32 mn, .int .u32 sc, .slice (some ⟨w.heap.size + 1, 0, none⟩) l.length l.length], .int .i64 0]) (by simp [results, Try.results32, go_sem, e30, e31, e32]) rfl ⟨((HBx.setCell (p := ⟨w.heap.size, 0, none⟩) (Nat.le_refl _) _).setCell (p := ⟨w.heap.size, 1, none⟩) (Nat.le_refl _) _).setCell (p := ⟨w.heap.size, 2, none⟩) (Nat.le_refl _) _, _, by rw [HSC.out], ?_⟩
        refine (Sl.ints HO ?_).keep (fun b _ hb => ?_) (fun b _ h => by omega) (fun _ _ _ h => h)
        · intro x hx
          obtain ⟨y, hy, rfl⟩ := List.mem_map.1 hx
          have := code_bd (b := 2) (by unfold BitsN; omega) HIN.out hy
          have := steps_bd (b := 2) (by unfold BitsN; omega)
          exact ⟨by omega, by omega⟩
        · rw [Below.heap_setCell _ _ _ _ (by simp; omega), Below.heap_setCell _ _ _ _ (by simp; omega), Below.heap_setCell _ _ _ _ (by simp; omega)]
  · have hsc : gscaleI l 4 = (maxL l - minL l + 15 - 1) / 15 := by unfold gscaleI stepsI; rfl
    rw [hsc] at hscb HRT
    generalize maxL l = mx at *
    generalize minL l = mn at *
    go_enter Try.func32, Try.ntmps32
    go_upto_region 7 with (first
      | (go_at_call 58; refine (HGM.out _).mono ?_; rintro e w' ⟨rfl, nq, rfl⟩)
      | (go_at_call 59; refine (HMN.out _).mono ?_; rintro e w' ⟨rfl, nq, rfl⟩)
      | (go_at_call 60; refine (HMX.out _).mono ?_; rintro e w' ⟨rfl, nq, rfl⟩))
    generalize hsg : (mx - mn + 15 - 1) / 15 = sc at *
    have HSC := Lib.hid hsc
    clear hsc hsg HGM HMN HMX
    obtain ⟨sc1, sc2⟩ := hscb
    go_wp2
    go_loopg [49] l.length (fun g v49 wr => ∃ k : Nat, k ≤ l.length ∧ v49 = .int .i64 k ∧ g = l.length - k ∧
      wr.heap[w.heap.size]? = some (.cells #[.int .i32 0, .int .u32 0, .slice none 0 0] 79 (0, 0)) ∧
      wr.heap[w.heap.size + 2]? = some (.cells #[.int .i32 mn, .int .u32 sc, .slice (some ⟨w.heap.size + 1, 0, none⟩) l.length l.length] 79 (0, 0)) ∧
      wr.ownsRow (w.heap.size + 1) 3 1 (.slice (some ⟨w.heap.size + 1, 0, none⟩) l.length l.length) l.length (nums .i64 ((l.take k).map (codeI l 4) ++ List.replicate (l.length - k) 0)) ∧ Below w.heap.size w wr)
    case atStart =>
      refine ⟨0, Nat.zero_le _, rfl, by omega, ?_, ?_, ?_, ?_⟩
      · exact blk_old (blk_old (blk_drewN (blk_new rfl)))
      · exact blk_new (by simp)
      · have hm := fun n => own_made ((w.alloc (.cells #[.int .i32 0, .int .u32 0, .slice none 0 0] 79)).drewN n) (w.heap.size + 1) 3 (.int .i64 0) l.length (by simp) (by omega)
        have hm2 := fun n o => (hm n).alloc o
        simpa [← nums_repl] using hm2 _ _
      · exact ((below_drewN hB1 _).alloc (by simp) _).alloc (by simp; omega) _
    case round =>
      obtain ⟨k, hk, rfl, hg, hbk0, hbk2, HO, HBx⟩ := hrel
      have HG := Lib.hid hg
      clear hg
      by_cases hlt : k < l.length
      · obtain ⟨ad, u, rfl, _, hu, rfl, hx1, hx2⟩ := (h.below HBx).at_ rfl hlt
        obtain ⟨hl2, hcell, hfz⟩ := own_get HO hlt
        obtain ⟨hx3, hx4⟩ : -2147483648 ≤ l[k] ∧ l[k] ≤ 2147483647 := ⟨hx1, hx2⟩
        obtain ⟨hc2, hf2, _⟩ := cells_of hbk2
        have hr := HRT.out _ (List.getElem_mem hlt)
        have hnew : nums .i64 ((l.take (k + 1)).map (codeI l 4) ++ List.replicate (l.length - (k + 1)) 0) = (nums .i64 ((l.take k).map (codeI l 4) ++ List.replicate (l.length - k) 0)).set k (.int .i64 (codeI l 4 l[k])) := by
          rw [nums_set, List.set_append_right _ _ (by simp; omega), show l.length - k = (l.length - (k + 1)) + 1 by omega, List.replicate_succ, take_succ_map _ _ hlt]
          simp
          rw [show k - min k l.length = 0 by omega]
          simp
        generalize codeI l 4 l[k] = cd at *
        generalize l[k] = x at *
        generalize (nums .i64 ((l.take k).map (codeI l 4) ++ List.replicate (l.length - k) 0))[k] = old at *
        have HNW := Lib.hid hnew
        have HR := Lib.hid hr
        have hcs := hc2 2
        simp only [List.getElem?_toArray, List.getElem?_cons_succ, List.getElem?_cons_zero] at hcs
        clear hnew hr hl2 hc2 hf2
        have q1 : IntKind.i64.wrap (x - mn) = x - mn := IntWalk.i64_in _ (by omega)
        have q0 : IntKind.i64.wrap x = x := IntWalk.i64_in _ (by omega)
        have Q := Lib.hid (And.intro q0 q1)
        clear q0 q1
        go_upto_region 11 with fail
        obtain ⟨q0, q1⟩ := Q.out
        refine AnyX.begin (z := 10) (S := (fun W : World => W.cell? ⟨w.heap.size + 2, 2, none⟩ = some (.slice (some ⟨w.heap.size + 1, 0, none⟩) l.length l.length) ∧ W.cell? ⟨w.heap.size + 1, k, none⟩ = some old ∧ W.frozen? ⟨w.heap.size + 1, k, none⟩ = false)) (by kernel_rfl) ?_
        have hS0 : (fun W : World => W.cell? ⟨w.heap.size + 2, 2, none⟩ = some (.slice (some ⟨w.heap.size + 1, 0, none⟩) l.length l.length) ∧ W.cell? ⟨w.heap.size + 1, k, none⟩ = some old ∧ W.frozen? ⟨w.heap.size + 1, k, none⟩ = false) { wr with drawn := wr.drawn + 1 } := ⟨hcs, hcell, hfz⟩
        (refine AnyX.take' (i := 0) (v := ?v0q4) (some 54) rfl rfl (by kernel_rfl) (by kernel_rfl) (by kernel_rfl) (by kernel_rfl) (waits (k := 0) (r := []) (by kernel_rfl) rfl rfl) (fun _ _ _ h => h) (Or.inl ⟨by rfl, ?hy0q4⟩) hS0 ?rest0q4; (case hy0q4 => (intro w hSw; (try dsimp only at hSw); go_simp; try with_reducible rfl)); simp only [Act.put, List.setIfInBounds_toArray, List.set_cons_zero, List.set_cons_succ])
        (refine AnyX.take' (i := 1) (v := ?v1q4) (some 55) rfl rfl (by kernel_rfl) (by kernel_rfl) (by kernel_rfl) (by kernel_rfl) (waits (k := 1) (r := []) (by kernel_rfl) rfl rfl) (fun _ _ _ h => h) (Or.inl ⟨by rfl, ?hy1q4⟩) hS0 ?rest1q4; (case hy1q4 => (intro w hSw; (try dsimp only at hSw); go_simp; try with_reducible rfl)); simp only [Act.put, List.setIfInBounds_toArray, List.set_cons_zero, List.set_cons_succ])
        (refine AnyX.take' (i := 2) (v := ?v2q4) (some 56) rfl rfl (by kernel_rfl) (by kernel_rfl) (by kernel_rfl) (by kernel_rfl) (waits (k := 2) (r := []) (by kernel_rfl) rfl rfl) (fun _ _ _ h => h) (Or.inl ⟨by rfl, ?hy2q4⟩) hS0 ?rest2q4; (case hy2q4 => (intro w hSw; (try dsimp only at hSw); go_simp; try with_reducible rfl)); simp only [Act.put, List.setIfInBounds_toArray, List.set_cons_zero, List.set_cons_succ])
        (refine AnyX.take' (i := 3) (v := ?v3q4) (some 57) rfl rfl (by kernel_rfl) (by kernel_rfl) (by kernel_rfl) (by kernel_rfl) (waits (k := 3) (r := []) (by kernel_rfl) rfl rfl) (fun _ _ _ h => h) (Or.inl ⟨by rfl, ?hy3q4⟩) hS0 ?rest3q4; (case hy3q4 => (intro w hSw; (try dsimp only at hSw); go_simp; try with_reducible rfl)); simp only [Act.put, List.setIfInBounds_toArray, List.set_cons_zero, List.set_cons_succ])
        (refine AnyX.take' (i := 4) (v := ?v4q4) (some 58) rfl rfl (by kernel_rfl) (by kernel_rfl) (by kernel_rfl) (by kernel_rfl) (waits (k := 4) (r := []) (by kernel_rfl) rfl rfl) (fun _ _ _ h => h) (Or.inl ⟨by rfl, ?hy4q4⟩) hS0 ?rest4q4; (case hy4q4 => (intro w hSw; (try dsimp only at hSw); go_simp; try with_reducible rfl)); simp only [Act.put, List.setIfInBounds_toArray, List.set_cons_zero, List.set_cons_succ])
        (refine AnyX.take' (i := 5) (v := ?v5q4) (some 59) rfl rfl (by kernel_rfl) (by kernel_rfl) (by kernel_rfl) (by kernel_rfl) (waits (k := 5) (r := []) (by kernel_rfl) rfl rfl) (fun _ _ _ h => h) (Or.inl ⟨by rfl, ?hy5q4⟩) hS0 ?rest5q4; (case hy5q4 => (intro w hSw; (try dsimp only at hSw); go_simp; try with_reducible rfl)); simp only [Act.put, List.setIfInBounds_toArray, List.set_cons_zero, List.set_cons_succ])
        (refine AnyX.take' (i := 6) (v := ?v6q4) (some 60) rfl rfl (by kernel_rfl) (by kernel_rfl) (by kernel_rfl) (by kernel_rfl) (waits (k := 6) (r := []) (by kernel_rfl) rfl rfl) (fun _ _ _ h => h) (Or.inl ⟨by rfl, ?hy6q4⟩) hS0 ?rest6q4; (case hy6q4 => (intro w hSw; (try dsimp only at hSw); go_simp; try with_reducible rfl)); simp only [Act.put, List.setIfInBounds_toArray, List.set_cons_zero, List.set_cons_succ])
        (refine AnyX.take' (i := 7) (v := ?v7q4) (some 61) rfl rfl (by kernel_rfl) (by kernel_rfl) (by kernel_rfl) (by kernel_rfl) (waits (k := 7) (r := []) (by kernel_rfl) rfl rfl) (fun _ _ _ h => h) (Or.inl ⟨by rfl, ?hy7q4⟩) hS0 ?rest7q4; (case hy7q4 => (intro w hSw; (try dsimp only at hSw); go_simp; try with_reducible rfl)); simp only [Act.put, List.setIfInBounds_toArray, List.set_cons_zero, List.set_cons_succ])
        refine AnyX.one (i := 8) (by kernel_rfl) rfl (fun K' hK => ?_)
        refine step_callG (R := fun v w' => v = .int .i64 cd ∧ ∃ n, w' = World.drewN { wr with drawn := wr.drawn + 1 } n) 47 #[.tmp 60, .tmp 61] #[2, 2] #[.int .i64 (x - mn), .int .i64 sc] rfl rfl rfl (by kernel_rfl) ((HR.out _).mono fun e w' h => ⟨_, h.1, rfl, h.2⟩) ?_
        rintro v w' ⟨rfl, nq, rfl⟩
        refine hK _ _ (.inr hS0) ?_
        simp only [Act.put, List.setIfInBounds_toArray, List.set_cons_zero, List.set_cons_succ]
        (refine AnyX.take' (i := 9) (v := ?v9q4) (some 63) rfl rfl (by kernel_rfl) (by kernel_rfl) (by kernel_rfl) (by kernel_rfl) (waits (k := 9) (r := []) (by kernel_rfl) rfl rfl) (fun _ _ _ h => h) (Or.inl ⟨by rfl, ?hy9q4⟩) hS0 ?rest9q4; (case hy9q4 => (intro w hSw; (try dsimp only at hSw); go_simp; try with_reducible rfl)); simp only [Act.put, List.setIfInBounds_toArray, List.set_cons_zero, List.set_cons_succ])
        obtain ⟨d1, d2, d3⟩ := hS0
        (refine AnyX.last (i := 10) (fuel := 0) (o := ?ooq4) ?gaq4 ?gbq4 ?gcq4 rfl ?gdq4; (case gbq4 => rfl); (case gaq4 => kernel_rfl); (case gcq4 => kernel_rfl); intro K' hK; go_simp; refine hK _ _ ?_)
        go_wp2_with fail
        go_roundg (l.length - (k + 1))
        case rel => exact ⟨k + 1, by omega, by go_num, by omega, blk_set (blk_drewN hbk0) (by simp), blk_set (blk_drewN hbk2) (by simp), by rw [HNW.out]; exact ((own_drewN HO _).stored k _).1, (below_drewN HBx _).setCell (p := ⟨w.heap.size + 1, k, none⟩) (by simp) _⟩
        case measure => rw [HG.out]; omega
      · obtain rfl : k = l.length := by omega
        rw [Nat.sub_self, List.replicate_zero, List.append_nil, List.take_length] at HO
        obtain ⟨hc0, hf0, _⟩ := cells_of hbk0
        obtain ⟨hc2, hf2, _⟩ := cells_of hbk2
        go_wp2
        have k1 := heap_setCell_same wr w.heap.size 0 _ _ (.int .i32 mn) hbk0
        have k2 := heap_setCell_same _ w.heap.size 1 _ _ (.int .u32 sc) k1
        have k3 := heap_setCell_same _ w.heap.size 2 _ _ (.slice (some ⟨w.heap.size + 1, 0, none⟩) l.length l.length) k2
        simp only [List.setIfInBounds_toArray, List.set_cons_zero, List.set_cons_succ] at k3
        obtain ⟨e3, _, _⟩ := cells_of k3
        have e30 := e3 0
        have e31 := e3 1
        have e32 := e3 2
        simp only [List.getElem?_toArray, List.getElem?_cons_succ, List.getElem?_cons_zero] at e30 e31 e32
        clear e3 hc0 hc2
        refine bodyPost_ret (v := .tuple #[.agg #[.int .i32 mn, .int .u32 sc, .slice (some ⟨w.heap.size + 1, 0, none⟩) l.length l.length], .int .i64 0]) (by simp [results, Try.results32, go_sem, e30, e31, e32]) rfl ⟨((HBx.setCell (p := ⟨w.heap.size, 0, none⟩) (Nat.le_refl _) _).setCell (p := ⟨w.heap.size, 1, none⟩) (Nat.le_refl _) _).setCell (p := ⟨w.heap.size, 2, none⟩) (Nat.le_refl _) _, _, by rw [HSC.out], ?_⟩
        refine (Sl.ints HO ?_).keep (fun b _ hb => ?_) (fun b _ h => by omega) (fun _ _ _ h => h)
        · intro x hx
          obtain ⟨y, hy, rfl⟩ := List.mem_map.1 hx
          have := code_bd (b := 4) (by unfold BitsN; omega) HIN.out hy
          have := steps_bd (b := 4) (by unfold BitsN; omega)
          exact ⟨by omega, by omega⟩
        · rw [Below.heap_setCell _ _ _ _ (by simp; omega), Below.heap_setCell _ _ _ _ (by simp; omega), Below.heap_setCell _ _ _ _ (by simp; omega)]
  · have hsc : gscaleI l 8 = (maxL l - minL l + 255 - 1) / 255 := by unfold gscaleI stepsI; rfl
    rw [hsc] at hscb HRT
    generalize maxL l = mx at *
    generalize minL l = mn at *
    go_enter Try.func32, Try.ntmps32
    go_upto_region 7 with (first
      | (go_at_call 58; refine (HGM.out _).mono ?_; rintro e w' ⟨rfl, nq, rfl⟩)
      | (go_at_call 59; refine (HMN.out _).mono ?_; rintro e w' ⟨rfl, nq, rfl⟩)
      | (go_at_call 60; refine (HMX.out _).mono ?_; rintro e w' ⟨rfl, nq, rfl⟩))
    generalize hsg : (mx - mn + 255 - 1) / 255 = sc at *
    have HSC := Lib.hid hsc
    clear hsc hsg HGM HMN HMX
    obtain ⟨sc1, sc2⟩ := hscb
    go_wp2
    go_loopg [49] l.length (fun g v49 wr => ∃ k : Nat, k ≤ l.length ∧ v49 = .int .i64 k ∧ g = l.length - k ∧
      wr.heap[w.heap.size]? = some (.cells #[.int .i32 0, .int .u32 0, .slice none 0 0] 79 (0, 0)) ∧
      wr.heap[w.heap.size + 2]? = some (.cells #[.int .i32 mn, .int .u32 sc, .slice (some ⟨w.heap.size + 1, 0, none⟩) l.length l.length] 79 (0, 0)) ∧
      wr.ownsRow (w.heap.size + 1) 3 1 (.slice (some ⟨w.heap.size + 1, 0, none⟩) l.length l.length) l.length (nums .i64 ((l.take k).map (codeI l 8) ++ List.replicate (l.length - k) 0)) ∧ Below w.heap.size w wr)
    case atStart =>
      refine ⟨0, Nat.zero_le _, rfl, by omega, ?_, ?_, ?_, ?_⟩
      · exact blk_old (blk_old (blk_drewN (blk_new rfl)))
      · exact blk_new (by simp)
      · have hm := fun n => own_made ((w.alloc (.cells #[.int .i32 0, .int .u32 0, .slice none 0 0] 79)).drewN n) (w.heap.size + 1) 3 (.int .i64 0) l.length (by simp) (by omega)
        have hm2 := fun n o => (hm n).alloc o
        simpa [← nums_repl] using hm2 _ _
      · exact ((below_drewN hB1 _).alloc (by simp) _).alloc (by simp; omega) _
    case round =>
      obtain ⟨k, hk, rfl, hg, hbk0, hbk2, HO, HBx⟩ := hrel
      have HG := Lib.hid hg
      clear hg
      by_cases hlt : k < l.length
      · obtain ⟨ad, u, rfl, _, hu, rfl, hx1, hx2⟩ := (h.below HBx).at_ rfl hlt
        obtain ⟨hl2, hcell, hfz⟩ := own_get HO hlt
        obtain ⟨hx3, hx4⟩ : -2147483648 ≤ l[k] ∧ l[k] ≤ 2147483647 := ⟨hx1, hx2⟩
        obtain ⟨hc2, hf2, _⟩ := cells_of hbk2
        have hr := HRT.out _ (List.getElem_mem hlt)
        have hnew : nums .i64 ((l.take (k + 1)).map (codeI l 8) ++ List.replicate (l.length - (k + 1)) 0) = (nums .i64 ((l.take k).map (codeI l 8) ++ List.replicate (l.length - k) 0)).set k (.int .i64 (codeI l 8 l[k])) := by
          rw [nums_set, List.set_append_right _ _ (by simp; omega), show l.length - k = (l.length - (k + 1)) + 1 by omega, List.replicate_succ, take_succ_map _ _ hlt]
          simp
          rw [show k - min k l.length = 0 by omega]
          simp
        generalize codeI l 8 l[k] = cd at *
        generalize l[k] = x at *
        generalize (nums .i64 ((l.take k).map (codeI l 8) ++ List.replicate (l.length - k) 0))[k] = old at *
        have HNW := Lib.hid hnew
        have HR := Lib.hid hr
        have hcs := hc2 2
        simp only [List.getElem?_toArray, List.getElem?_cons_succ, List.getElem?_cons_zero] at hcs
        clear hnew hr hl2 hc2 hf2
        have q1 : IntKind.i64.wrap (x - mn) = x - mn := IntWalk.i64_in _ (by omega)
        have q0 : IntKind.i64.wrap x = x := IntWalk.i64_in _ (by omega)
        have Q := Lib.hid (And.intro q0 q1)
        clear q0 q1
        go_upto_region 11 with fail
        obtain ⟨q0, q1⟩ := Q.out
        refine AnyX.begin (z := 10) (S := (fun W : World => W.cell? ⟨w.heap.size + 2, 2, none⟩ = some (.slice (some ⟨w.heap.size + 1, 0, none⟩) l.length l.length) ∧ W.cell? ⟨w.heap.size + 1, k, none⟩ = some old ∧ W.frozen? ⟨w.heap.size + 1, k, none⟩ = false)) (by kernel_rfl) ?_
        have hS0 : (fun W : World => W.cell? ⟨w.heap.size + 2, 2, none⟩ = some (.slice (some ⟨w.heap.size + 1, 0, none⟩) l.length l.length) ∧ W.cell? ⟨w.heap.size + 1, k, none⟩ = some old ∧ W.frozen? ⟨w.heap.size + 1, k, none⟩ = false) { wr with drawn := wr.drawn + 1 } := ⟨hcs, hcell, hfz⟩
        (refine AnyX.take' (i := 0) (v := ?v0q8) (some 54) rfl rfl (by kernel_rfl) (by kernel_rfl) (by kernel_rfl) (by kernel_rfl) (waits (k := 0) (r := []) (by kernel_rfl) rfl rfl) (fun _ _ _ h => h) (Or.inl ⟨by rfl, ?hy0q8⟩) hS0 ?rest0q8; (case hy0q8 => (intro w hSw; (try dsimp only at hSw); go_simp; try with_reducible rfl)); simp only [Act.put, List.setIfInBounds_toArray, List.set_cons_zero, List.set_cons_succ])
        (refine AnyX.take' (i := 1) (v := ?v1q8) (some 55) rfl rfl (by kernel_rfl) (by kernel_rfl) (by kernel_rfl) (by kernel_rfl) (waits (k := 1) (r := []) (by kernel_rfl) rfl rfl) (fun _ _ _ h => h) (Or.inl ⟨by rfl, ?hy1q8⟩) hS0 ?rest1q8; (case hy1q8 => (intro w hSw; (try dsimp only at hSw); go_simp; try with_reducible rfl)); simp only [Act.put, List.setIfInBounds_toArray, List.set_cons_zero, List.set_cons_succ])
        (refine AnyX.take' (i := 2) (v := ?v2q8) (some 56) rfl rfl (by kernel_rfl) (by kernel_rfl) (by kernel_rfl) (by kernel_rfl) (waits (k := 2) (r := []) (by kernel_rfl) rfl rfl) (fun _ _ _ h => h) (Or.inl ⟨by rfl, ?hy2q8⟩) hS0 ?rest2q8; (case hy2q8 => (intro w hSw; (try dsimp only at hSw); go_simp; try with_reducible rfl)); simp only [Act.put, List.setIfInBounds_toArray, List.set_cons_zero, List.set_cons_succ])
        (refine AnyX.take' (i := 3) (v := ?v3q8) (some 57) rfl rfl (by kernel_rfl) (by kernel_rfl) (by kernel_rfl) (by kernel_rfl) (waits (k := 3) (r := []) (by kernel_rfl) rfl rfl) (fun _ _ _ h => h) (Or.inl ⟨by rfl, ?hy3q8⟩) hS0 ?rest3q8; (case hy3q8 => (intro w hSw; (try dsimp only at hSw); go_simp; try with_reducible rfl)); simp only [Act.put, List.setIfInBounds_toArray, List.set_cons_zero, List.set_cons_succ])
        (refine AnyX.take' (i := 4) (v := ?v4q8) (some 58) rfl rfl (by kernel_rfl) (by kernel_rfl) (by kernel_rfl) (by kernel_rfl) (waits (k := 4) (r := []) (by kernel_rfl) rfl rfl) (fun _ _ _ h => h) (Or.inl ⟨by rfl, ?hy4q8⟩) hS0 ?rest4q8; (case hy4q8 => (intro w hSw; (try dsimp only at hSw); go_simp; try with_reducible rfl)); simp only [Act.put, List.setIfInBounds_toArray, List.set_cons_zero, List.set_cons_succ])
        (refine AnyX.take' (i := 5) (v := ?v5q8) (some 59) rfl rfl (by kernel_rfl) (by kernel_rfl) (by kernel_rfl) (by kernel_rfl) (waits (k := 5) (r := []) (by kernel_rfl) rfl rfl) (fun _ _ _ h => h) (Or.inl ⟨by rfl, ?hy5q8⟩) hS0 ?rest5q8; (case hy5q8 => (intro w hSw; (try dsimp only at hSw); go_simp; try with_reducible rfl)); simp only [Act.put, List.setIfInBounds_toArray, List.set_cons_zero, List.set_cons_succ])
        (refine AnyX.take' (i := 6) (v := ?v6q8) (some 60) rfl rfl (by kernel_rfl) (by kernel_rfl) (by kernel_rfl) (by kernel_rfl) (waits (k := 6) (r := []) (by kernel_rfl) rfl rfl) (fun _ _ _ h => h) (Or.inl ⟨by rfl, ?hy6q8⟩) hS0 ?rest6q8; (case hy6q8 => (intro w hSw; (try dsimp only at hSw); go_simp; try with_reducible rfl)); simp only [Act.put, List.setIfInBounds_toArray, List.set_cons_zero, List.set_cons_succ])
        (refine AnyX.take' (i := 7) (v := ?v7q8) (some 61) rfl rfl (by kernel_rfl) (by kernel_rfl) (by kernel_rfl) (by kernel_rfl) (waits (k := 7) (r := []) (by kernel_rfl) rfl rfl) (fun _ _ _ h => h) (Or.inl ⟨by rfl, ?hy7q8⟩) hS0 ?rest7q8; (case hy7q8 => (intro w hSw; (try dsimp only at hSw); go_simp; try with_reducible rfl)); simp only [Act.put, List.setIfInBounds_toArray, List.set_cons_zero, List.set_cons_succ])
        refine AnyX.one (i := 8) (by kernel_rfl) rfl (fun K' hK => ?_)
        refine step_callG (R := fun v w' => v = .int .i64 cd ∧ ∃ n, w' = World.drewN { wr with drawn := wr.drawn + 1 } n) 47 #[.tmp 60, .tmp 61] #[2, 2] #[.int .i64 (x - mn), .int .i64 sc] rfl rfl rfl (by kernel_rfl) ((HR.out _).mono fun e w' h => ⟨_, h.1, rfl, h.2⟩) ?_
        rintro v w' ⟨rfl, nq, rfl⟩
        refine hK _ _ (.inr hS0) ?_
        simp only [Act.put, List.setIfInBounds_toArray, List.set_cons_zero, List.set_cons_succ]
        (refine AnyX.take' (i := 9) (v := ?v9q8) (some 63) rfl rfl (by kernel_rfl) (by kernel_rfl) (by kernel_rfl) (by kernel_rfl) (waits (k := 9) (r := []) (by kernel_rfl) rfl rfl) (fun _ _ _ h => h) (Or.inl ⟨by rfl, ?hy9q8⟩) hS0 ?rest9q8; (case hy9q8 => (intro w hSw; (try dsimp only at hSw); go_simp; try with_reducible rfl)); simp only [Act.put, List.setIfInBounds_toArray, List.set_cons_zero, List.set_cons_succ])
        obtain ⟨d1, d2, d3⟩ := hS0
        (refine AnyX.last (i := 10) (fuel := 0) (o := ?ooq8) ?gaq8 ?gbq8 ?gcq8 rfl ?gdq8; (case gbq8 => rfl); (case gaq8 => kernel_rfl); (case gcq8 => kernel_rfl); intro K' hK; go_simp; refine hK _ _ ?_)
        go_wp2_with fail
        go_roundg (l.length - (k + 1))
        case rel => exact ⟨k + 1, by omega, by go_num, by omega, blk_set (blk_drewN hbk0) (by simp), blk_set (blk_drewN hbk2) (by simp), by rw [HNW.out]; exact ((own_drewN HO _).stored k _).1, (below_drewN HBx _).setCell (p := ⟨w.heap.size + 1, k, none⟩) (by simp) _⟩
        case measure => rw [HG.out]; omega
      · obtain rfl : k = l.length := by omega
        rw [Nat.sub_self, List.replicate_zero, List.append_nil, List.take_length] at HO
        obtain ⟨hc0, hf0, _⟩ := cells_of hbk0
        obtain ⟨hc2, hf2, _⟩ := cells_of hbk2
        go_wp2
        have k1 := heap_setCell_same wr w.heap.size 0 _ _ (.int .i32 mn) hbk0
        have k2 := heap_setCell_same _ w.heap.size 1 _ _ (.int .u32 sc) k1
        have k3 := heap_setCell_same _ w.heap.size 2 _ _ (.slice (some ⟨w.heap.size + 1, 0, none⟩) l.length l.length) k2
        simp only [List.setIfInBounds_toArray, List.set_cons_zero, List.set_cons_succ] at k3
        obtain ⟨e3, _, _⟩ := cells_of k3
        have e30 := e3 0
        have e31 := e3 1
        have e32 := e3 2
        simp only [List.getElem?_toArray, List.getElem?_cons_succ, List.getElem?_cons_zero] at e30 e31 e32
        clear e3 hc0 hc2
        refine bodyPost_ret (v := .tuple #[.agg #[.int .i32 mn, .int .u32 sc, .slice (some ⟨w.heap.size + 1, 0, none⟩) l.length l.length], .int .i64 0]) (by simp [results, Try.results32, go_sem, e30, e31, e32]) rfl ⟨((HBx.setCell (p := ⟨w.heap.size, 0, none⟩) (Nat.le_refl _) _).setCell (p := ⟨w.heap.size, 1, none⟩) (Nat.le_refl _) _).setCell (p := ⟨w.heap.size, 2, none⟩) (Nat.le_refl _) _, _, by rw [HSC.out], ?_⟩
        refine (Sl.ints HO ?_).keep (fun b _ hb => ?_) (fun b _ h => by omega) (fun _ _ _ h => h)
        · intro x hx
          obtain ⟨y, hy, rfl⟩ := List.mem_map.1 hx
          have := code_bd (b := 8) (by unfold BitsN; omega) HIN.out hy
          have := steps_bd (b := 8) (by unfold BitsN; omega)
          exact ⟨by omega, by omega⟩
        · rw [Below.heap_setCell _ _ _ _ (by simp; omega), Below.heap_setCell _ _ _ _ (by simp; omega), Below.heap_setCell _ _ _ _ (by simp; omega)]
end Go.Proofs.Ytkepgkjbhdgbiaa

namespace Go.Proofs.Ytkepgkjbhdgbiaa
open Go.RowKit

/-- May a group be? -/
def GrOk (b : Nat) (sc : Int) (cs : List Int) : Prop := 0 ≤ sc ∧ sc ≤ 1431655765 ∧ 0 < cs.length ∧ cs.length ≤ 256 ∧ (sc = 0 → ∀ c ∈ cs, c = 0) ∧ ∀ c ∈ cs, 0 ≤ c ∧ c ≤ stepsI b

theorem in_any {b : Nat} {cs : List Int} (hc : ∀ c ∈ cs, 0 ≤ c ∧ c ≤ stepsI b) : cs.any (fun x => decide (x < 0) || decide (2 ^ b ≤ x)) = false := by
  rw [List.any_eq_false]
  intro x hx
  have := hc x hx
  have hs : stepsI b = 2 ^ b - 1 := rfl
  simp
  omega

set_option maxRecDepth 100000 in
theorem group_Right {F : Nat → Prop} {w : World} {v : Value} {cs : List Int} (b : Nat) (hb : BitsN b) (z sc : Int) (h : Sl F w (IntV .i64) v cs) (hg : GrOk b sc cs) :
    Calls Try.prog 77 #[.agg #[.int .i32 z, .int .u32 sc, v], .int .i64 b] w (fun e w' => e = .returned (.int .i64 0) ∧ Below w.heap.size w w') := by
  obtain ⟨A, c, rfl, hc1, hm1⟩ := h.form
  obtain ⟨s1, s2, n1, n2, hflat, hin⟩ := hg
  have hB2 : Below w.heap.size w ((w.alloc (.cells #[.int .i32 z, .int .u32 sc, .slice A cs.length c] 79)).alloc (.cells #[.int .i64 b] 3)) := ((Below.refl _ _).alloc (Nat.le_refl _) _).alloc (by simp) _
  have hgm := fun W => group_many cs.length b n1 n2 hb W
  have ha2 := fun n => group_any2 (w := ((w.alloc (.cells #[.int .i32 z, .int .u32 sc, .slice A cs.length c] 79)).alloc (.cells #[.int .i64 b] 3)).drewN n) b hb ⟨w.heap.size + 1, 0, none⟩ (by simp) (h.below (below_drewN hB2 n)) false (in_any hin)
  have hmf : ∀ (fn : Fn) (first cap : Array Value) (w : World), (Instr.makeFunc fn first cap).run Try.prog w = .ok (.func fn first cap) w := fun _ _ _ _ => rfl
  have HGM := Lib.hid hgm
  have HA2 := Lib.hid ha2
  clear hgm ha2
  by_cases hz : sc = 0
  · have ha1 := fun n => group_any1 (w := ((w.alloc (.cells #[.int .i32 z, .int .u32 sc, .slice A cs.length c] 79)).alloc (.cells #[.int .i64 b] 3)).drewN n) (h.below (below_drewN hB2 n)) false (by rw [List.any_eq_false]; intro x hx; simp [hflat hz x hx])
    have HA1 := Lib.hid ha1
    clear ha1 hflat hin
    subst hz
    go_enter Try.func77, Try.ntmps77
    go_wp2_with (first
      | (go_at_call 58; refine (HGM.out _).mono ?_; rintro e w' ⟨rfl, nq, rfl⟩)
      | (go_at_call 82; (with_reducible refine (HA1.out _).mono ?_); rintro e w' ⟨rfl, nq, rfl⟩)
      | (go_at_call 82; (with_reducible refine (HA2.out _).mono ?_); rintro e w' ⟨rfl, nq, rfl⟩))
    go_ret
    exact ⟨rfl, below_drewN hB2 _⟩
  · have hz' : (sc == 0) = false := by simpa using hz
    clear hflat hin hz
    go_enter Try.func77, Try.ntmps77
    go_wp2_with (first
      | (go_at_call 58; refine (HGM.out _).mono ?_; rintro e w' ⟨rfl, nq, rfl⟩)
      | (go_at_call 82; (with_reducible refine (HA2.out _).mono ?_); rintro e w' ⟨rfl, nq, rfl⟩))
    go_ret
    exact ⟨rfl, below_drewN hB2 _⟩
end Go.Proofs.Ytkepgkjbhdgbiaa
