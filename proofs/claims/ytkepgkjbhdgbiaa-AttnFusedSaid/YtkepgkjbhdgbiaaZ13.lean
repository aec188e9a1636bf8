/- Contracts of functions of the program, and what they need (QPack2). -/
import Derived.Test.YtkepgkjbhdgbiaaZ12

namespace Go.Proofs.Ytkepgkjbhdgbiaa
open Go.RowKit

theorem bits_or_comm (k : IntKind) (x y : Int) : bits .or k x y = bits .or k y x := by
  unfold bits
  simp only [BitVec.or_comm]
theorem or_u64 {x y : Int} {i : Nat} (hx0 : 0 ≤ x) (hx : x < 2 ^ i) (hi : i ≤ 63) (hy0 : 0 ≤ y) (hy : (y * 2 ^ i) ≤ 18446744073709551615) : bits .or .u64 x (y * 2 ^ i) = x + y * 2 ^ i := by
  have hp := pow2_pos i
  have h63 : (2 : Int) ^ i ≤ 2 ^ 63 := by exact_mod_cast Nat.pow_le_pow_right (by decide) hi
  rw [bits_or_comm, Int.add_comm]
  refine bits_join .u64 64 (by decide) (fun n h1 h2 => by simp [IntKind.wrap, IntKind.bits, IntKind.signed]; omega) i _ _ (Int.mul_nonneg hy0 (by omega)) (Int.mul_emod_left _ _) (by omega) hx0 hx (by omega)
theorem shift_le (b : Nat) {s : Nat} {x : Int} (hb : b ≤ 64) (hs : s ≤ 64 - b) (h0 : 0 ≤ x) (hx : x < 2 ^ b) : x * 2 ^ s ≤ 18446744073709551615 := by
  have hp := pow2_pos s
  have h1 : (x + 1) * 2 ^ s ≤ 2 ^ b * 2 ^ s := Int.mul_le_mul_of_nonneg_right (by omega) (by omega)
  have h2 : (2 : Int) ^ b * 2 ^ s ≤ 2 ^ 64 := by
    rw [← Int.pow_add]
    exact_mod_cast Nat.pow_le_pow_right (n := 2) (by decide) (show b + s ≤ 64 by omega)
  rw [Int.add_mul, Int.one_mul] at h1
  have e : (2 : Int) ^ 64 = 18446744073709551616 := by decide
  omega
theorem shl_run {P : Program} {x s v : Int} (n : Nat) (hs : s = n) (hn : n ≤ 64) (h : IntKind.u64.wrap (x * 2 ^ n) = v) (w : World) : Sem.run P (Op.shift .shl .u64 x .i64 s) w = .ok (.int .u64 v) w := by
  subst hs
  unfold Op.shift
  rw [if_neg (by omega)]
  have e : min (n : Int).toNat IntKind.u64.bits = n := by simp [IntKind.bits]; omega
  simp only [e, h]
  rfl
set_option maxRecDepth 100000 in
theorem pack_Pack {F : Nat → Prop} {w : World} {v : Value} {cs : List Int} (b : Nat) (hb : BitsN b) (h : Sl F w (IntV .i64) v cs) (hn : cs.length ≤ 256) (hc : ∀ c ∈ cs, 0 ≤ c ∧ c ≤ stepsI b) :
    Calls Try.prog 78 #[v, .int .i64 b] w (RetSlE w (fun _ => IntV .u64) (packL cs b)) := by
  obtain ⟨A, c, rfl, hc1, hm1⟩ := h.form
  have hB := fun W => bits_yes (b := (b : Int)) (by rcases hb with rfl | rfl | rfl <;> simp) W
  have hM := fun W => pack_many cs.length hn W
  have hW := fun W => pack_Words cs.length b hn hb W
  have hb1 : Below w.heap.size w (w.alloc (.cells #[.int .i64 b] 3)) := (Below.refl _ _).alloc (Nat.le_refl _) _
  have hany : cs.any (fun x => decide (x < 0) || decide (2 ^ b ≤ x)) = false := by
    rw [List.any_eq_false]
    intro x hx
    have := hc x hx
    have hs : stepsI b = 2 ^ b - 1 := rfl
    simp
    omega
  have hA := fun W (hW : Below w.heap.size w W) (hcl : W.cell? ⟨w.heap.size, 0, none⟩ = some (.int .i64 b)) => pack_any b hb ⟨w.heap.size, 0, none⟩ hcl (h.below hW) false hany
  have hws : wordsN cs.length b ≤ 32 := by unfold wordsN; rcases hb with rfl | rfl | rfl <;> omega
  have hmk := make_run 125 122 (.int .u64 0) 8 Try.underlying125 info_u64 rfl (wordsN cs.length b) (by omega) (by omega)
  have hmf : ∀ (fn : Fn) (first cap : Array Value) (w : World), (Instr.makeFunc fn first cap).run Try.prog w = .ok (.func fn first cap) w := fun _ _ _ _ => rfl
  have HB := Lib.hid hB
  have HM := Lib.hid hM
  have HW := Lib.hid hW
  have HA := Lib.hid hA
  have HC := Lib.hid hc
  have HBT := Lib.hid hb
  clear hB hM hW hA hany hc hb
  generalize hbb : (b : Int) = bi at *
  have HBB := Lib.hid hbb
  clear hbb
  go_enter Try.func78, Try.ntmps78
  go_upto_region 8 with (first
      | (go_at_call 56; refine (HB.out _).mono ?_; rintro e w' ⟨rfl, nq, rfl⟩)
      | (go_at_call 85; refine (HM.out _).mono ?_; rintro e w' ⟨rfl, nq, rfl⟩)
      | (go_at_call 87; refine (HW.out _).mono ?_; rintro e w' ⟨rfl, nq, rfl⟩)
      | (go_at_call 82; refine (HA.out _ (below_drewN hb1 _) (by simp)).mono ?_; rintro e w' ⟨rfl, nq, rfl⟩))
  clear hmk
  go_wp2
  go_loopg [30] cs.length (fun g v30 wr => ∃ k : Nat, k ≤ cs.length ∧ v30 = .int .i64 k ∧ g = cs.length - k ∧ wr.cell? ⟨w.heap.size, 0, none⟩ = some (.int .i64 bi) ∧
    wr.ownsRow (w.heap.size + 1) 122 1 (.slice (some ⟨w.heap.size + 1, 0, none⟩) (wordsN cs.length b) (wordsN cs.length b)) (wordsN cs.length b) (nums .u64 (packTo cs b k)) ∧ Below w.heap.size w wr)
  case atStart =>
    refine ⟨0, Nat.zero_le _, rfl, by omega, ?_, ?_, ?_⟩
    · exact cell_below ((Below.refl _ _).alloc (Nat.le_refl _) _) (by simp)
    · rw [packTo_zero, ← nums_repl]
      have hm := fun n => own_made ((w.alloc (.cells #[.int .i64 bi] 3)).drewN n) (w.heap.size + 1) 122 (.int .u64 0) (wordsN cs.length b) (by simp) (by omega)
      simpa using hm _
    · exact (below_drewN hb1 _).alloc (by simp) _
  case round =>
    obtain ⟨k, hk, rfl, hg, hbx, HO, HBx⟩ := hrel
    have HG := Lib.hid hg
    clear hg
    by_cases hlt : k < cs.length
    · obtain ⟨ad, u, rfl, _, hu, rfl, hx1, hx2⟩ := (h.below HBx).at_ rfl hlt
      have hcx := HC.out _ (List.getElem_mem hlt)
      have hb := HBT.out
      have hlw := word_lt hb hlt
      obtain ⟨hl2, hcell, hfz⟩ := own_get HO hlw
      obtain ⟨hws1, hws2, _⟩ := word_step hb HC.out hlt
      have hstep := packTo_step hb HC.out hlt
      obtain ⟨wd1, wd2⟩ := wordTo_bd (k := k) (j := k * b / 64) hb HC.out
      have hold : (nums .u64 (packTo cs b k))[k * b / 64]'hl2 = .int .u64 (wordTo cs b k (k * b / 64)) := by simp only [nums, List.getElem_map]; rw [packTo_get hlw]
      rw [hold] at hcell
      generalize wordTo cs b k (k * b / 64) = wd at *
      generalize cs[k] = x at *
      have HST := Lib.hid hstep
      have hsb := steps_bd hb
      clear hold hl2 hws1 hstep
      rcases hb with rfl | rfl | rfl
      · obtain rfl : bi = 2 := by have := HBB.out; omega
        obtain ⟨hc1', hc2'⟩ := hcx
        rw [show stepsI 2 = 3 by decide] at hc2'
        have hk256 : k < 256 := by omega
        have hsh : x * 2 ^ (k * 2 % 64) ≤ 18446744073709551615 := shift_le 2 (by decide) (by omega) hc1' (by omega)
        have hsh0 : 0 ≤ x * 2 ^ (k * 2 % 64) := Int.mul_nonneg hc1' (by have := pow2_pos (k * 2 % 64); omega)
        have hor := or_u64 wd1 hws2 (by omega) hc1' hsh
        clear hsb hx1 hx2 hws2
        have q1 : IntKind.i64.wrap (((k : Int) * 2).tdiv 64) = (k : Int) * 2 / 64 := by rw [Int.tdiv_eq_ediv_of_nonneg (by omega), IntWalk.i64_in _ (by omega)]
        have t1 : 0 ≤ (k : Int) * 2 / 64 := by omega
        have t2 : (k : Int) * 2 / 64 < (wordsN cs.length 2 : Nat) := by omega
        have t3 : ((k : Int) * 2 / 64).toNat = k * 2 / 64 := by omega
        have t7 : IntKind.u64.wrap x = x := by simp [IntKind.wrap, IntKind.bits, IntKind.signed]; omega
        have t8 : ∀ W : World, Sem.run Try.prog (Op.shift .shl .u64 x .i64 (((k : Int) * 2).tmod 64)) W = .ok (.int .u64 (x * 2 ^ (k * 2 % 64))) W := fun W => shl_run (k * 2 % 64) (by rw [Int.tmod_eq_emod_of_nonneg (by omega)]; omega) (by omega) (by
          have hne : x * 2 ^ (k * 2 % 64) < 18446744073709551616 := by omega
          simp [IntKind.wrap, IntKind.bits, IntKind.signed]; omega) W
        have Q := Lib.hid (And.intro q1 (And.intro hor (And.intro t3 (And.intro t7 t8))))
        clear q1 hor t3 t7 t8
        go_upto_region 12 with fail
        obtain ⟨q1, hor, t3, t7, t8⟩ := Q.out
        refine AnyX.begin (z := 12) (S := (fun W : World => W.cell? ⟨w.heap.size + 1, k * 2 / 64, none⟩ = some (.int .u64 wd) ∧ W.frozen? ⟨w.heap.size + 1, k * 2 / 64, none⟩ = false)) (by kernel_rfl) ?_
        have hS0 : (fun W : World => W.cell? ⟨w.heap.size + 1, k * 2 / 64, none⟩ = some (.int .u64 wd) ∧ W.frozen? ⟨w.heap.size + 1, k * 2 / 64, none⟩ = false) { wr with drawn := wr.drawn + 1 } := ⟨hcell, hfz⟩
        (refine AnyX.take' (i := 0) (v := ?v0a) (some 38) rfl rfl (by kernel_rfl) (by kernel_rfl) (by kernel_rfl) (by kernel_rfl) (waits (k := 0) (r := []) (by kernel_rfl) rfl rfl) (fun _ _ _ h => h) (Or.inl ⟨by rfl, ?hy0a⟩) hS0 ?rest0a; (case hy0a => (intro w hSw; (try dsimp only at hSw); go_simp; try with_reducible rfl)); simp only [Act.put, List.setIfInBounds_toArray, List.set_cons_zero, List.set_cons_succ])
        (refine AnyX.take' (i := 1) (v := ?v1a) (some 39) rfl rfl (by kernel_rfl) (by kernel_rfl) (by kernel_rfl) (by kernel_rfl) (waits (k := 1) (r := []) (by kernel_rfl) rfl rfl) (fun _ _ _ h => h) (Or.inl ⟨by rfl, ?hy1a⟩) hS0 ?rest1a; (case hy1a => (intro w hSw; (try dsimp only at hSw); go_simp; try with_reducible rfl)); simp only [Act.put, List.setIfInBounds_toArray, List.set_cons_zero, List.set_cons_succ])
        (refine AnyX.take' (i := 2) (v := ?v2a) (some 40) rfl rfl (by kernel_rfl) (by kernel_rfl) (by kernel_rfl) (by kernel_rfl) (waits (k := 2) (r := []) (by kernel_rfl) rfl rfl) (fun _ _ _ h => h) (Or.inl ⟨by rfl, ?hy2a⟩) hS0 ?rest2a; (case hy2a => (intro w hSw; (try dsimp only at hSw); go_simp; try with_reducible rfl)); simp only [Act.put, List.setIfInBounds_toArray, List.set_cons_zero, List.set_cons_succ])
        (refine AnyX.take' (i := 3) (v := ?v3a) (some 41) rfl rfl (by kernel_rfl) (by kernel_rfl) (by kernel_rfl) (by kernel_rfl) (waits (k := 3) (r := []) (by kernel_rfl) rfl rfl) (fun _ _ _ h => h) (Or.inl ⟨by rfl, ?hy3a⟩) hS0 ?rest3a; (case hy3a => (intro w hSw; (try dsimp only at hSw); go_simp; try with_reducible rfl)); simp only [Act.put, List.setIfInBounds_toArray, List.set_cons_zero, List.set_cons_succ])
        (refine AnyX.take' (i := 4) (v := ?v4a) (some 42) rfl rfl (by kernel_rfl) (by kernel_rfl) (by kernel_rfl) (by kernel_rfl) (waits (k := 4) (r := []) (by kernel_rfl) rfl rfl) (fun _ _ _ h => h) (Or.inl ⟨by rfl, ?hy4a⟩) hS0 ?rest4a; (case hy4a => (intro w hSw; (try dsimp only at hSw); go_simp; try with_reducible rfl)); simp only [Act.put, List.setIfInBounds_toArray, List.set_cons_zero, List.set_cons_succ])
        (refine AnyX.take' (i := 5) (v := ?v5a) (some 43) rfl rfl (by kernel_rfl) (by kernel_rfl) (by kernel_rfl) (by kernel_rfl) (waits (k := 5) (r := []) (by kernel_rfl) rfl rfl) (fun _ _ _ h => h) (Or.inl ⟨by rfl, ?hy5a⟩) hS0 ?rest5a; (case hy5a => (intro w hSw; (try dsimp only at hSw); go_simp; try with_reducible rfl)); simp only [Act.put, List.setIfInBounds_toArray, List.set_cons_zero, List.set_cons_succ])
        (refine AnyX.take' (i := 6) (v := ?v6a) (some 44) rfl rfl (by kernel_rfl) (by kernel_rfl) (by kernel_rfl) (by kernel_rfl) (waits (k := 6) (r := []) (by kernel_rfl) rfl rfl) (fun _ _ _ h => h) (Or.inl ⟨by rfl, ?hy6a⟩) hS0 ?rest6a; (case hy6a => (intro w hSw; (try dsimp only at hSw); go_simp; try with_reducible rfl)); simp only [Act.put, List.setIfInBounds_toArray, List.set_cons_zero, List.set_cons_succ])
        (refine AnyX.take' (i := 7) (v := ?v7a) (some 45) rfl rfl (by kernel_rfl) (by kernel_rfl) (by kernel_rfl) (by kernel_rfl) (waits (k := 7) (r := []) (by kernel_rfl) rfl rfl) (fun _ _ _ h => h) (Or.inl ⟨by rfl, ?hy7a⟩) hS0 ?rest7a; (case hy7a => (intro w hSw; (try dsimp only at hSw); go_simp; try with_reducible rfl)); simp only [Act.put, List.setIfInBounds_toArray, List.set_cons_zero, List.set_cons_succ])
        (refine AnyX.take' (i := 8) (v := ?v8a) (some 46) rfl rfl (by kernel_rfl) (by kernel_rfl) (by kernel_rfl) (by kernel_rfl) (waits (k := 8) (r := []) (by kernel_rfl) rfl rfl) (fun _ _ _ h => h) (Or.inl ⟨by rfl, ?hy8a⟩) hS0 ?rest8a; (case hy8a => (intro w hSw; (try dsimp only at hSw); go_simp; try with_reducible rfl)); simp only [Act.put, List.setIfInBounds_toArray, List.set_cons_zero, List.set_cons_succ])
        (refine AnyX.take' (i := 9) (v := ?v9a) (some 47) rfl rfl (by kernel_rfl) (by kernel_rfl) (by kernel_rfl) (by kernel_rfl) (waits (k := 9) (r := []) (by kernel_rfl) rfl rfl) (fun _ _ _ h => h) (Or.inl ⟨by rfl, ?hy9a⟩) hS0 ?rest9a; (case hy9a => (intro w hSw; (try dsimp only at hSw); go_simp; try with_reducible rfl)); simp only [Act.put, List.setIfInBounds_toArray, List.set_cons_zero, List.set_cons_succ])
        (refine AnyX.take' (i := 10) (v := ?v10a) (some 48) rfl rfl (by kernel_rfl) (by kernel_rfl) (by kernel_rfl) (by kernel_rfl) (waits (k := 10) (r := []) (by kernel_rfl) rfl rfl) (fun _ _ _ h => h) (Or.inl ⟨by rfl, ?hy10a⟩) hS0 ?rest10a; (case hy10a => (intro w hSw; (try dsimp only at hSw); go_simp; try with_reducible rfl)); simp only [Act.put, List.setIfInBounds_toArray, List.set_cons_zero, List.set_cons_succ])
        (refine AnyX.take' (i := 11) (v := ?v11a) (some 49) rfl rfl (by kernel_rfl) (by kernel_rfl) (by kernel_rfl) (by kernel_rfl) (waits (k := 11) (r := []) (by kernel_rfl) rfl rfl) (fun _ _ _ h => h) (Or.inl ⟨by rfl, ?hy11a⟩) hS0 ?rest11a; (case hy11a => (intro w hSw; (try dsimp only at hSw); go_simp; try with_reducible rfl)); simp only [Act.put, List.setIfInBounds_toArray, List.set_cons_zero, List.set_cons_succ])
        obtain ⟨d1, d2⟩ := hS0
        (refine AnyX.last (i := 12) (fuel := 0) (o := ?ooa) ?gaa ?gba ?gca rfl ?gda; (case gba => rfl); (case gaa => kernel_rfl); (case gca => kernel_rfl); intro K' hK; go_simp; refine hK _ _ ?_)
        go_wp2_with fail
        go_roundg (cs.length - (k + 1))
        case rel => exact ⟨k + 1, by omega, by go_num, by omega, (World.cell?_setCell_far wr _ _ _ (by simp)).trans hbx, by rw [HST.out, ← nums_set]; exact (HO.drew.stored (k * 2 / 64) _).1, (HBx.drew).setCell (p := ⟨w.heap.size + 1, k * 2 / 64, none⟩) (by simp) _⟩
        case measure => rw [HG.out]; omega
      · obtain rfl : bi = 4 := by have := HBB.out; omega
        obtain ⟨hc1', hc2'⟩ := hcx
        rw [show stepsI 4 = 15 by decide] at hc2'
        have hk256 : k < 256 := by omega
        have hsh : x * 2 ^ (k * 4 % 64) ≤ 18446744073709551615 := shift_le 4 (by decide) (by omega) hc1' (by omega)
        have hsh0 : 0 ≤ x * 2 ^ (k * 4 % 64) := Int.mul_nonneg hc1' (by have := pow2_pos (k * 4 % 64); omega)
        have hor := or_u64 wd1 hws2 (by omega) hc1' hsh
        clear hsb hx1 hx2 hws2
        have q1 : IntKind.i64.wrap (((k : Int) * 4).tdiv 64) = (k : Int) * 4 / 64 := by rw [Int.tdiv_eq_ediv_of_nonneg (by omega), IntWalk.i64_in _ (by omega)]
        have t1 : 0 ≤ (k : Int) * 4 / 64 := by omega
        have t2 : (k : Int) * 4 / 64 < (wordsN cs.length 4 : Nat) := by omega
        have t3 : ((k : Int) * 4 / 64).toNat = k * 4 / 64 := by omega
        have t7 : IntKind.u64.wrap x = x := by simp [IntKind.wrap, IntKind.bits, IntKind.signed]; omega
        have t8 : ∀ W : World, Sem.run Try.prog (Op.shift .shl .u64 x .i64 (((k : Int) * 4).tmod 64)) W = .ok (.int .u64 (x * 2 ^ (k * 4 % 64))) W := fun W => shl_run (k * 4 % 64) (by rw [Int.tmod_eq_emod_of_nonneg (by omega)]; omega) (by omega) (by
          have hne : x * 2 ^ (k * 4 % 64) < 18446744073709551616 := by omega
          simp [IntKind.wrap, IntKind.bits, IntKind.signed]; omega) W
        have Q := Lib.hid (And.intro q1 (And.intro hor (And.intro t3 (And.intro t7 t8))))
        clear q1 hor t3 t7 t8
        go_upto_region 12 with fail
        obtain ⟨q1, hor, t3, t7, t8⟩ := Q.out
        refine AnyX.begin (z := 12) (S := (fun W : World => W.cell? ⟨w.heap.size + 1, k * 4 / 64, none⟩ = some (.int .u64 wd) ∧ W.frozen? ⟨w.heap.size + 1, k * 4 / 64, none⟩ = false)) (by kernel_rfl) ?_
        have hS0 : (fun W : World => W.cell? ⟨w.heap.size + 1, k * 4 / 64, none⟩ = some (.int .u64 wd) ∧ W.frozen? ⟨w.heap.size + 1, k * 4 / 64, none⟩ = false) { wr with drawn := wr.drawn + 1 } := ⟨hcell, hfz⟩
        (refine AnyX.take' (i := 0) (v := ?v0b) (some 38) rfl rfl (by kernel_rfl) (by kernel_rfl) (by kernel_rfl) (by kernel_rfl) (waits (k := 0) (r := []) (by kernel_rfl) rfl rfl) (fun _ _ _ h => h) (Or.inl ⟨by rfl, ?hy0b⟩) hS0 ?rest0b; (case hy0b => (intro w hSw; (try dsimp only at hSw); go_simp; try with_reducible rfl)); simp only [Act.put, List.setIfInBounds_toArray, List.set_cons_zero, List.set_cons_succ])
        (refine AnyX.take' (i := 1) (v := ?v1b) (some 39) rfl rfl (by kernel_rfl) (by kernel_rfl) (by kernel_rfl) (by kernel_rfl) (waits (k := 1) (r := []) (by kernel_rfl) rfl rfl) (fun _ _ _ h => h) (Or.inl ⟨by rfl, ?hy1b⟩) hS0 ?rest1b; (case hy1b => (intro w hSw; (try dsimp only at hSw); go_simp; try with_reducible rfl)); simp only [Act.put, List.setIfInBounds_toArray, List.set_cons_zero, List.set_cons_succ])
        (refine AnyX.take' (i := 2) (v := ?v2b) (some 40) rfl rfl (by kernel_rfl) (by kernel_rfl) (by kernel_rfl) (by kernel_rfl) (waits (k := 2) (r := []) (by kernel_rfl) rfl rfl) (fun _ _ _ h => h) (Or.inl ⟨by rfl, ?hy2b⟩) hS0 ?rest2b; (case hy2b => (intro w hSw; (try dsimp only at hSw); go_simp; try with_reducible rfl)); simp only [Act.put, List.setIfInBounds_toArray, List.set_cons_zero, List.set_cons_succ])
        (refine AnyX.take' (i := 3) (v := ?v3b) (some 41) rfl rfl (by kernel_rfl) (by kernel_rfl) (by kernel_rfl) (by kernel_rfl) (waits (k := 3) (r := []) (by kernel_rfl) rfl rfl) (fun _ _ _ h => h) (Or.inl ⟨by rfl, ?hy3b⟩) hS0 ?rest3b; (case hy3b => (intro w hSw; (try dsimp only at hSw); go_simp; try with_reducible rfl)); simp only [Act.put, List.setIfInBounds_toArray, List.set_cons_zero, List.set_cons_succ])
        (refine AnyX.take' (i := 4) (v := ?v4b) (some 42) rfl rfl (by kernel_rfl) (by kernel_rfl) (by kernel_rfl) (by kernel_rfl) (waits (k := 4) (r := []) (by kernel_rfl) rfl rfl) (fun _ _ _ h => h) (Or.inl ⟨by rfl, ?hy4b⟩) hS0 ?rest4b; (case hy4b => (intro w hSw; (try dsimp only at hSw); go_simp; try with_reducible rfl)); simp only [Act.put, List.setIfInBounds_toArray, List.set_cons_zero, List.set_cons_succ])
        (refine AnyX.take' (i := 5) (v := ?v5b) (some 43) rfl rfl (by kernel_rfl) (by kernel_rfl) (by kernel_rfl) (by kernel_rfl) (waits (k := 5) (r := []) (by kernel_rfl) rfl rfl) (fun _ _ _ h => h) (Or.inl ⟨by rfl, ?hy5b⟩) hS0 ?rest5b; (case hy5b => (intro w hSw; (try dsimp only at hSw); go_simp; try with_reducible rfl)); simp only [Act.put, List.setIfInBounds_toArray, List.set_cons_zero, List.set_cons_succ])
        (refine AnyX.take' (i := 6) (v := ?v6b) (some 44) rfl rfl (by kernel_rfl) (by kernel_rfl) (by kernel_rfl) (by kernel_rfl) (waits (k := 6) (r := []) (by kernel_rfl) rfl rfl) (fun _ _ _ h => h) (Or.inl ⟨by rfl, ?hy6b⟩) hS0 ?rest6b; (case hy6b => (intro w hSw; (try dsimp only at hSw); go_simp; try with_reducible rfl)); simp only [Act.put, List.setIfInBounds_toArray, List.set_cons_zero, List.set_cons_succ])
        (refine AnyX.take' (i := 7) (v := ?v7b) (some 45) rfl rfl (by kernel_rfl) (by kernel_rfl) (by kernel_rfl) (by kernel_rfl) (waits (k := 7) (r := []) (by kernel_rfl) rfl rfl) (fun _ _ _ h => h) (Or.inl ⟨by rfl, ?hy7b⟩) hS0 ?rest7b; (case hy7b => (intro w hSw; (try dsimp only at hSw); go_simp; try with_reducible rfl)); simp only [Act.put, List.setIfInBounds_toArray, List.set_cons_zero, List.set_cons_succ])
        (refine AnyX.take' (i := 8) (v := ?v8b) (some 46) rfl rfl (by kernel_rfl) (by kernel_rfl) (by kernel_rfl) (by kernel_rfl) (waits (k := 8) (r := []) (by kernel_rfl) rfl rfl) (fun _ _ _ h => h) (Or.inl ⟨by rfl, ?hy8b⟩) hS0 ?rest8b; (case hy8b => (intro w hSw; (try dsimp only at hSw); go_simp; try with_reducible rfl)); simp only [Act.put, List.setIfInBounds_toArray, List.set_cons_zero, List.set_cons_succ])
        (refine AnyX.take' (i := 9) (v := ?v9b) (some 47) rfl rfl (by kernel_rfl) (by kernel_rfl) (by kernel_rfl) (by kernel_rfl) (waits (k := 9) (r := []) (by kernel_rfl) rfl rfl) (fun _ _ _ h => h) (Or.inl ⟨by rfl, ?hy9b⟩) hS0 ?rest9b; (case hy9b => (intro w hSw; (try dsimp only at hSw); go_simp; try with_reducible rfl)); simp only [Act.put, List.setIfInBounds_toArray, List.set_cons_zero, List.set_cons_succ])
        (refine AnyX.take' (i := 10) (v := ?v10b) (some 48) rfl rfl (by kernel_rfl) (by kernel_rfl) (by kernel_rfl) (by kernel_rfl) (waits (k := 10) (r := []) (by kernel_rfl) rfl rfl) (fun _ _ _ h => h) (Or.inl ⟨by rfl, ?hy10b⟩) hS0 ?rest10b; (case hy10b => (intro w hSw; (try dsimp only at hSw); go_simp; try with_reducible rfl)); simp only [Act.put, List.setIfInBounds_toArray, List.set_cons_zero, List.set_cons_succ])
        (refine AnyX.take' (i := 11) (v := ?v11b) (some 49) rfl rfl (by kernel_rfl) (by kernel_rfl) (by kernel_rfl) (by kernel_rfl) (waits (k := 11) (r := []) (by kernel_rfl) rfl rfl) (fun _ _ _ h => h) (Or.inl ⟨by rfl, ?hy11b⟩) hS0 ?rest11b; (case hy11b => (intro w hSw; (try dsimp only at hSw); go_simp; try with_reducible rfl)); simp only [Act.put, List.setIfInBounds_toArray, List.set_cons_zero, List.set_cons_succ])
        obtain ⟨d1, d2⟩ := hS0
        (refine AnyX.last (i := 12) (fuel := 0) (o := ?oob) ?gab ?gbb ?gcb rfl ?gdb; (case gbb => rfl); (case gab => kernel_rfl); (case gcb => kernel_rfl); intro K' hK; go_simp; refine hK _ _ ?_)
        go_wp2_with fail
        go_roundg (cs.length - (k + 1))
        case rel => exact ⟨k + 1, by omega, by go_num, by omega, (World.cell?_setCell_far wr _ _ _ (by simp)).trans hbx, by rw [HST.out, ← nums_set]; exact (HO.drew.stored (k * 4 / 64) _).1, (HBx.drew).setCell (p := ⟨w.heap.size + 1, k * 4 / 64, none⟩) (by simp) _⟩
        case measure => rw [HG.out]; omega
      · obtain rfl : bi = 8 := by have := HBB.out; omega
        obtain ⟨hc1', hc2'⟩ := hcx
        rw [show stepsI 8 = 255 by decide] at hc2'
        have hk256 : k < 256 := by omega
        have hsh : x * 2 ^ (k * 8 % 64) ≤ 18446744073709551615 := shift_le 8 (by decide) (by omega) hc1' (by omega)
        have hsh0 : 0 ≤ x * 2 ^ (k * 8 % 64) := Int.mul_nonneg hc1' (by have := pow2_pos (k * 8 % 64); omega)
        have hor := or_u64 wd1 hws2 (by omega) hc1' hsh
        clear hsb hx1 hx2 hws2
        have q1 : IntKind.i64.wrap (((k : Int) * 8).tdiv 64) = (k : Int) * 8 / 64 := by rw [Int.tdiv_eq_ediv_of_nonneg (by omega), IntWalk.i64_in _ (by omega)]
        have t1 : 0 ≤ (k : Int) * 8 / 64 := by omega
        have t2 : (k : Int) * 8 / 64 < (wordsN cs.length 8 : Nat) := by omega
        have t3 : ((k : Int) * 8 / 64).toNat = k * 8 / 64 := by omega
        have t7 : IntKind.u64.wrap x = x := by simp [IntKind.wrap, IntKind.bits, IntKind.signed]; omega
        have t8 : ∀ W : World, Sem.run Try.prog (Op.shift .shl .u64 x .i64 (((k : Int) * 8).tmod 64)) W = .ok (.int .u64 (x * 2 ^ (k * 8 % 64))) W := fun W => shl_run (k * 8 % 64) (by rw [Int.tmod_eq_emod_of_nonneg (by omega)]; omega) (by omega) (by
          have hne : x * 2 ^ (k * 8 % 64) < 18446744073709551616 := by omega
          simp [IntKind.wrap, IntKind.bits, IntKind.signed]; omega) W
        have Q := Lib.hid (And.intro q1 (And.intro hor (And.intro t3 (And.intro t7 t8))))
        clear q1 hor t3 t7 t8
        go_upto_region 12 with fail
        obtain ⟨q1, hor, t3, t7, t8⟩ := Q.out
        refine AnyX.begin (z := 12) (S := (fun W : World => W.cell? ⟨w.heap.size + 1, k * 8 / 64, none⟩ = some (.int .u64 wd) ∧ W.frozen? ⟨w.heap.size + 1, k * 8 / 64, none⟩ = false)) (by kernel_rfl) ?_
        have hS0 : (fun W : World => W.cell? ⟨w.heap.size + 1, k * 8 / 64, none⟩ = some (.int .u64 wd) ∧ W.frozen? ⟨w.heap.size + 1, k * 8 / 64, none⟩ = false) { wr with drawn := wr.drawn + 1 } := ⟨hcell, hfz⟩
        (refine AnyX.take' (i := 0) (v := ?v0c) (some 38) rfl rfl (by kernel_rfl) (by kernel_rfl) (by kernel_rfl) (by kernel_rfl) (waits (k := 0) (r := []) (by kernel_rfl) rfl rfl) (fun _ _ _ h => h) (Or.inl ⟨by rfl, ?hy0c⟩) hS0 ?rest0c; (case hy0c => (intro w hSw; (try dsimp only at hSw); go_simp; try with_reducible rfl)); simp only [Act.put, List.setIfInBounds_toArray, List.set_cons_zero, List.set_cons_succ])
        (refine AnyX.take' (i := 1) (v := ?v1c) (some 39) rfl rfl (by kernel_rfl) (by kernel_rfl) (by kernel_rfl) (by kernel_rfl) (waits (k := 1) (r := []) (by kernel_rfl) rfl rfl) (fun _ _ _ h => h) (Or.inl ⟨by rfl, ?hy1c⟩) hS0 ?rest1c; (case hy1c => (intro w hSw; (try dsimp only at hSw); go_simp; try with_reducible rfl)); simp only [Act.put, List.setIfInBounds_toArray, List.set_cons_zero, List.set_cons_succ])
        (refine AnyX.take' (i := 2) (v := ?v2c) (some 40) rfl rfl (by kernel_rfl) (by kernel_rfl) (by kernel_rfl) (by kernel_rfl) (waits (k := 2) (r := []) (by kernel_rfl) rfl rfl) (fun _ _ _ h => h) (Or.inl ⟨by rfl, ?hy2c⟩) hS0 ?rest2c; (case hy2c => (intro w hSw; (try dsimp only at hSw); go_simp; try with_reducible rfl)); simp only [Act.put, List.setIfInBounds_toArray, List.set_cons_zero, List.set_cons_succ])
        (refine AnyX.take' (i := 3) (v := ?v3c) (some 41) rfl rfl (by kernel_rfl) (by kernel_rfl) (by kernel_rfl) (by kernel_rfl) (waits (k := 3) (r := []) (by kernel_rfl) rfl rfl) (fun _ _ _ h => h) (Or.inl ⟨by rfl, ?hy3c⟩) hS0 ?rest3c; (case hy3c => (intro w hSw; (try dsimp only at hSw); go_simp; try with_reducible rfl)); simp only [Act.put, List.setIfInBounds_toArray, List.set_cons_zero, List.set_cons_succ])
        (refine AnyX.take' (i := 4) (v := ?v4c) (some 42) rfl rfl (by kernel_rfl) (by kernel_rfl) (by kernel_rfl) (by kernel_rfl) (waits (k := 4) (r := []) (by kernel_rfl) rfl rfl) (fun _ _ _ h => h) (Or.inl ⟨by rfl, ?hy4c⟩) hS0 ?rest4c; (case hy4c => (intro w hSw; (try dsimp only at hSw); go_simp; try with_reducible rfl)); simp only [Act.put, List.setIfInBounds_toArray, List.set_cons_zero, List.set_cons_succ])
        (refine AnyX.take' (i := 5) (v := ?v5c) (some 43) rfl rfl (by kernel_rfl) (by kernel_rfl) (by kernel_rfl) (by kernel_rfl) (waits (k := 5) (r := []) (by kernel_rfl) rfl rfl) (fun _ _ _ h => h) (Or.inl ⟨by rfl, ?hy5c⟩) hS0 ?rest5c; (case hy5c => (intro w hSw; (try dsimp only at hSw); go_simp; try with_reducible rfl)); simp only [Act.put, List.setIfInBounds_toArray, List.set_cons_zero, List.set_cons_succ])
        (refine AnyX.take' (i := 6) (v := ?v6c) (some 44) rfl rfl (by kernel_rfl) (by kernel_rfl) (by kernel_rfl) (by kernel_rfl) (waits (k := 6) (r := []) (by kernel_rfl) rfl rfl) (fun _ _ _ h => h) (Or.inl ⟨by rfl, ?hy6c⟩) hS0 ?rest6c; (case hy6c => (intro w hSw; (try dsimp only at hSw); go_simp; try with_reducible rfl)); simp only [Act.put, List.setIfInBounds_toArray, List.set_cons_zero, List.set_cons_succ])
        (refine AnyX.take' (i := 7) (v := ?v7c) (some 45) rfl rfl (by kernel_rfl) (by kernel_rfl) (by kernel_rfl) (by kernel_rfl) (waits (k := 7) (r := []) (by kernel_rfl) rfl rfl) (fun _ _ _ h => h) (Or.inl ⟨by rfl, ?hy7c⟩) hS0 ?rest7c; (case hy7c => (intro w hSw; (try dsimp only at hSw); go_simp; try with_reducible rfl)); simp only [Act.put, List.setIfInBounds_toArray, List.set_cons_zero, List.set_cons_succ])
        (refine AnyX.take' (i := 8) (v := ?v8c) (some 46) rfl rfl (by kernel_rfl) (by kernel_rfl) (by kernel_rfl) (by kernel_rfl) (waits (k := 8) (r := []) (by kernel_rfl) rfl rfl) (fun _ _ _ h => h) (Or.inl ⟨by rfl, ?hy8c⟩) hS0 ?rest8c; (case hy8c => (intro w hSw; (try dsimp only at hSw); go_simp; try with_reducible rfl)); simp only [Act.put, List.setIfInBounds_toArray, List.set_cons_zero, List.set_cons_succ])
        (refine AnyX.take' (i := 9) (v := ?v9c) (some 47) rfl rfl (by kernel_rfl) (by kernel_rfl) (by kernel_rfl) (by kernel_rfl) (waits (k := 9) (r := []) (by kernel_rfl) rfl rfl) (fun _ _ _ h => h) (Or.inl ⟨by rfl, ?hy9c⟩) hS0 ?rest9c; (case hy9c => (intro w hSw; (try dsimp only at hSw); go_simp; try with_reducible rfl)); simp only [Act.put, List.setIfInBounds_toArray, List.set_cons_zero, List.set_cons_succ])
        (refine AnyX.take' (i := 10) (v := ?v10c) (some 48) rfl rfl (by kernel_rfl) (by kernel_rfl) (by kernel_rfl) (by kernel_rfl) (waits (k := 10) (r := []) (by kernel_rfl) rfl rfl) (fun _ _ _ h => h) (Or.inl ⟨by rfl, ?hy10c⟩) hS0 ?rest10c; (case hy10c => (intro w hSw; (try dsimp only at hSw); go_simp; try with_reducible rfl)); simp only [Act.put, List.setIfInBounds_toArray, List.set_cons_zero, List.set_cons_succ])
        (refine AnyX.take' (i := 11) (v := ?v11c) (some 49) rfl rfl (by kernel_rfl) (by kernel_rfl) (by kernel_rfl) (by kernel_rfl) (waits (k := 11) (r := []) (by kernel_rfl) rfl rfl) (fun _ _ _ h => h) (Or.inl ⟨by rfl, ?hy11c⟩) hS0 ?rest11c; (case hy11c => (intro w hSw; (try dsimp only at hSw); go_simp; try with_reducible rfl)); simp only [Act.put, List.setIfInBounds_toArray, List.set_cons_zero, List.set_cons_succ])
        obtain ⟨d1, d2⟩ := hS0
        (refine AnyX.last (i := 12) (fuel := 0) (o := ?ooc) ?gac ?gbc ?gcc rfl ?gdc; (case gbc => rfl); (case gac => kernel_rfl); (case gcc => kernel_rfl); intro K' hK; go_simp; refine hK _ _ ?_)
        go_wp2_with fail
        go_roundg (cs.length - (k + 1))
        case rel => exact ⟨k + 1, by omega, by go_num, by omega, (World.cell?_setCell_far wr _ _ _ (by simp)).trans hbx, by rw [HST.out, ← nums_set]; exact (HO.drew.stored (k * 8 / 64) _).1, (HBx.drew).setCell (p := ⟨w.heap.size + 1, k * 8 / 64, none⟩) (by simp) _⟩
        case measure => rw [HG.out]; omega
    · obtain rfl : k = cs.length := by omega
      go_wp2
      go_ret2
      exact ⟨HBx, _, rfl, (Sl.ints HO (packL_in HBT.out HC.out)).keep (fun _ _ _ => rfl) (fun b _ h => by omega) (fun _ _ _ h => h)⟩
end Go.Proofs.Ytkepgkjbhdgbiaa
