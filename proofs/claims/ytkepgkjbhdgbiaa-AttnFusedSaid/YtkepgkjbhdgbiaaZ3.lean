/- Contracts of functions of the program, and what they need (Shelf, Root, Vec, Vec2). -/
import Derived.Shelf.Strconv.Itoa0
import Derived.Test.YtkepgkjbhdgbiaaProg
import Derived.Lib.ItoaNum
import Derived.Test.YtkepgkjbhdgbiaaZ2

namespace Go.Proofs
open Go.Shelf
def Try.lays129_ren : Go.Shelf.Ren := ⟨fun | 129 => 89 | n => n, fun | 53 => 122 | 3 => 3 | 4 => 4 | 46 => 117 | 5 => 5 | 9 => 9 | n => n, fun | n => n⟩
theorem Try.lays129 : Go.Proofs.Lays.n129 Try.prog Try.lays129_ren := {
  mixed := by kernel_rfl
  f129 := Try.func89.trans (congrArg some (by kernel_rfl))
  t3 := Try.underlying3
  a3 := Try.isAgg3
  z3 := Try.sizeOf3
  v3 := Try.zeroValue3
  t4 := Try.underlying4
  a4 := Try.isAgg4
  z4 := Try.sizeOf4
  v4 := Try.zeroValue4
  t5 := Try.underlying5
  a5 := Try.isAgg5
  z5 := Try.sizeOf5
  v5 := Try.zeroValue5
  t9 := Try.underlying9
  a9 := Try.isAgg9
  z9 := Try.sizeOf9
  v9 := Try.zeroValue9
  t46 := Try.underlying117
  a46 := Try.isAgg117
  z46 := Try.sizeOf117
  v46 := Try.zeroValue117
  t53 := Try.underlying122
  a53 := Try.isAgg122
  z53 := Try.sizeOf122
  v53 := Try.zeroValue122 }
/-- bits.Len64: "Len64 returns the minimum number of bits required to represent x; the result is 0 for x == 0.": IT RETURNS 'Lib.bitLen x'; the world is as it was. ('h0', 'h1': x is a uint64.) (LAID: no walk: one application.) -/
theorem Try.bits_Len64 (x : Int) (w : World) (h0 : 0 ≤ x) (h1 : x ≤ 18446744073709551615) :
    Calls Try.prog 89 #[.int .u64 x] w fun e w' => e = .returned (.int .i64 (Lib.bitLen x.toNat)) ∧ w' = w := Any.bits_Len64 Try.lays129 x w h0 h1
end Go.Proofs

namespace Go.Proofs.Ytkepgkjbhdgbiaa
open Go.RowKit

theorem len_spec (x : Nat) (h : x < 2 ^ 64) : Lib.bitLen x ≤ 64 ∧ x < 2 ^ Lib.bitLen x := by
  unfold Lib.bitLen
  rcases Nat.eq_zero_or_pos x with h0 | h0
  · subst h0
    rw [Lib.bitLenAux_zero]
    decide
  · obtain ⟨a, b, c⟩ := Lib.bitLenAux_bounds 64 x h (by omega)
    refine ⟨?_, c⟩
    rcases Nat.lt_or_ge 64 (Lib.bitLenAux 64 x) with h1 | h1
    · have := Nat.pow_le_pow_right (n := 2) (by decide) (show 64 ≤ Lib.bitLenAux 64 x - 1 by omega)
      omega
    · exact h1

theorem pow_int (k : Nat) : (2 : Int) ^ k = ((2 ^ k : Nat) : Int) := by simp

theorem expo_Root (v : Nat) (w : World) (hv : v ≤ 281474976710656) : Calls Try.prog 81 #[.int .u64 v] w (Ret w (.int .u64 (rootN v))) := by
  obtain ⟨l1, l2⟩ := len_spec v (by omega)
  have l3 : Lib.bitLen v ≤ 49 := by
    rcases Nat.lt_or_ge 49 (Lib.bitLen v) with h | h
    · have hx : v ≠ 0 := by
        rintro rfl
        simp [Lib.bitLen, Lib.bitLenAux_zero] at h
      obtain ⟨_, b, _⟩ := Lib.bitLenAux_bounds 64 v (by omega) hx
      have := Nat.pow_le_pow_right (n := 2) (by decide) (show 49 ≤ Lib.bitLenAux 64 v - 1 by unfold Lib.bitLen at h; omega)
      omega
    · exact h
  have hk : ∃ k : Nat, k ≤ 25 ∧ ((Lib.bitLen v : Int) - 1).tdiv 2 = (k : Int) - 1 ∧ v < 2 ^ (2 * k) := by
    rcases Nat.eq_zero_or_pos (Lib.bitLen v) with h | h
    · rw [h] at l2 ⊢
      exact ⟨1, by decide, by decide, by omega⟩
    · refine ⟨(Lib.bitLen v - 1) / 2 + 1, by omega, ?_, ?_⟩
      · rw [Int.tdiv_eq_ediv_of_nonneg (by omega)]; omega
      · exact Nat.lt_of_lt_of_le l2 (Nat.pow_le_pow_right (by decide) (by omega))
  obtain ⟨k0, hk1, hk2, hk3⟩ := hk
  have HK := Lib.hid hk2
  have HK3 := Lib.hid hk3
  clear hk2 l2 hk3
  go_enter Try.func81, Try.ntmps81
  go_upto_region 3 with (go_at_call 89; refine (Try.bits_Len64 _ _ (by omega) (by omega)).mono ?_; rintro e w' ⟨rfl, rfl⟩; rw [Int.toNat_natCast])
  rw [HK.out]
  go_loop [3, 4] (fun o i => ∃ k x : Nat, k ≤ 25 ∧ i = .int .i64 ((k : Int) - 1) ∧ o = .int .u64 x ∧ x % 2 ^ k = 0 ∧ x * x ≤ v ∧ v < (x + 2 ^ k) * (x + 2 ^ k)) (fun _ i => (intOf i + 1).toNat)
  case atStart => exact ⟨k0, 0, hk1, rfl, rfl, by simp, by omega, by
    have e : (2 : Nat) ^ (2 * k0) = (0 + 2 ^ k0) * (0 + 2 ^ k0) := by rw [Nat.zero_add, ← Nat.pow_add]; congr 1; omega
    rw [← e]; exact HK3.out⟩
  case round =>
    obtain ⟨k, x, hk, rfl, rfl, hm, hx1, hx2⟩ := hrel
    have HX := Lib.hid hx2
    have HM := Lib.hid hm
    clear hx2 hm
    rcases Nat.eq_zero_or_pos k with h0 | h0
    · subst h0
      have hR := rootN_of hx1 (by have := HX.out; simpa using this)
      have HR := Lib.hid hR
      clear hR hx1 hk
      go_wp2
      go_ret
      rw [HR.out]
      exact .of
    · obtain ⟨j, rfl⟩ : ∃ j, k = j + 1 := ⟨k - 1, by omega⟩
      have ej : ((j + 1 : Nat) : Int) - 1 = j := by omega
      rw [ej]
      have hj25 : j ≤ 24 := by omega
      have hp : (2 : Nat) ^ j ≤ 2 ^ 24 := Nat.pow_le_pow_right (by decide) hj25
      have hp0 : 0 < (2 : Nat) ^ j := Nat.pow_pos (by decide)
      have hp2 : (2 : Nat) ^ (j + 1) = 2 ^ j * 2 := Nat.pow_succ ..
      have hx3 : x ≤ 16777216 := by
        rcases Nat.lt_or_ge 16777216 x with h | h
        · have := Nat.mul_le_mul (show 16777217 ≤ x by omega) (show 16777217 ≤ x by omega); omega
        · exact h
      have hmj : x % 2 ^ (j + 1) = 0 := HM.out
      have hor : bits .or .u64 (x : Int) (2 ^ j) = (x : Int) + 2 ^ j := by
        refine bits_join .u64 64 (by decide) (fun n h1 h2 => by simp [IntKind.wrap, IntKind.bits, IntKind.signed]; omega) (j + 1) _ _ (by omega) (by exact_mod_cast hmj) (by omega) (by rw [pow_int]; omega) (by rw [pow_int, pow_int]; omega) (by rw [pow_int]; omega)
      have g1 : (0 : Int) < 2 ^ j := by rw [pow_int]; omega
      have g2 : (2 : Int) ^ j ≤ 16777216 := by rw [pow_int]; omega
      have g3 : ((x : Int) + 2 ^ j) * ((x : Int) + 2 ^ j) ≤ 33554432 * 33554432 := Int.mul_le_mul (by omega) (by omega) (by omega) (by omega)
      have g4 : 0 ≤ ((x : Int) + 2 ^ j) * ((x : Int) + 2 ^ j) := Int.mul_nonneg (by omega) (by omega)
      have HP2 := Lib.hid hp2
      have hdv : x % 2 ^ j = 0 := Nat.mod_eq_zero_of_dvd (Nat.dvd_trans ⟨2, hp2⟩ (Nat.dvd_of_mod_eq_zero hmj))
      have HD := Lib.hid hdv
      clear hp2 HM hmj ej hdv
      by_cases hle : ((x : Int) + 2 ^ j) * ((x : Int) + 2 ^ j) ≤ v
      · go_wp2
        go_round
        case rel =>
          refine ⟨j, x + 2 ^ j, by omega, rfl, by rw [pow_int]; rfl, ?_, ?_, ?_⟩
          · rw [Nat.add_mod_right]; exact HD.out
          · rw [pow_int] at hle; exact_mod_cast hle
          · have := HX.out; rw [HP2.out, Nat.mul_two] at this; rw [Nat.add_assoc]; exact this
        case measure => simp [intOf] <;> omega
      · go_wp2
        go_round
        case rel =>
          refine ⟨j, x, by omega, rfl, rfl, ?_, ?_, ?_⟩
          · exact HD.out
          · exact hx1
          · rw [pow_int] at hle; exact_mod_cast Int.not_le.1 hle
        case measure => simp [intOf] <;> omega

theorem r02_Root (v : Nat) (w : World) (hv : v ≤ 281474976710656) : Calls Try.prog 75 #[.int .u64 v] w (Ret w (.int .u64 (rootN v))) := by
  go_enter Try.func75, Try.ntmps75
  go_wp2
  go_loop [3, 4] (fun lo hi => ∃ x y : Nat, lo = .int .u64 x ∧ hi = .int .u64 y ∧ x ≤ y ∧ y ≤ 4294967295 ∧ x * x ≤ v ∧ v < (y + 1) * (y + 1)) (fun lo hi => (intOf hi - intOf lo).toNat)
  case atStart => exact ⟨0, 4294967295, rfl, rfl, by omega, by omega, by omega, by omega⟩
  case round =>
    obtain ⟨x, y, rfl, rfl, h1, h2, h3, h4⟩ := hrel
    have H4 := Lib.hid h4
    clear h4
    by_cases hlt : x < y
    · have hmid : ∃ m : Nat, (x : Int) + ((y : Int) - x + 1) / 2 = m ∧ x < m ∧ m ≤ y := ⟨x + (y - x + 1) / 2, by omega, by omega, by omega⟩
      obtain ⟨m, hm, m1, m2⟩ := hmid
      have HM := Lib.hid hm
      have g1 : (m : Int) * m ≤ 4294967295 * 4294967295 := Int.mul_le_mul (by omega) (by omega) (by omega) (by omega)
      have g2 : 0 ≤ (m : Int) * m := Int.mul_nonneg (by omega) (by omega)
      have b1 : 0 ≤ (x : Int) + ((y : Int) - x + 1) / 2 := by omega
      have b2 : (x : Int) + ((y : Int) - x + 1) / 2 ≤ 4294967295 := by omega
      clear hm
      go_upto_region 4 with (fail)
      rw [HM.out]
      clear HM b1 b2
      by_cases hle : (m : Int) * m ≤ v
      · go_wp2
        go_round
        case rel => exact ⟨m, y, rfl, rfl, m2, h2, by exact_mod_cast hle, H4.out⟩
        case measure => simp [intOf] <;> omega
      · go_wp2
        go_round
        case rel => exact ⟨x, m - 1, rfl, by rw [Int.natCast_sub (by omega)]; rfl, by omega, by omega, h3, by
          have := Int.not_le.1 hle
          rw [show m - 1 + 1 = m by omega]
          exact_mod_cast this⟩
        case measure => simp [intOf] <;> omega
    · obtain rfl : x = y := by omega
      have hR := rootN_of h3 H4.out
      have HR := Lib.hid hR
      clear hR h3
      go_wp2
      go_ret
      rw [HR.out]
      exact .of

/-- One by the root of a number of tokens' width: 'n' is at least 1. -/
def rsqrtI (x : Int) : Int := rootN (281474976710656 / (if x < 1 then 1 else x)).toNat

theorem rsqrt_bd (x : Int) : 0 ≤ rsqrtI x ∧ rsqrtI x ≤ 16777216 := by
  unfold rsqrtI
  refine ⟨by omega, ?_⟩
  have h : (281474976710656 / (if x < 1 then 1 else x)).toNat ≤ 281474976710656 := by
    have : 281474976710656 / (if x < 1 then 1 else x) ≤ 281474976710656 := Int.ediv_le_self _ (by decide)
    omega
  obtain ⟨g, _⟩ := rootN_spec (281474976710656 / (if x < 1 then 1 else x)).toNat
  rcases Nat.lt_or_ge 16777216 (rootN (281474976710656 / (if x < 1 then 1 else x)).toNat) with h1 | h1
  · have := Nat.mul_le_mul (show 16777217 ≤ _ from h1) (show 16777217 ≤ _ from h1); omega
  · omega

theorem expo_Rsqrt (x : Int) (w : World) (h1 : 1 ≤ x) (h2 : x ≤ 9223372036854775807) : Calls Try.prog 68 #[.int .i64 x] w (Ret w (.int .i32 (rsqrtI x))) := by
  obtain ⟨b1, b2⟩ := rsqrt_bd x
  have e : rsqrtI x = rootN (281474976710656 / x).toNat := by unfold rsqrtI; rw [if_neg (by omega)]
  rw [e] at b1 b2 ⊢
  have q1 : 0 ≤ 281474976710656 / x := Int.ediv_nonneg (by decide) (by omega)
  have q2 : 281474976710656 / x ≤ 281474976710656 := Int.ediv_le_self _ (by decide)
  generalize hq : 281474976710656 / x = q at *
  obtain ⟨q, rfl⟩ := Int.eq_ofNat_of_zero_le q1
  rw [Int.toNat_natCast] at *
  have HQ := Lib.hid hq
  clear hq e
  go_enter Try.func68, Try.ntmps68
  go_wp2_with (go_at_call 81; rw [Int.max_eq_left h1, HQ.out]; refine (expo_Root _ _ (by omega)).mono ?_; rintro e w' ⟨rfl, nq, rfl⟩)
  go_ret
  exact .drawn _

theorem r02_Rsqrt (x : Int) (w : World) (h1 : 1 ≤ x) (h2 : x ≤ 9223372036854775807) : Calls Try.prog 51 #[.int .i64 x] w (Ret w (.int .i32 (rsqrtI x))) := by
  obtain ⟨b1, b2⟩ := rsqrt_bd x
  have e : rsqrtI x = rootN (281474976710656 / x).toNat := by unfold rsqrtI; rw [if_neg (by omega)]
  rw [e] at b1 b2 ⊢
  have q1 : 0 ≤ 281474976710656 / x := Int.ediv_nonneg (by decide) (by omega)
  have q2 : 281474976710656 / x ≤ 281474976710656 := Int.ediv_le_self _ (by decide)
  generalize hq : 281474976710656 / x = q at *
  obtain ⟨q, rfl⟩ := Int.eq_ofNat_of_zero_le q1
  rw [Int.toNat_natCast] at *
  have HQ := Lib.hid hq
  clear hq e
  go_enter Try.func51, Try.ntmps51
  go_wp2_with (go_at_call 75; rw [HQ.out]; refine (r02_Root _ _ (by omega)).mono ?_; rintro e w' ⟨rfl, nq, rfl⟩)
  go_ret
  exact .drawn _
end Go.Proofs.Ytkepgkjbhdgbiaa

namespace Go.Proofs.Ytkepgkjbhdgbiaa
open Go.RowKit

theorem info_i32 : (Try.prog.info? 21).map (fun i => (i.zero, i.size, i.bytes)) = some (some (.int .i32 0), 1, 4) := by kernel_rfl
theorem info_i64 : (Try.prog.info? 3).map (fun i => (i.zero, i.size, i.bytes)) = some (some (.int .i64 0), 1, 8) := by kernel_rfl

section
variable {F G : Nat → Prop} {w : World} {v v2 : Value} {l m : List Int}

/-- Are two lists one? -/
theorem r03_Same (h : Sl F w (IntV .i32) v l) (h' : Sl G w (IntV .i32) v2 m) : Calls Try.prog 14 #[v, v2] w (Ret w (.bool (decide (l = m)))) := by
  obtain ⟨A, c, rfl, hc, hm⟩ := h.form
  obtain ⟨A', c', rfl, hc', hm'⟩ := h'.form
  by_cases hl : l.length = m.length
  · have HL := Lib.hid hl
    have hl1 : ((l.length : Int) != (m.length : Int)) = false := by simp [hl]
    clear hl
    go_enter Try.func14, Try.ntmps14
    go_wp2
    go_loopg [5] l.length (fun g v5 wr => ∃ k : Nat, k ≤ l.length ∧ v5 = .int .i64 k ∧ g = l.length - k ∧ (l.take k = m.take k) ∧ ∃ n, wr = w.drewN n)
    case atStart => exact ⟨0, Nat.zero_le _, rfl, by omega, by simp, 0, rfl⟩
    case round =>
      obtain ⟨k, hk, rfl, hg, he, n, rfl⟩ := hrel
      have HG := Lib.hid hg
      have HE := Lib.hid he
      clear hg he
      by_cases hlt : k < l.length
      · have hlt' : k < m.length := by have := HL.out; omega
        obtain ⟨ad, u, rfl, _, hu, rfl, hx1, hx2⟩ := h.at_ rfl hlt
        obtain ⟨ad', u', rfl, _, hu', rfl, hy1, hy2⟩ := h'.at_ rfl hlt'
        generalize hx : l[k] = x at hu hx1 hx2
        generalize hy : m[k] = y at hu' hy1 hy2
        have HX := Lib.hid hx
        have HY := Lib.hid hy
        clear hx hy
        by_cases hxy : x = y
        · subst hxy
          go_upto_region 6 with (fail)
          go_quiet (fail)
          go_wp2
          go_roundg (l.length - (k + 1))
          case rel => exact ⟨k + 1, by omega, by go_num, by omega, by rw [List.take_succ_eq_append_getElem hlt, List.take_succ_eq_append_getElem hlt', HE.out, HX.out, HY.out], (by first | exact ⟨_, rfl⟩ | exact ⟨_, World.drewN_drewN ..⟩ | exact ⟨_, (World.drewN_drewN ..).trans (World.drewN_drewN ..)⟩)⟩
          case measure => rw [HG.out]; omega
        · have hxy' : (x != y) = true := by simp [hxy]
          have hne : l ≠ m := fun e => hxy (by have e1 := HX.out; have e2 := HY.out; subst e; omega)
          have HN := Lib.hid hne
          clear hxy hne
          go_upto_region 6 with (fail)
          go_quiet (fail)
          go_wp2
          go_ret
          rw [decide_eq_false HN.out]
          exact ⟨rfl, (by first | exact ⟨_, rfl⟩ | exact ⟨_, World.drewN_drewN ..⟩ | exact ⟨_, (World.drewN_drewN ..).trans (World.drewN_drewN ..)⟩)⟩
      · obtain rfl : k = l.length := by omega
        have hEq : l = m := by have h1 := HE.out; have h2 := HL.out; rwa [List.take_length, h2, List.take_length] at h1
        have HQ := Lib.hid hEq
        clear hEq
        go_wp2
        go_ret
        rw [decide_eq_true HQ.out]
        exact ⟨rfl, (by first | exact ⟨_, rfl⟩ | exact ⟨_, World.drewN_drewN ..⟩ | exact ⟨_, (World.drewN_drewN ..).trans (World.drewN_drewN ..)⟩)⟩
  · have hne : l ≠ m := fun e => hl (by rw [e])
    rw [decide_eq_false hne]
    have hl1 : ((l.length : Int) != (m.length : Int)) = true := by simp; omega
    clear hl hne
    go_enter Try.func14, Try.ntmps14
    go_wp2
    go_ret
    exact .of

/-- The sum of the products. -/
def dotI (a b : List Int) : Int := sumTo (fun i => a.getD i 0 * b.getD i 0) a.length

theorem getD_at {l : List Int} {k : Nat} (h : k < l.length) : l.getD k 0 = l[k] := by simp [h]

theorem mul_bd {x y X Y : Int} (h1 : -X ≤ x) (h2 : x ≤ X) (h3 : -Y ≤ y) (h4 : y ≤ Y) : -(X * Y) ≤ x * y ∧ x * y ≤ X * Y := by
  have e : (x * y).natAbs ≤ X.natAbs * Y.natAbs := by rw [Int.natAbs_mul]; exact Nat.mul_le_mul (by omega) (by omega)
  have e2 : ((X.natAbs * Y.natAbs : Nat) : Int) = X * Y := by
    rw [Int.natCast_mul, Int.natAbs_of_nonneg (by omega), Int.natAbs_of_nonneg (by omega)]
  omega

/-- Small enough to be summed up. -/
def MildL (l : List Int) : Prop := l.length ≤ 1024 ∧ ∀ x ∈ l, -16777216 ≤ x ∧ x ≤ 16777216

theorem dot_prod_bd (ha : MildL l) (hb : MildL m) (i : Nat) : -281474976710656 ≤ l.getD i 0 * m.getD i 0 ∧ l.getD i 0 * m.getD i 0 ≤ 281474976710656 := by
  have h : ∀ {l : List Int}, MildL l → -16777216 ≤ l.getD i 0 ∧ l.getD i 0 ≤ 16777216 := fun {l} h => by
    rcases Nat.lt_or_ge i l.length with hl | hl
    · rw [getD_at hl]; exact h.2 _ (List.getElem_mem hl)
    · rw [List.getD_eq_getElem?_getD, List.getElem?_eq_none hl]; simp
  have := mul_bd (h ha).1 (h ha).2 (h hb).1 (h hb).2
  omega
theorem dot_bd (ha : MildL l) (hb : MildL m) (k : Nat) (hk : k ≤ 1024) : -288230376151711744 ≤ sumTo (fun i => l.getD i 0 * m.getD i 0) k ∧ sumTo (fun i => l.getD i 0 * m.getD i 0) k ≤ 288230376151711744 := by
  have h := sumTo_bd (n := k) (B := 281474976710656) fun i _ => dot_prod_bd ha hb i
  omega

theorem r03_Dot (h : Sl F w (IntV .i32) v l) (h' : Sl G w (IntV .i32) v2 m) (hlm : l.length ≤ m.length) (ha : MildL l) (hb : MildL m) : Calls Try.prog 49 #[v, v2] w (Ret w (.int .i64 (dotI l m))) := by
  obtain ⟨A, c, rfl, hc, hm⟩ := h.form
  obtain ⟨A', c', rfl, hc', hm'⟩ := h'.form
  unfold dotI
  have hl1 := ha.1
  go_enter Try.func49, Try.ntmps49
  go_wp2
  go_loopg [5, 6] l.length (fun g s i wr => ∃ k : Nat, k ≤ l.length ∧ i = .int .i64 k ∧ g = l.length - k ∧ s = .int .i64 (sumTo (fun i => l.getD i 0 * m.getD i 0) k) ∧ ∃ n, wr = w.drewN n)
  case atStart => exact ⟨0, Nat.zero_le _, rfl, by omega, rfl, 0, rfl⟩
  case round =>
    obtain ⟨k, hk, rfl, hg, rfl, n, rfl⟩ := hrel
    have HG := Lib.hid hg
    clear hg
    by_cases hlt : k < l.length
    · have hlt' : k < m.length := by omega
      obtain ⟨ad, u, rfl, _, hu, rfl, hx1, hx2⟩ := h.at_ rfl hlt
      obtain ⟨ad', u', rfl, _, hu', rfl, hy1, hy2⟩ := h'.at_ rfl hlt'
      obtain ⟨s1, s2⟩ := dot_bd ha hb k (by omega)
      have hp := dot_prod_bd ha hb k
      rw [getD_at hlt, getD_at hlt'] at hp
      have hs : sumTo (fun i => l.getD i 0 * m.getD i 0) (k + 1) = sumTo (fun i => l.getD i 0 * m.getD i 0) k + l[k] * m[k] := by show _ + l.getD k 0 * m.getD k 0 = _; rw [getD_at hlt, getD_at hlt']
      generalize hx : l[k] = x at hu hx1 hx2 hp hs
      generalize hy : m[k] = y at hu' hy1 hy2 hp hs
      have HS := Lib.hid hs
      clear hx hy hs
      generalize hsum : sumTo (fun i => l.getD i 0 * m.getD i 0) k = sm at *
      obtain ⟨p1, p2⟩ := hp
      go_upto_region 5 with (fail)
      go_quiet (fail)
      go_wp2
      go_roundg (l.length - (k + 1))
      case rel => exact ⟨k + 1, by omega, by go_num, by omega, by rw [HS.out], (by first | exact ⟨_, rfl⟩ | exact ⟨_, World.drewN_drewN ..⟩ | exact ⟨_, (World.drewN_drewN ..).trans (World.drewN_drewN ..)⟩)⟩
      case measure => rw [HG.out]; omega
    · obtain rfl : k = l.length := by omega
      go_wp2
      go_ret
      exact ⟨rfl, (by first | exact ⟨_, rfl⟩ | exact ⟨_, World.drewN_drewN ..⟩ | exact ⟨_, (World.drewN_drewN ..).trans (World.drewN_drewN ..)⟩)⟩
end
end Go.Proofs.Ytkepgkjbhdgbiaa

namespace Go.Proofs.Ytkepgkjbhdgbiaa
open Go.RowKit

/-- The greatest of the first n (of one, at least). -/
def mxTo (f : Nat → Int) : Nat → Int
  | 0 => f 0
  | n + 1 => if mxTo f n < f n then f n else mxTo f n
def mnTo (f : Nat → Int) : Nat → Int
  | 0 => f 0
  | n + 1 => if f n < mnTo f n then f n else mnTo f n
def maxL (l : List Int) : Int := mxTo (fun i => l.getD i 0) l.length
def minL (l : List Int) : Int := mnTo (fun i => l.getD i 0) l.length
theorem mxTo_ge (f : Nat → Int) (n i : Nat) (h : i < n) : f i ≤ mxTo f n := by
  induction n with
  | zero => omega
  | succ n ih =>
    simp only [mxTo]
    rcases Nat.lt_or_ge i n with h1 | h1
    · have := ih h1; split <;> omega
    · obtain rfl : i = n := by omega
      split <;> omega
theorem mnTo_le (f : Nat → Int) (n i : Nat) (h : i < n) : mnTo f n ≤ f i := by
  induction n with
  | zero => omega
  | succ n ih =>
    simp only [mnTo]
    rcases Nat.lt_or_ge i n with h1 | h1
    · have := ih h1; split <;> omega
    · obtain rfl : i = n := by omega
      split <;> omega
theorem mxTo_one (f : Nat → Int) : mxTo f 1 = f 0 := by simp [mxTo]
theorem mnTo_one (f : Nat → Int) : mnTo f 1 = f 0 := by simp [mnTo]
theorem mxTo_is (f : Nat → Int) (n : Nat) (h : 0 < n) : ∃ i, i < n ∧ mxTo f n = f i := by
  induction n with
  | zero => omega
  | succ n ih =>
    simp only [mxTo]
    split
    · exact ⟨n, by omega, rfl⟩
    · rcases Nat.eq_zero_or_pos n with h0 | h0
      · subst h0; exact ⟨0, by omega, rfl⟩
      · obtain ⟨i, hi, e⟩ := ih h0; exact ⟨i, by omega, e⟩
theorem mnTo_is (f : Nat → Int) (n : Nat) (h : 0 < n) : ∃ i, i < n ∧ mnTo f n = f i := by
  induction n with
  | zero => omega
  | succ n ih =>
    simp only [mnTo]
    split
    · exact ⟨n, by omega, rfl⟩
    · rcases Nat.eq_zero_or_pos n with h0 | h0
      · subst h0; exact ⟨0, by omega, rfl⟩
      · obtain ⟨i, hi, e⟩ := ih h0; exact ⟨i, by omega, e⟩
theorem maxL_ge {l : List Int} {x : Int} (h : x ∈ l) : x ≤ maxL l := by
  obtain ⟨i, hi, rfl⟩ := List.getElem_of_mem h
  have := mxTo_ge (fun i => l.getD i 0) l.length i hi
  rw [getD_at hi] at this
  exact this
theorem minL_le {l : List Int} {x : Int} (h : x ∈ l) : minL l ≤ x := by
  obtain ⟨i, hi, rfl⟩ := List.getElem_of_mem h
  have := mnTo_le (fun i => l.getD i 0) l.length i hi
  rw [getD_at hi] at this
  exact this
theorem maxL_mem {l : List Int} (h : 0 < l.length) : maxL l ∈ l := by
  obtain ⟨i, hi, e⟩ := mxTo_is (fun i => l.getD i 0) l.length h
  unfold maxL
  rw [e, getD_at hi]
  exact List.getElem_mem hi
theorem minL_mem {l : List Int} (h : 0 < l.length) : minL l ∈ l := by
  obtain ⟨i, hi, e⟩ := mnTo_is (fun i => l.getD i 0) l.length h
  unfold minL
  rw [e, getD_at hi]
  exact List.getElem_mem hi

theorem add_zero_ (a : Addr) : a.add 0 = a := by unfold Addr.add; split <;> simp_all

theorem slices_Max32 {F : Nat → Prop} {w : World} {v : Value} {l : List Int} (h : Sl F w (IntV .i32) v l) (h0 : 0 < l.length) : Calls Try.prog 60 #[v] w (Ret w (.int .i32 (mxTo (fun i => l.getD i 0) l.length))) := by
  obtain ⟨A, c, rfl, hc, hm⟩ := h.form
  obtain ⟨ad, u, rfl, _, hu0, rfl, hz1, hz2⟩ := h.at_ rfl h0
  have e0 : mxTo (fun i => l.getD i 0) 1 = l[0] := by rw [mxTo_one]; exact getD_at h0
  generalize hx0 : l[0] = x0 at hu0 hz1 hz2 e0
  rw [add_zero_] at hu0
  have H0 := Lib.hid e0
  clear hx0 e0
  have hl1 : ¬ (l.length : Int) < 1 := by omega
  go_enter Try.func60, Try.ntmps60
  go_wp2
  go_loopg [3, 4] (l.length - 1) (fun g m i wr => ∃ (k : Nat), 1 ≤ k ∧ k ≤ l.length ∧ i = .int .i64 k ∧ g = l.length - k ∧ m = .int .i32 (mxTo (fun i => l.getD i 0) k) ∧ ∃ n, wr = w.drewN n)
  case atStart => exact ⟨1, by omega, by omega, rfl, by omega, by rw [H0.out], 0, rfl⟩
  case round =>
    obtain ⟨k, hk1, hk, rfl, hg, rfl, n, rfl⟩ := hrel
    have HG := Lib.hid hg
    clear hg hu0
    by_cases hlt : k < l.length
    · obtain ⟨ad', u, had, _, hu, rfl, hx1, hx2⟩ := h.at_ rfl hlt
      obtain rfl : ad = ad' := by injection had
      have hs : mxTo (fun i => l.getD i 0) (k + 1) = if mxTo (fun i => l.getD i 0) k < l[k] then l[k] else mxTo (fun i => l.getD i 0) k := by rw [← getD_at hlt]; rfl
      generalize hx : l[k] = x at hu hx1 hx2 hs
      generalize mxTo (fun i => l.getD i 0) k = y at *
      have HS := Lib.hid hs
      clear hx hs had
      go_wp2
      go_roundg (l.length - (k + 1))
      case rel => exact ⟨k + 1, by omega, by omega, by go_num, by omega, by rw [HS.out]; congr 1; split <;> omega, (by first | exact ⟨_, rfl⟩ | exact ⟨_, World.drewN_drewN ..⟩ | exact ⟨_, (World.drewN_drewN ..).trans (World.drewN_drewN ..)⟩)⟩
      case measure => rw [HG.out]; omega
    · obtain rfl : k = l.length := by omega
      go_wp2
      go_ret
      exact ⟨rfl, (by first | exact ⟨_, rfl⟩ | exact ⟨_, World.drewN_drewN ..⟩ | exact ⟨_, (World.drewN_drewN ..).trans (World.drewN_drewN ..)⟩)⟩
theorem slices_Min32 {F : Nat → Prop} {w : World} {v : Value} {l : List Int} (h : Sl F w (IntV .i32) v l) (h0 : 0 < l.length) : Calls Try.prog 59 #[v] w (Ret w (.int .i32 (mnTo (fun i => l.getD i 0) l.length))) := by
  obtain ⟨A, c, rfl, hc, hm⟩ := h.form
  obtain ⟨ad, u, rfl, _, hu0, rfl, hz1, hz2⟩ := h.at_ rfl h0
  have e0 : mnTo (fun i => l.getD i 0) 1 = l[0] := by rw [mnTo_one]; exact getD_at h0
  generalize hx0 : l[0] = x0 at hu0 hz1 hz2 e0
  rw [add_zero_] at hu0
  have H0 := Lib.hid e0
  clear hx0 e0
  have hl1 : ¬ (l.length : Int) < 1 := by omega
  go_enter Try.func59, Try.ntmps59
  go_wp2
  go_loopg [3, 4] (l.length - 1) (fun g m i wr => ∃ (k : Nat), 1 ≤ k ∧ k ≤ l.length ∧ i = .int .i64 k ∧ g = l.length - k ∧ m = .int .i32 (mnTo (fun i => l.getD i 0) k) ∧ ∃ n, wr = w.drewN n)
  case atStart => exact ⟨1, by omega, by omega, rfl, by omega, by rw [H0.out], 0, rfl⟩
  case round =>
    obtain ⟨k, hk1, hk, rfl, hg, rfl, n, rfl⟩ := hrel
    have HG := Lib.hid hg
    clear hg hu0
    by_cases hlt : k < l.length
    · obtain ⟨ad', u, had, _, hu, rfl, hx1, hx2⟩ := h.at_ rfl hlt
      obtain rfl : ad = ad' := by injection had
      have hs : mnTo (fun i => l.getD i 0) (k + 1) = if l[k] < mnTo (fun i => l.getD i 0) k then l[k] else mnTo (fun i => l.getD i 0) k := by rw [← getD_at hlt]; rfl
      generalize hx : l[k] = x at hu hx1 hx2 hs
      generalize mnTo (fun i => l.getD i 0) k = y at *
      have HS := Lib.hid hs
      clear hx hs had
      go_wp2
      go_roundg (l.length - (k + 1))
      case rel => exact ⟨k + 1, by omega, by omega, by go_num, by omega, by rw [HS.out]; congr 1; split <;> omega, (by first | exact ⟨_, rfl⟩ | exact ⟨_, World.drewN_drewN ..⟩ | exact ⟨_, (World.drewN_drewN ..).trans (World.drewN_drewN ..)⟩)⟩
      case measure => rw [HG.out]; omega
    · obtain rfl : k = l.length := by omega
      go_wp2
      go_ret
      exact ⟨rfl, (by first | exact ⟨_, rfl⟩ | exact ⟨_, World.drewN_drewN ..⟩ | exact ⟨_, (World.drewN_drewN ..).trans (World.drewN_drewN ..)⟩)⟩
end Go.Proofs.Ytkepgkjbhdgbiaa
