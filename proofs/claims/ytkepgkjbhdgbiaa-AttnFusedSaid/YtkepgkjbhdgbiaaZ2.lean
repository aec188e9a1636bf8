/- Contracts of functions of the program, and what they need (Math, Num, Num2). -/
import Derived.Laws.BitsLemmas
import Derived.WalkKit
import Derived.Test.YtkepgkjbhdgbiaaProg
import Derived.Test.YtkepgkjbhdgbiaaZ1

namespace Go.Proofs.Ytkepgkjbhdgbiaa
open Go.RowKit

/-! Whole numbers: what the layers reckon. -/
def cutI (v l g : Int) : Int := if v < l then l else if v > g then g else v
def wideI (v : Int) : Int := cutI v (-2147483648) 2147483647
def narrowI (v : Int) : Int := cutI v (-8388608) 8388608
theorem narrow_bd (v : Int) : -8388608 ≤ narrowI v ∧ narrowI v ≤ 8388608 := by unfold narrowI cutI; split <;> (try split) <;> omega
theorem wide_bd (v : Int) : -2147483648 ≤ wideI v ∧ wideI v ≤ 2147483647 := by unfold wideI cutI; split <;> (try split) <;> omega
theorem narrow_id {v : Int} (h1 : -8388608 ≤ v) (h2 : v ≤ 8388608) : narrowI v = v := by unfold narrowI cutI; rw [if_neg (by omega), if_neg (by omega)]
theorem wide_id {v : Int} (h1 : -2147483648 ≤ v) (h2 : v ≤ 2147483647) : wideI v = v := by unfold wideI cutI; rw [if_neg (by omega), if_neg (by omega)]

/-- Divided, rounded to the nearest whole number, halves to the even one. -/
def ratioI (a b : Int) : Int := if b < 2 * (a % b) ∨ (b = 2 * (a % b) ∧ (a / b) % 2 ≠ 0) then a / b + 1 else a / b

theorem ratio_near (a b : Int) : a / b ≤ ratioI a b ∧ ratioI a b ≤ a / b + 1 := by unfold ratioI; split <;> omega

theorem tdm (a b : Int) (hb : 0 < b) : (a.tmod b < 0 ∧ a / b = a.tdiv b - 1 ∧ a % b = a.tmod b + b) ∨ (0 ≤ a.tmod b ∧ a / b = a.tdiv b ∧ a % b = a.tmod b) := by
  have e1 := Int.mul_tdiv_add_tmod a b
  have l1 : a.tmod b < b := Int.tmod_lt_of_pos a hb
  have l2 : -b < a.tmod b := by have := Int.lt_tmod_of_pos a hb; omega
  rcases Int.lt_or_le (a.tmod b) 0 with h | h
  · refine .inl ⟨h, ?_⟩
    have : a / b = a.tdiv b - 1 ∧ a % b = a.tmod b + b := (Int.ediv_emod_unique hb).2 ⟨by rw [Int.mul_sub, Int.mul_one]; omega, by omega, by omega⟩
    exact this
  · exact .inr ⟨h, (Int.ediv_emod_unique hb).2 ⟨by omega, h, l1⟩⟩

theorem tdm_bd (a b : Int) (hb : 0 < b) : (0 ≤ a → 0 ≤ a.tdiv b ∧ a.tdiv b ≤ a) ∧ (a ≤ 0 → a ≤ a.tdiv b ∧ a.tdiv b ≤ 0) ∧ -b < a.tmod b ∧ a.tmod b < b := by
  refine ⟨fun h => ⟨Int.tdiv_nonneg h (by omega), ?_⟩, fun h => ?_, by have := Int.lt_tmod_of_pos a hb; omega, Int.tmod_lt_of_pos a hb⟩
  · rw [Int.tdiv_eq_ediv_of_nonneg h]
    exact Int.ediv_le_self b h
  · have h2 : 0 ≤ (-a).tdiv b := Int.tdiv_nonneg (by omega) (by omega)
    have h3 : (-a).tdiv b ≤ -a := by
      rw [Int.tdiv_eq_ediv_of_nonneg (by omega)]
      exact Int.ediv_le_self b (by omega)
    rw [Int.neg_tdiv] at h2 h3
    omega

theorem and1_i64 (x : Int) : bits .and .i64 x 1 = x % 2 := by
  have h : (BitVec.ofInt 64 x &&& BitVec.ofInt 64 1).toNat = (x % 2).toNat := by
    rw [BitVec.toNat_and]
    have : (BitVec.ofInt 64 1).toNat = 1 := by decide
    rw [this, Nat.and_one_is_mod, BitVec.toNat_ofInt]
    omega
  show IntKind.i64.wrap ((BitVec.ofInt 64 x &&& BitVec.ofInt 64 1).toNat : Int) = x % 2
  rw [h, IntKind.wrap_i64]
  omega

/-- Twice. -/
theorem pow2_pos (n : Nat) : (0 : Int) < 2 ^ n := Int.pow_pos (by decide)
theorem pow2_le62 {n : Nat} (h : n ≤ 62) : (2 : Int) ^ n ≤ 4611686018427387904 := by
  have := Nat.pow_le_pow_right (n := 2) (by decide) h
  have e : (2 : Int) ^ n = ((2 ^ n : Nat) : Int) := by simp
  rw [e]
  have : (2 : Nat) ^ 62 = 4611686018427387904 := by decide
  omega
end Go.Proofs.Ytkepgkjbhdgbiaa

namespace Go.Proofs.Ytkepgkjbhdgbiaa
open Go.RowKit

/-- It returns a value; of the world some orders have been drawn alone. -/
def Ret (w : World) (v : Value) (e : Ending) (w' : World) : Prop := e = .returned v ∧ ∃ n, w' = w.drewN n
theorem Ret.of {w : World} {v : Value} : Ret w v (.returned v) w := ⟨rfl, 0, rfl⟩
theorem Ret.drawn {w : World} {v : Value} (n : Nat) : Ret w v (.returned v) (w.drewN n) := ⟨rfl, n, rfl⟩

theorem r01_Cut (v l g : Int) (w : World) : Calls Try.prog 71 #[.int .i64 v, .int .i64 l, .int .i64 g] w (Ret w (.int .i64 (cutI v l g))) := by
  unfold cutI
  go_enter Try.func71, Try.ntmps71
  go_wp2
  all_goals
    go_ret
    exact ⟨by simp [*], 0, rfl⟩

theorem r01_Wide (v : Int) (w : World) : Calls Try.prog 39 #[.int .i64 v] w (Ret w (.int .i32 (wideI v))) := by
  obtain ⟨h1, h2⟩ : -2147483648 ≤ cutI v (-2147483648) 2147483647 ∧ cutI v (-2147483648) 2147483647 ≤ 2147483647 := wide_bd v
  go_enter Try.func39, Try.ntmps39
  go_wp2_with (go_at_call 71; refine (r01_Cut _ _ _ _).mono ?_; rintro e w' ⟨rfl, nq, rfl⟩)
  go_ret
  exact ⟨rfl, _, rfl⟩

theorem r01_Narrow (v : Int) (w : World) : Calls Try.prog 52 #[.int .i64 v] w (Ret w (.int .i32 (narrowI v))) := by
  obtain ⟨h1, h2⟩ : -8388608 ≤ cutI v (-8388608) 8388608 ∧ cutI v (-8388608) 8388608 ≤ 8388608 := narrow_bd v
  go_enter Try.func52, Try.ntmps52
  go_wp2_with (go_at_call 71; refine (r01_Cut _ _ _ _).mono ?_; rintro e w' ⟨rfl, nq, rfl⟩)
  go_ret
  exact ⟨rfl, _, rfl⟩

theorem floor_facts {a b : Int} (ha : InK .i64 a) (hb : 0 < b) : InK .i64 (a.tdiv b) ∧ InK .i64 (a.tdiv b * b) ∧ (a < a.tdiv b * b → InK .i64 (a.tdiv b - 1) ∧ a / b = a.tdiv b - 1) ∧ (a.tdiv b * b ≤ a → a / b = a.tdiv b) ∧
    (a < a.tdiv b * b ↔ a.tmod b < 0) := by
  obtain ⟨a1, a2⟩ := ha
  have h := tdm a b hb
  obtain ⟨p1, p2, p3, p4⟩ := tdm_bd a b hb
  have e1 := Int.mul_tdiv_add_tmod a b
  rw [Int.mul_comm] at e1
  have hm : 0 ≤ a → 0 ≤ a.tmod b := fun h => by
    rw [Int.tmod_eq_emod_of_nonneg h]
    exact Int.emod_nonneg _ (by omega)
  have hm' : a ≤ 0 → a.tmod b ≤ 0 := fun h => by
    have : 0 ≤ (-a).tmod b := by
      rw [Int.tmod_eq_emod_of_nonneg (by omega)]
      exact Int.emod_nonneg _ (by omega)
    rw [Int.neg_tmod] at this
    omega
  have hneg : a.tdiv b * b ≤ 0 ∨ 0 ≤ a := by
    rcases Int.le_total 0 a with h | h
    · exact .inr h
    · exact .inl (Int.mul_nonpos_of_nonpos_of_nonneg (p2 h).2 (by omega))
  have hpos : 0 ≤ a → 0 ≤ a.tdiv b * b := fun h => Int.mul_nonneg (p1 h).1 (by omega)
  have hone : a.tmod b < 0 → a.tdiv b ≠ a := by
    intro h1 h2
    rw [h2] at e1
    have h3 : a < 0 := by
      rcases Int.lt_or_le a 0 with h | h
      · exact h
      · have := hm h; omega
    have : a * b ≤ a * 1 := Int.mul_le_mul_of_nonpos_left (by omega) (by omega)
    omega
  have hi : InK .i64 (a.tdiv b) := by
    constructor <;> omega
  refine ⟨hi, ⟨?_, ?_⟩, fun h => ⟨⟨?_, ?_⟩, ?_⟩, fun h => ?_, ?_⟩ <;> omega

theorem r01_Floor (a b : Int) (w : World) (ha : InK .i64 a) (hb : 0 < b) : Calls Try.prog 70 #[.int .i64 a, .int .i64 b] w (Ret w (.int .i64 (a / b))) := by
  obtain ⟨⟨i1, i2⟩, ⟨i3, i4⟩, h5, h6, h7⟩ := floor_facts ha hb
  have H5 := Lib.hid h5
  have H6 := Lib.hid h6
  have H7 := Lib.hid h7
  clear h5 h6 h7
  go_enter Try.func70, Try.ntmps70
  go_wp2
  · go_ret
    have h : a < a.tdiv b * b := by assumption
    obtain ⟨h8, h9⟩ := H5.out h
    refine ⟨?_, 0, rfl⟩
    rw [h9]
    show Ending.returned (.int .i64 (wrap64 (a.tdiv b - 1))) = _
    rw [IntWalk.wrap64_in _ h8]
  · go_ret
    have h : a.tdiv b * b ≤ a := by assumption
    refine ⟨?_, 0, rfl⟩
    rw [H6.out h]
    rfl

/-- What stands behind the two numbers: the quotient below, and what is left. -/
theorem ratio_close {a b : Int} (h1 : b < 2 * (a % b)) : ratioI a b = a / b + 1 := by unfold ratioI; rw [if_pos (.inl h1)]
theorem ratio_even {a b : Int} (h1 : 2 * (a % b) = b) (h2 : (a / b) % 2 ≠ 0) : ratioI a b = a / b + 1 := by unfold ratioI; rw [if_pos (.inr ⟨h1.symm, h2⟩)]
theorem ratio_odd {a b : Int} (h1 : 2 * (a % b) = b) (h2 : (a / b) % 2 = 0) : ratioI a b = a / b := by unfold ratioI; rw [if_neg (by omega)]
theorem ratio_far {a b : Int} (h1 : 2 * (a % b) < b) : ratioI a b = a / b := by unfold ratioI; rw [if_neg (by omega)]

theorem fix_Ratio (a b : Int) (w : World) (ha : InK .i64 a) (hb : 0 < b) (hb' : b ≤ 9223372036854775807) : Calls Try.prog 47 #[.int .i64 a, .int .i64 b] w (Ret w (.int .i64 (ratioI a b))) := by
  obtain ⟨⟨i1, i2⟩, _, h5, h6, h7⟩ := floor_facts ha hb
  have h8 := tdm a b hb
  obtain ⟨_, _, p3, p4⟩ := tdm_bd a b hb
  have hq1 : a.tmod b < 0 → -9223372036854775807 ≤ a.tdiv b := fun h => by have := (h5 (h7.2 h)).1.1; omega
  have hup : a / b ≤ 9223372036854775806 ∨ a % b = 0 := by
    obtain ⟨a1, a2⟩ := ha
    rcases Int.lt_or_le b 2 with h | h
    · exact .inr (by obtain rfl : b = 1 := by omega
                     exact Int.emod_one a)
    · exact .inl (by have := Int.ediv_mul_le a (b := b) (by omega); rcases Int.lt_or_le (a / b) 1 with h' | h'
                     · omega
                     · have : a / b * 2 ≤ a / b * b := Int.mul_le_mul_of_nonneg_left h (by omega)
                       omega)
  clear h5 h6 h7 ha
  have H8 := Lib.hid h8
  have HU := Lib.hid hup
  clear h8 hup
  go_enter Try.func47, Try.ntmps47
  go_wp2
  go_quiet (fail)
  by_cases hneg : a.tmod b < 0
  all_goals
    first | (have hq2 := hq1 hneg; clear hq1 i1) | clear hq1
    go_upto_region 6 with (fail)
    first
      | (obtain ⟨e1, e2⟩ : a / b = a.tdiv b - 1 ∧ a % b = a.tmod b + b := by (rcases H8.out with h | h; exact h.2; omega)
         rw [← e1, ← e2])
      | (obtain ⟨e1, e2⟩ : a / b = a.tdiv b ∧ a % b = a.tmod b := by (rcases H8.out with h | h; omega; exact h.2)
         rw [← e1, ← e2])
    have l1 := Int.emod_lt_of_pos a hb
    have l2 := Int.emod_nonneg a (b := b) (by omega)
    have l3 : -9223372036854775808 ≤ a / b := by omega
    have l4 : a / b ≤ 9223372036854775807 := by omega
    clear H8 e1 e2 p3 p4 hneg i2
    try clear hq2
    try clear i1
    rcases Int.lt_trichotomy (2 * (a % b)) b with hc | hc | hc
    · have he : ¬ b - a % b < a % b := by omega
      have he' : (a % b == b - a % b) = false := by simp; omega
      have hR := Lib.hid (ratio_far hc)
      clear hc
      go_wp2
      go_ret
      rw [hR.out]
      exact ⟨rfl, _, rfl⟩
    · have he : ¬ b - a % b < a % b := by omega
      have he' : (a % b == b - a % b) = true := by simp; omega
      by_cases hp : (a / b) % 2 = 0
      · have hR := Lib.hid (ratio_odd hc hp)
        have hp' : (bits .and .i64 (a / b) 1 != 0) = false := by rw [and1_i64]; simp [hp]
        clear hc hp
        go_wp2
        go_ret
        rw [hR.out]
        exact ⟨rfl, _, rfl⟩
      · have hR := Lib.hid (ratio_even hc hp)
        have hp' : (bits .and .i64 (a / b) 1 != 0) = true := by rw [and1_i64]; simp [hp]
        have l5 : a / b ≤ 9223372036854775806 := by rcases HU.out with h | h <;> omega
        clear hc hp
        go_wp2
        go_ret
        rw [hR.out]
        exact ⟨rfl, _, rfl⟩
    · have he : b - a % b < a % b := by omega
      have hR := Lib.hid (ratio_close hc)
      have l5 : a / b ≤ 9223372036854775806 := by rcases HU.out with h | h <;> omega
      clear hc
      go_wp2
      go_ret
      rw [hR.out]
      exact ⟨rfl, _, rfl⟩

theorem fix_Ratio0 (a b : Int) (w : World) (hb : b ≤ 0) : Calls Try.prog 47 #[.int .i64 a, .int .i64 b] w (Ret w (.int .i64 0)) := by
  go_enter Try.func47, Try.ntmps47
  go_wp2
  go_ret
  exact .of

theorem r01_Ratio (a b : Int) (w : World) (ha1 : -4611686018427387904 ≤ a) (ha2 : a ≤ 4611686018427387904) (hb : 0 < b) (hb' : b ≤ 4611686018427387904) : Calls Try.prog 38 #[.int .i64 a, .int .i64 b] w (Ret w (.int .i64 (ratioI a b))) := by
  have l1 := Int.emod_lt_of_pos a hb
  have l2 := Int.emod_nonneg a (b := b) (by omega)
  have e1 : a - a / b * b = a % b := by rw [Int.emod_def, Int.mul_comm]
  have g1 : a - b < a / b * b := by omega
  have g2 : a / b * b ≤ a := by omega
  obtain ⟨l3, l4⟩ : -4611686018427387904 ≤ a / b ∧ a / b ≤ 4611686018427387904 := by
    constructor
    · exact Int.le_ediv_of_mul_le hb (by have := Int.mul_le_mul_of_nonpos_left (a := -4611686018427387904) (b := b) (c := 1) (by omega) (by omega); omega)
    · rcases Int.lt_or_le (a / b) 1 with h' | h'
      · omega
      · have : a / b * 1 ≤ a / b * b := Int.mul_le_mul_of_nonneg_left (by omega) (by omega)
        omega
  have E1 := Lib.hid e1
  clear e1
  rcases Int.lt_trichotomy (2 * (a % b)) b with hc | hc | hc
  · have he : ¬ b - (a - a / b * b) < a - a / b * b := by have := E1.out; omega
    have he' : (a - a / b * b == b - (a - a / b * b)) = false := by have := E1.out; simp; omega
    have hR := Lib.hid (ratio_far hc)
    clear hc
    go_enter Try.func38, Try.ntmps38
    go_wp2_with (go_at_call 70; refine (r01_Floor _ _ _ ⟨by omega, by omega⟩ hb).mono ?_; rintro e w' ⟨rfl, nq, rfl⟩)
    go_ret
    rw [hR.out]
    exact ⟨rfl, _, rfl⟩
  · have he : ¬ b - (a - a / b * b) < a - a / b * b := by have := E1.out; omega
    have he' : (a - a / b * b == b - (a - a / b * b)) = true := by have := E1.out; simp; omega
    by_cases hp : (a / b) % 2 = 0
    · have hR := Lib.hid (ratio_odd hc hp)
      have hp' : ((a / b).tmod 2 != 0) = false := by have := tdm (a / b) 2 (by decide); have := tdm_bd (a / b) 2 (by decide); simp; omega
      clear hc hp
      go_enter Try.func38, Try.ntmps38
      go_wp2_with (go_at_call 70; refine (r01_Floor _ _ _ ⟨by omega, by omega⟩ hb).mono ?_; rintro e w' ⟨rfl, nq, rfl⟩)
      go_ret
      rw [hR.out]
      exact ⟨rfl, _, rfl⟩
    · have hR := Lib.hid (ratio_even hc hp)
      have hp' : ((a / b).tmod 2 != 0) = true := by have := tdm (a / b) 2 (by decide); have := tdm_bd (a / b) 2 (by decide); simp; omega
      clear hc hp
      go_enter Try.func38, Try.ntmps38
      go_wp2_with (go_at_call 70; refine (r01_Floor _ _ _ ⟨by omega, by omega⟩ hb).mono ?_; rintro e w' ⟨rfl, nq, rfl⟩)
      go_ret
      rw [hR.out]
      exact ⟨rfl, _, rfl⟩
  · have he : b - (a - a / b * b) < a - a / b * b := by have := E1.out; omega
    have hR := Lib.hid (ratio_close hc)
    clear hc
    go_enter Try.func38, Try.ntmps38
    go_wp2_with (go_at_call 70; refine (r01_Floor _ _ _ ⟨by omega, by omega⟩ hb).mono ?_; rintro e w' ⟨rfl, nq, rfl⟩)
    go_ret
    rw [hR.out]
    exact ⟨rfl, _, rfl⟩

theorem r01_Power (n : Nat) (w : World) (hn : n ≤ 62) : Calls Try.prog 69 #[.int .i64 n] w (Ret w (.int .i64 (2 ^ n))) := by
  go_enter Try.func69, Try.ntmps69
  go_wp2
  go_loop [3, 4] (fun o i => ∃ k : Nat, k ≤ n ∧ i = .int .i64 k ∧ o = .int .i64 (2 ^ k)) (fun _ i => n - (intOf i).toNat)
  case atStart => exact ⟨0, Nat.zero_le _, rfl, rfl⟩
  case round =>
    obtain ⟨k, hk, rfl, rfl⟩ := hrel
    by_cases hlt : k < n
    · have h1 := pow2_pos k
      have h2 := pow2_le62 (n := k + 1) (by omega)
      have h3 : (2 : Int) ^ k * 2 ≤ 4611686018427387904 := by rw [Int.pow_succ] at h2; exact h2
      clear h2
      go_wp2
      go_round
      case rel => exact ⟨k + 1, by omega, by go_num, by rw [Int.pow_succ]⟩
      case measure => simp [intOf]; omega
    · obtain rfl : k = n := by omega
      go_wp2
      go_ret
      exact .of

theorem fix_cut (v l g : Int) (w : World) (h1 : l ≤ g) (h2 : -2147483648 ≤ l) (h3 : g ≤ 2147483647) : Calls Try.prog 74 #[.int .i64 v, .int .i64 l, .int .i64 g] w (Ret w (.int .i32 (cutI v l g))) := by
  have e : cutI v l g = if v < l then l else if g < v then g else v := rfl
  rw [e]
  by_cases h4 : v < l
  · rw [if_pos h4]
    go_enter Try.func74, Try.ntmps74
    go_wp2
    go_ret
    exact .of
  · by_cases h5 : g < v
    · rw [if_neg h4, if_pos h5]
      go_enter Try.func74, Try.ntmps74
      go_wp2
      go_ret
      exact .of
    · rw [if_neg h4, if_neg h5]
      go_enter Try.func74, Try.ntmps74
      go_wp2
      go_ret
      exact .of

theorem fix_Wide (v : Int) (w : World) : Calls Try.prog 66 #[.int .i64 v] w (Ret w (.int .i32 (wideI v))) := by
  go_enter Try.func66, Try.ntmps66
  go_wp2_with (go_at_call 74; refine (fix_cut _ _ _ _ (by omega) (by omega) (by omega)).mono ?_; rintro e w' ⟨rfl, nq, rfl⟩)
  go_ret
  exact .drawn _

theorem fix_Narrow (v : Int) (w : World) : Calls Try.prog 46 #[.int .i64 v] w (Ret w (.int .i32 (narrowI v))) := by
  go_enter Try.func46, Try.ntmps46
  go_wp2_with (go_at_call 74; refine (fix_cut _ _ _ _ (by omega) (by omega) (by omega)).mono ?_; rintro e w' ⟨rfl, nq, rfl⟩)
  go_ret
  exact .drawn _

theorem fix_Sub (a b : Int) (w : World) (ha : InK .i32 a) (hb : InK .i32 b) : Calls Try.prog 44 #[.int .i32 a, .int .i32 b] w (Ret w (.int .i32 (wideI (a - b)))) := by
  obtain ⟨a1, a2⟩ := ha
  obtain ⟨b1, b2⟩ := hb
  go_enter Try.func44, Try.ntmps44
  go_wp2_with (go_at_call 66; refine (fix_Wide _ _).mono ?_; rintro e w' ⟨rfl, nq, rfl⟩)
  go_ret
  exact .drawn _

/-- Divided by a power of two. -/
def halfI (v : Int) (n : Int) : Int := ratioI v (2 ^ (cutI n 0 62).toNat)

theorem r01_Half (v n : Int) (w : World) (h1 : -4611686018427387904 ≤ v) (h2 : v ≤ 4611686018427387904) : Calls Try.prog 76 #[.int .i64 v, .int .i64 n] w (Ret w (.int .i64 (halfI v n))) := by
  obtain ⟨c1, c2⟩ : 0 ≤ cutI n 0 62 ∧ cutI n 0 62 ≤ 62 := by unfold cutI; split <;> (try split) <;> omega
  unfold halfI
  generalize hk : cutI n 0 62 = k at *
  obtain ⟨k, rfl⟩ := Int.eq_ofNat_of_zero_le c1
  have HK := Lib.hid hk
  clear hk
  have p1 := pow2_pos k
  have p2 := pow2_le62 (n := k) (by omega)
  go_enter Try.func76, Try.ntmps76
  go_wp2_with (first
    | (go_at_call 71; refine (r01_Cut _ _ _ _).mono ?_; rintro e w' ⟨rfl, nq, rfl⟩; rw [HK.out])
    | (go_at_call 69; refine (r01_Power _ _ (by omega)).mono ?_; rintro e w' ⟨rfl, nq, rfl⟩)
    | (go_at_call 38; refine (r01_Ratio _ _ _ h1 h2 p1 p2).mono ?_; rintro e w' ⟨rfl, nq, rfl⟩))
  go_ret
  exact .drawn _

theorem r01_Mul (a b : Int) (w : World) (h1 : InK .i32 a) (h2 : InK .i32 b) : Calls Try.prog 50 #[.int .i32 a, .int .i32 b] w (Ret w (.int .i32 (wideI (ratioI (a * b) 65536)))) := by
  have hm : -4611686018427387904 ≤ a * b ∧ a * b ≤ 4611686018427387904 := by
    obtain ⟨a1, a2⟩ := h1
    obtain ⟨b1, b2⟩ := h2
    have e1 : (a * b).natAbs ≤ 2147483648 * 2147483648 := by rw [Int.natAbs_mul]; exact Nat.mul_le_mul (by omega) (by omega)
    omega
  obtain ⟨m1, m2⟩ := hm
  obtain ⟨a1, a2⟩ := h1
  obtain ⟨b1, b2⟩ := h2
  go_enter Try.func50, Try.ntmps50
  go_wp2_with (first
    | (go_at_call 38; refine (r01_Ratio _ _ _ m1 m2 (by omega) (by omega)).mono ?_; rintro e w' ⟨rfl, nq, rfl⟩)
    | (go_at_call 39; refine (r01_Wide _ _).mono ?_; rintro e w' ⟨rfl, nq, rfl⟩))
  go_ret
  exact .drawn _

theorem half_rest {v : Int} {k : Nat} : v / 2 ^ k * 2 ^ k ≤ v ∧ v - v / 2 ^ k * 2 ^ k = v % 2 ^ k ∧ v % 2 ^ k < 2 ^ k ∧ 0 ≤ v % 2 ^ k := by
  have p := pow2_pos k
  have e := Int.emod_def v (2 ^ k)
  rw [Int.mul_comm] at e
  have l1 := Int.emod_lt_of_pos v p
  have l2 := Int.emod_nonneg v (b := 2 ^ k) (by omega)
  omega

theorem halfI_in {v n : Int} (h1 : 0 ≤ n) (h2 : n ≤ 62) : halfI v n = ratioI v (2 ^ n.toNat) := by
  unfold halfI cutI; rw [if_neg (by omega), if_neg (by omega)]

theorem fix_Half (v n : Int) (w : World) (v1 : -4611686018427387904 ≤ v) (v2 : v ≤ 4611686018427387904) (c1 : 0 ≤ n) (c2 : n ≤ 62) : Calls Try.prog 67 #[.int .i64 v, .int .i64 n] w (Ret w (.int .i64 (halfI v n))) := by
  rw [halfI_in c1 c2]
  obtain ⟨k, rfl⟩ := Int.eq_ofNat_of_zero_le c1
  rw [Int.toNat_natCast]
  have p1 := pow2_pos k
  have p2 := pow2_le62 (n := k) (by omega)
  obtain ⟨r1, r2, r3, r4⟩ := half_rest (v := v) (k := k)
  have r5 : -9223372036854775808 ≤ v / 2 ^ k * 2 ^ k := by omega
  have hhalf : (0 < k → (2 : Int) ^ k = 2 * (2 ^ k / 2)) := fun h => by
    obtain ⟨j, rfl⟩ : ∃ j, k = j + 1 := ⟨k - 1, by omega⟩
    rw [Int.pow_succ]; omega
  have l1 : v / 2 ^ k ≤ v ∨ v ≤ 0 := by
    rcases Int.lt_or_le 0 v with h | h
    · exact .inl (Int.ediv_le_self _ (by omega))
    · exact .inr h
  have l3 : v ≤ v / 2 ^ k ∨ 0 ≤ v := by
    rcases Int.lt_or_le v 0 with h | h
    · left
      rcases Int.lt_or_le (v / 2 ^ k) v with h' | h'
      · have : v / 2 ^ k * 2 ^ k ≤ (v - 1) * 1 := Int.le_trans (Int.mul_le_mul_of_nonneg_right (by omega) (by omega)) (Int.mul_le_mul_of_nonpos_left (by omega) (by omega))
        have : (v / 2 ^ k + 1) * 2 ^ k ≤ v * 2 ^ k := Int.mul_le_mul_of_nonneg_right (by omega) (by omega)
        rw [Int.add_mul, Int.one_mul] at this
        have : v * 2 ^ k ≤ v * 1 := Int.mul_le_mul_of_nonpos_left (by omega) (by omega)
        omega
      · exact h'
    · exact .inr h
  have l5 : v / 2 ^ k ≤ v ∨ v / 2 ^ k ≤ 0 := by
    rcases l1 with h | h
    · exact .inl h
    · right
      rcases Int.lt_or_le 0 (v / 2 ^ k) with h' | h'
      · have : 1 * 2 ^ k ≤ v / 2 ^ k * 2 ^ k := Int.mul_le_mul_of_nonneg_right (by omega) (by omega)
        omega
      · exact h'
  have l6 : v ≤ v / 2 ^ k ∨ 0 ≤ v / 2 ^ k := by
    rcases l3 with h | h
    · exact .inl h
    · exact .inr (Int.ediv_nonneg h (by omega))
  have l2 : -4611686018427387904 ≤ v / 2 ^ k := by omega
  have l4 : v / 2 ^ k ≤ 4611686018427387904 := by omega
  clear l1 l3 l5 l6
  have H2 := Lib.hid r2
  have HH := Lib.hid hhalf
  clear r2 hhalf r4
  have e1 : v - v / 2 ^ k * 2 ^ k ≤ 4611686018427387904 := by have := H2.out; omega
  have e2 : 0 ≤ v - v / 2 ^ k * 2 ^ k := by omega
  by_cases h0 : k = 0
  · subst h0
    have hR : ratioI v (2 ^ (0 : Nat)) = v := by unfold ratioI; simp [Int.emod_one]
    have HR := Lib.hid hR
    clear hR e1 e2 r1 r3 r5 l2 l4 p1 p2 c1 c2
    go_enter Try.func67, Try.ntmps67
    go_wp2
    go_quiet (fail)
    go_wp2
    go_ret
    rw [HR.out]
    exact .drawn _
  · have hk0 : 0 < k := by omega
    rcases Int.lt_trichotomy (2 * (v % 2 ^ k)) (2 ^ k) with hc | hc | hc
    · have he : ¬ (2 : Int) ^ k / 2 < v - v / 2 ^ k * 2 ^ k := by have := H2.out; have := HH.out (by omega); omega
      have he' : (v - v / 2 ^ k * 2 ^ k == 2 ^ k / 2) = false := by have := H2.out; have := HH.out (by omega); simp; omega
      have hR := Lib.hid (ratio_far hc)
      clear hc h0
      go_enter Try.func67, Try.ntmps67
      go_wp2
      go_quiet (fail)
      go_wp2
      go_ret
      rw [hR.out]
      exact .drawn _
    · have he : ¬ (2 : Int) ^ k / 2 < v - v / 2 ^ k * 2 ^ k := by have := H2.out; have := HH.out (by omega); omega
      have he' : (v - v / 2 ^ k * 2 ^ k == 2 ^ k / 2) = true := by have := H2.out; have := HH.out (by omega); simp; omega
      by_cases hp : (v / 2 ^ k) % 2 = 0
      · have hR := Lib.hid (ratio_odd hc hp)
        have hp' : (bits .and .i64 (v / 2 ^ k) 1 == 1) = false := by rw [and1_i64]; simp; omega
        clear hc hp h0
        go_enter Try.func67, Try.ntmps67
        go_wp2
        go_quiet (fail)
        go_wp2
        go_ret
        rw [hR.out]
        exact .drawn _
      · have hR := Lib.hid (ratio_even hc hp)
        have hp' : (bits .and .i64 (v / 2 ^ k) 1 == 1) = true := by rw [and1_i64]; simp; omega
        clear hc hp h0
        go_enter Try.func67, Try.ntmps67
        go_wp2
        go_quiet (fail)
        go_wp2
        go_ret
        rw [hR.out]
        exact .drawn _
    · have he : (2 : Int) ^ k / 2 < v - v / 2 ^ k * 2 ^ k := by have := H2.out; have := HH.out (by omega); omega
      have hR := Lib.hid (ratio_close hc)
      clear hc h0
      go_enter Try.func67, Try.ntmps67
      go_wp2
      go_quiet (fail)
      go_wp2
      go_ret
      rw [hR.out]
      exact .drawn _
end Go.Proofs.Ytkepgkjbhdgbiaa

namespace Go.Proofs.Ytkepgkjbhdgbiaa
open Go.RowKit

theorem fix_Mul (a b : Int) (w : World) (h1 : InK .i32 a) (h2 : InK .i32 b) : Calls Try.prog 65 #[.int .i32 a, .int .i32 b] w (Ret w (.int .i32 (wideI (ratioI (a * b) 65536)))) := by
  have hm : -4611686018427387904 ≤ a * b ∧ a * b ≤ 4611686018427387904 := by
    obtain ⟨a1, a2⟩ := h1
    obtain ⟨b1, b2⟩ := h2
    have e1 : (a * b).natAbs ≤ 2147483648 * 2147483648 := by rw [Int.natAbs_mul]; exact Nat.mul_le_mul (by omega) (by omega)
    omega
  obtain ⟨m1, m2⟩ := hm
  obtain ⟨a1, a2⟩ := h1
  obtain ⟨b1, b2⟩ := h2
  have e : ratioI (a * b) 65536 = halfI (a * b) 16 := (halfI_in (n := 16) (by decide) (by decide)).symm
  rw [e]
  go_enter Try.func65, Try.ntmps65
  go_wp2_with (first
    | (go_at_call 67; refine (fix_Half _ _ _ m1 m2 (by decide) (by decide)).mono ?_; rintro e w' ⟨rfl, nq, rfl⟩)
    | (go_at_call 66; refine (fix_Wide _ _).mono ?_; rintro e w' ⟨rfl, nq, rfl⟩))
  go_ret
  exact .drawn _

def of2I (f : Int) : Int := 65536 + f * (45613 + f * (14743 + f * 5180 / 65536) / 65536) / 65536
/-- The power of a number that isn't above 0. -/
def expT (x : Int) : Int := ratioI (x * 94548) 65536
def expI (x : Int) : Int := if 62 < -(expT x / 65536) then 0 else ratioI (of2I (expT x % 65536)) (2 ^ (-(expT x / 65536)).toNat)
theorem expT_bd {x : Int} (h1 : -2147483648 ≤ x) (h2 : x ≤ 0) : -3098148865 ≤ expT x ∧ expT x ≤ 0 := by
  unfold expT ratioI; split <;> omega

theorem of2_steps {f : Int} (h1 : 0 ≤ f) (h2 : f < 65536) : 0 ≤ f * 5180 / 65536 ∧ f * 5180 / 65536 ≤ 5180 ∧ 0 ≤ f * (14743 + f * 5180 / 65536) ∧ f * (14743 + f * 5180 / 65536) ≤ 1305673728 ∧
    0 ≤ f * (45613 + f * (14743 + f * 5180 / 65536) / 65536) ∧ f * (45613 + f * (14743 + f * 5180 / 65536) / 65536) ≤ 4294967296 := by
  have a1 : 0 ≤ f * 5180 / 65536 := by omega
  have a2 : f * 5180 / 65536 ≤ 5180 := by omega
  generalize f * 5180 / 65536 = q at *
  have a3 : 0 ≤ f * (14743 + q) := Int.mul_nonneg h1 (by omega)
  have a4 : f * (14743 + q) ≤ 65536 * (14743 + q) := Int.mul_le_mul_of_nonneg_right (by omega) (by omega)
  have a5 : 0 ≤ f * (14743 + q) / 65536 := by omega
  have a6 : f * (14743 + q) / 65536 ≤ 19923 := by omega
  generalize f * (14743 + q) / 65536 = r at *
  have a7 : 0 ≤ f * (45613 + r) := Int.mul_nonneg h1 (by omega)
  have a8 : f * (45613 + r) ≤ 65536 * (45613 + r) := Int.mul_le_mul_of_nonneg_right (by omega) (by omega)
  omega

theorem expo_of2 (f : Int) (w : World) (h1 : 0 ≤ f) (h2 : f < 65536) : Calls Try.prog 73 #[.int .i64 f] w (Ret w (.int .i64 (of2I f))) := by
  obtain ⟨a1, a2, a3, a4, a5, a6⟩ := of2_steps h1 h2
  go_enter Try.func73, Try.ntmps73
  go_wp2
  go_ret
  exact .of

theorem of2_bd {f : Int} (h1 : 0 ≤ f) (h2 : f < 65536) : 65536 ≤ of2I f ∧ of2I f ≤ 131072 := by
  have := of2_steps h1 h2
  unfold of2I; omega

theorem expo_Exp (x : Int) (w : World) (h1 : -2147483648 ≤ x) (h2 : x ≤ 0) : Calls Try.prog 43 #[.int .i32 x] w (Ret w (.int .i64 (expI x))) := by
  obtain ⟨t1, t2⟩ := expT_bd h1 h2
  have hT : halfI (x * 94548) 16 = expT x := halfI_in (by decide) (by decide)
  have hT' := Lib.hid hT
  clear hT
  have m1 : -4611686018427387904 ≤ x * 94548 := by omega
  have m2 : x * 94548 ≤ 4611686018427387904 := by omega
  have hmod : expT x - expT x / 65536 * 65536 = expT x % 65536 := by omega
  have HM := Lib.hid hmod
  clear hmod
  unfold expI
  generalize expT x = t at *
  obtain ⟨f1, f2⟩ : 0 ≤ t % 65536 ∧ t % 65536 < 65536 := by omega
  obtain ⟨o1, o2⟩ := of2_bd f1 f2
  by_cases hn : 62 < -(t / 65536)
  · rw [if_pos hn]
    go_enter Try.func43, Try.ntmps43
    go_wp2_with (go_at_call 67; refine (fix_Half _ _ _ m1 m2 (by decide) (by decide)).mono ?_; rintro e w' ⟨rfl, nq, rfl⟩; rw [hT'.out])
    go_ret
    exact .drawn _
  · rw [if_neg hn, ← halfI_in (by omega) (by omega)]
    go_enter Try.func43, Try.ntmps43
    go_wp2_with (first
      | (go_at_call 73; rw [HM.out]; refine (expo_of2 _ _ f1 f2).mono ?_; rintro e w' ⟨rfl, nq, rfl⟩)
      | (go_at_call 67; (with_reducible refine (fix_Half (x * 94548) _ _ m1 m2 (by decide) (by decide)).mono ?_); rintro e w' ⟨rfl, nq, rfl⟩; rw [hT'.out])
      | (go_at_call 67; refine (fix_Half (of2I (t % 65536)) _ _ (by omega) (by omega) (by omega) (by omega)).mono ?_; rintro e w' ⟨rfl, nq, rfl⟩))
    go_ret
    exact .drawn _

theorem r02_Exp (x : Int) (w : World) (h1 : -2147483648 ≤ x) (h2 : x ≤ 0) : Calls Try.prog 55 #[.int .i32 x] w (Ret w (.int .i64 (expI x))) := by
  obtain ⟨t1, t2⟩ := expT_bd h1 h2
  have hT : ratioI (x * 94548) 65536 = expT x := rfl
  have hT' := Lib.hid hT
  clear hT
  have m1 : -4611686018427387904 ≤ x * 94548 := by omega
  have m2 : x * 94548 ≤ 4611686018427387904 := by omega
  have hmod : expT x - expT x / 65536 * 65536 = expT x % 65536 := by omega
  have HM := Lib.hid hmod
  clear hmod
  unfold expI
  generalize expT x = t at *
  obtain ⟨f1, f2⟩ : 0 ≤ t % 65536 ∧ t % 65536 < 65536 := by omega
  obtain ⟨a1, a2, a3, a4, a5, a6⟩ := of2_steps f1 f2
  obtain ⟨o1, o2⟩ := of2_bd f1 f2
  have hO : 65536 + t % 65536 * (45613 + t % 65536 * (14743 + t % 65536 * 5180 / 65536) / 65536) / 65536 = of2I (t % 65536) := rfl
  have HO := Lib.hid hO
  clear hO
  by_cases hn : 62 < -(t / 65536)
  · rw [if_pos hn]
    go_enter Try.func55, Try.ntmps55
    go_upto_region 6 with (first
      | (go_at_call 38; refine (r01_Ratio _ _ _ m1 m2 (by decide) (by decide)).mono ?_; rintro e w' ⟨rfl, nq, rfl⟩; rw [hT'.out])
      | (go_at_call 70; refine (r01_Floor _ _ _ ⟨by omega, by omega⟩ (by decide)).mono ?_; rintro e w' ⟨rfl, nq, rfl⟩))
    rw [HM.out]
    go_wp2
    go_ret
    exact .drawn _
  · rw [if_neg hn, ← halfI_in (by omega) (by omega)]
    go_enter Try.func55, Try.ntmps55
    go_upto_region 6 with (first
      | (go_at_call 38; refine (r01_Ratio _ _ _ m1 m2 (by decide) (by decide)).mono ?_; rintro e w' ⟨rfl, nq, rfl⟩; rw [hT'.out])
      | (go_at_call 70; refine (r01_Floor _ _ _ ⟨by omega, by omega⟩ (by decide)).mono ?_; rintro e w' ⟨rfl, nq, rfl⟩))
    rw [HM.out]
    go_wp2_with (go_at_call 76; rw [HO.out]; refine (r01_Half _ _ _ (by omega) (by omega)).mono ?_; rintro e w' ⟨rfl, nq, rfl⟩)
    go_ret
    exact .drawn _

/-- The root of a whole number, cut. -/
def rootN : Nat → Nat
  | 0 => 0
  | n + 1 => if (rootN n + 1) * (rootN n + 1) ≤ n + 1 then rootN n + 1 else rootN n
theorem rootN_spec (v : Nat) : rootN v * rootN v ≤ v ∧ v < (rootN v + 1) * (rootN v + 1) := by
  induction v with
  | zero => decide
  | succ n ih =>
    unfold rootN
    split
    · rename_i h
      refine ⟨h, ?_⟩
      generalize rootN n = r at *
      simp only [Nat.add_mul, Nat.mul_add] at *
      omega
    · omega
theorem rootN_of {v r : Nat} (h1 : r * r ≤ v) (h2 : v < (r + 1) * (r + 1)) : rootN v = r := by
  obtain ⟨g1, g2⟩ := rootN_spec v
  rcases Nat.lt_trichotomy (rootN v) r with h | h | h
  · have := Nat.mul_le_mul (show rootN v + 1 ≤ r by omega) (show rootN v + 1 ≤ r by omega); omega
  · exact h
  · have := Nat.mul_le_mul (show r + 1 ≤ rootN v by omega) (show r + 1 ≤ rootN v by omega); omega
end Go.Proofs.Ytkepgkjbhdgbiaa
