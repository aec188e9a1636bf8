/- Contracts of functions of the program, and what they need (QMath, QLane, QPack). -/
import Derived.Test.YtkepgkjbhdgbiaaZ3
import Derived.Test.YtkepgkjbhdgbiaaZ5
import Derived.Test.YtkepgkjbhdgbiaaZ8

namespace Go.Proofs.Ytkepgkjbhdgbiaa
open Go.RowKit

/-! Numbers as codes. -/
def stepsI (b : Nat) : Int := 2 ^ b - 1
def gscaleI (x : List Int) (b : Nat) : Int := (maxL x - minL x + stepsI b - 1) / stepsI b
def codeI (x : List Int) (b : Nat) (v : Int) : Int := if gscaleI x b ≤ 0 then 0 else ratioI (v - minL x) (gscaleI x b)

theorem ratio_le {a s S : Int} (h0 : 0 ≤ a) (hs : 0 < s) (h1 : a ≤ S * s) : 0 ≤ ratioI a s ∧ ratioI a s ≤ S := by
  have q0 : 0 ≤ a / s := Int.ediv_nonneg h0 (by omega)
  have q1 : a / s ≤ S := Int.ediv_le_of_le_mul hs h1
  obtain ⟨r1, r2⟩ := ratio_near a s
  refine ⟨by omega, ?_⟩
  rcases Int.lt_or_le (a / s) S with h | h
  · omega
  · have e : a / s = S := by omega
    have h6 := Int.emod_def a s
    have h7 := Int.emod_nonneg a (b := s) (by omega)
    rw [e, Int.mul_comm] at h6
    have h8 : a % s = 0 := by omega
    unfold ratioI
    rw [if_neg (by rw [h8]; omega)]
    omega

def BitsN (b : Nat) : Prop := b = 2 ∨ b = 4 ∨ b = 8

theorem min_max {x : List Int} (h0 : 0 < x.length) (hx : ∀ v ∈ x, InK .i32 v) : InK .i32 (minL x) ∧ InK .i32 (maxL x) ∧ minL x ≤ maxL x :=
  ⟨hx _ (minL_mem h0), hx _ (maxL_mem h0), minL_le (maxL_mem h0)⟩

theorem scale_bd {x : List Int} {b : Nat} (hb : BitsN b) (h0 : 0 < x.length) (hx : ∀ v ∈ x, InK .i32 v) :
    0 ≤ gscaleI x b ∧ gscaleI x b ≤ 1431655765 ∧ maxL x - minL x ≤ stepsI b * gscaleI x b ∧ (gscaleI x b ≤ 0 → maxL x = minL x) := by
  obtain ⟨⟨a1, a2⟩, ⟨b1, b2⟩, hm⟩ := min_max h0 hx
  unfold gscaleI stepsI
  rcases hb with rfl | rfl | rfl
  · have e : (2 : Int) ^ 2 - 1 = 3 := by decide
    rw [e]; refine ⟨by omega, by omega, by omega, by omega⟩
  · have e : (2 : Int) ^ 4 - 1 = 15 := by decide
    rw [e]; refine ⟨by omega, by omega, by omega, by omega⟩
  · have e : (2 : Int) ^ 8 - 1 = 255 := by decide
    rw [e]; refine ⟨by omega, by omega, by omega, by omega⟩

theorem code_bd {x : List Int} {b : Nat} (hb : BitsN b) (hx : ∀ v ∈ x, InK .i32 v) {v : Int} (hv : v ∈ x) : 0 ≤ codeI x b v ∧ codeI x b v ≤ stepsI b := by
  have h0 : 0 < x.length := List.length_pos_of_mem hv
  obtain ⟨s1, s2, s3, s4⟩ := scale_bd hb h0 hx
  have hs : 0 ≤ stepsI b := by rcases hb with rfl | rfl | rfl <;> decide
  unfold codeI
  split
  · exact ⟨Int.le_refl _, hs⟩
  · exact ratio_le (by have := minL_le hv; omega) (by omega) (by have := maxL_ge hv; omega)
theorem steps_bd {b : Nat} (hb : BitsN b) : 3 ≤ stepsI b ∧ stepsI b ≤ 255 := by rcases hb with rfl | rfl | rfl <;> decide
theorem code_flat {x : List Int} {b : Nat} (h : gscaleI x b ≤ 0) (v : Int) : codeI x b v = 0 := by unfold codeI; rw [if_pos h]

/-- The scale as the document reckons it. -/
theorem scale_ref {x : List Int} {b : Nat} (hb : BitsN b) (h0 : 0 < x.length) (hx : ∀ v ∈ x, InK .i32 v) :
    (if (maxL x - minL x) / stepsI b * stepsI b < maxL x - minL x then (maxL x - minL x) / stepsI b + 1 else (maxL x - minL x) / stepsI b) = gscaleI x b := by
  obtain ⟨⟨a1, a2⟩, ⟨b1, b2⟩, hm⟩ := min_max h0 hx
  unfold gscaleI stepsI
  generalize maxL x - minL x = D at *
  rcases hb with rfl | rfl | rfl
  · have e : (2 : Int) ^ 2 - 1 = 3 := by decide
    rw [e]; split <;> omega
  · have e : (2 : Int) ^ 4 - 1 = 15 := by decide
    rw [e]; split <;> omega
  · have e : (2 : Int) ^ 8 - 1 = 255 := by decide
    rw [e]; split <;> omega

/-! Codes in words: a word is told by its lanes. -/
def numTo (b : Nat) (f : Nat → Int) (m : Nat) : Int := sumTo (fun t => f t * 2 ^ (t * b)) m
theorem numTo_bd {b : Nat} {f : Nat → Int} {m : Nat} (h : ∀ t, t < m → 0 ≤ f t ∧ f t < 2 ^ b) : 0 ≤ numTo b f m ∧ numTo b f m < 2 ^ (m * b) := by
  induction m with
  | zero => simp [numTo, sumTo]
  | succ m ih =>
    obtain ⟨i1, i2⟩ := ih fun t ht => h t (by omega)
    obtain ⟨f1, f2⟩ := h m (by omega)
    have e : numTo b f (m + 1) = numTo b f m + f m * 2 ^ (m * b) := rfl
    have hp := pow2_pos (m * b)
    have e2 : (2 : Int) ^ ((m + 1) * b) = 2 ^ (m * b) * 2 ^ b := by rw [Nat.add_mul, Nat.one_mul, Int.pow_add]
    rw [e, e2]
    have m1 : 0 ≤ f m * 2 ^ (m * b) := Int.mul_nonneg f1 (by omega)
    have m2 : (f m + 1) * 2 ^ (m * b) ≤ 2 ^ b * 2 ^ (m * b) := Int.mul_le_mul_of_nonneg_right (by omega) (by omega)
    rw [Int.add_mul, Int.one_mul] at m2
    rw [Int.mul_comm (2 ^ (m * b)) (2 ^ b)]
    omega
theorem numTo_lane {b : Nat} {f : Nat → Int} {m : Nat} (h : ∀ t, t < m → 0 ≤ f t ∧ f t < 2 ^ b) {t : Nat} (ht : t < m) : numTo b f m / 2 ^ (t * b) % 2 ^ b = f t := by
  induction m with
  | zero => omega
  | succ m ih =>
    have hb := pow2_pos b
    have ht0 := pow2_pos (t * b)
    have e : numTo b f (m + 1) = numTo b f m + f m * 2 ^ (m * b) := rfl
    rw [e]
    rcases Nat.lt_or_ge t m with h1 | h1
    · have e2 : (2 : Int) ^ (m * b) = 2 ^ ((m - t - 1) * b) * 2 ^ b * 2 ^ (t * b) := by
        rw [← Int.pow_add, ← Int.pow_add]; congr 1
        obtain ⟨d, rfl⟩ : ∃ d, m = t + 1 + d := ⟨m - t - 1, by omega⟩
        rw [show t + 1 + d - t - 1 = d by omega, Nat.add_mul, Nat.add_mul]; omega
      rw [e2, ← Int.mul_assoc, Int.add_mul_ediv_right _ _ (by omega), ← Int.mul_assoc, Int.add_mul_emod_self_right]
      exact ih (fun t ht => h t (by omega)) h1
    · obtain rfl : t = m := by omega
      obtain ⟨i1, i2⟩ := numTo_bd (m := t) fun t ht => h t (by omega)
      rw [Int.add_mul_ediv_right _ _ (by omega), Int.ediv_eq_zero_of_lt i1 i2, Int.zero_add]
      exact Int.emod_eq_of_lt (h t (by omega)).1 (h t (by omega)).2
theorem numTo_congr {b : Nat} {f g : Nat → Int} {m : Nat} (h : ∀ t, t < m → f t = g t) : numTo b f m = numTo b g m := sumTo_congr fun t ht => by rw [h t ht]
theorem numTo_zeros {b : Nat} {f : Nat → Int} {k : Nat} : ∀ m, k ≤ m → (∀ t, k ≤ t → t < m → f t = 0) → numTo b f m = numTo b f k
  | 0, h, _ => by rw [Nat.le_zero.1 h]
  | m + 1, h, hz => by
    rcases Nat.lt_or_ge m k with h1 | h1
    · obtain rfl : k = m + 1 := by omega
      rfl
    · have e : numTo b f (m + 1) = numTo b f m + f m * 2 ^ (m * b) := rfl
      rw [e, hz m h1 (by omega), Int.zero_mul, Int.add_zero]
      exact numTo_zeros m h1 fun t h2 h3 => hz t h2 (by omega)
theorem numTo_set {b : Nat} {f g : Nat → Int} {m k : Nat} (hk : k < m) (h1 : ∀ t, t < k → f t = g t) (h2 : ∀ t, k ≤ t → t < m → f t = 0) (h3 : ∀ t, k < t → t < m → g t = 0) : numTo b g m = numTo b f m + g k * 2 ^ (k * b) ∧ numTo b f m = numTo b f k := by
  have e1 : numTo b f m = numTo b f k := numTo_zeros m (by omega) h2
  have e2 : numTo b g m = numTo b g (k + 1) := numTo_zeros m (by omega) fun t ht => h3 t (by omega)
  refine ⟨?_, e1⟩
  rw [e1, e2]
  show numTo b g k + _ = _
  rw [numTo_congr h1]

/-- Word j of the first k codes. -/
def wordTo (cs : List Int) (b k j : Nat) : Int := numTo b (fun t => if j * (64 / b) + t < k then cs.getD (j * (64 / b) + t) 0 else 0) (64 / b)
def wordsN (n b : Nat) : Nat := (n * b + 63) / 64
def packTo (cs : List Int) (b k : Nat) : List Int := (List.range (wordsN cs.length b)).map (wordTo cs b k)
def packL (cs : List Int) (b : Nat) : List Int := packTo cs b cs.length

theorem wordTo_bd {cs : List Int} {b k j : Nat} (hb : BitsN b) (hc : ∀ c ∈ cs, 0 ≤ c ∧ c ≤ stepsI b) : 0 ≤ wordTo cs b k j ∧ wordTo cs b k j ≤ 18446744073709551615 := by
  have h := numTo_bd (b := b) (m := 64 / b) (f := fun t => if j * (64 / b) + t < k then cs.getD (j * (64 / b) + t) 0 else 0) fun t _ => by
    have hp := pow2_pos b
    have hs : stepsI b = 2 ^ b - 1 := rfl
    split
    · rcases Nat.lt_or_ge (j * (64 / b) + t) cs.length with h1 | h1
      · rw [getD_at h1]; have := hc _ (List.getElem_mem h1); omega
      · rw [List.getD_eq_getElem?_getD, List.getElem?_eq_none h1]; simp; omega
    · omega
  have e : (2 : Int) ^ (64 / b * b) = 18446744073709551616 := by rcases hb with rfl | rfl | rfl <;> decide
  rw [e] at h
  unfold wordTo
  omega
theorem packTo_zero (cs : List Int) (b : Nat) : packTo cs b 0 = List.replicate (wordsN cs.length b) 0 := by
  unfold packTo
  apply List.ext_getElem
  · simp
  · intro i h1 h2
    simp only [List.getElem_map, List.getElem_range, List.getElem_replicate]
    have : wordTo cs b 0 i = numTo b (fun t => 0) 0 := by
      unfold wordTo
      rw [numTo_congr (g := fun _ => 0) (fun t _ => by simp)]
      exact numTo_zeros _ (Nat.zero_le _) fun t _ _ => rfl
    rw [this]; rfl
theorem packTo_len (cs : List Int) (b k : Nat) : (packTo cs b k).length = wordsN cs.length b := by simp [packTo]
theorem packTo_get {cs : List Int} {b k j : Nat} (h : j < wordsN cs.length b) : (packTo cs b k)[j]'(by rw [packTo_len]; exact h) = wordTo cs b k j := by simp [packTo]
/-- One code more. -/
theorem word_step {cs : List Int} {b k : Nat} (hb : BitsN b) (hc : ∀ c ∈ cs, 0 ≤ c ∧ c ≤ stepsI b) (hk : k < cs.length) :
    wordTo cs b (k + 1) (k * b / 64) = wordTo cs b k (k * b / 64) + cs[k] * 2 ^ (k * b % 64) ∧ wordTo cs b k (k * b / 64) < 2 ^ (k * b % 64) ∧ ∀ j, j ≠ k * b / 64 → wordTo cs b (k + 1) j = wordTo cs b k j := by
  have hj : k * b / 64 = k / (64 / b) ∧ k * b % 64 = (k % (64 / b)) * b ∧ 0 < 64 / b := by
    rcases hb with rfl | rfl | rfl
    · refine ⟨?_, ?_, by decide⟩ <;> simp <;> omega
    · refine ⟨?_, ?_, by decide⟩ <;> simp <;> omega
    · refine ⟨?_, ?_, by decide⟩ <;> simp <;> omega
  obtain ⟨j1, j2, j3⟩ := hj
  rw [j1, j2]
  have hdm : k / (64 / b) * (64 / b) + k % (64 / b) = k := by rw [Nat.mul_comm]; exact Nat.div_add_mod k (64 / b)
  have hlt : k % (64 / b) < 64 / b := Nat.mod_lt _ j3
  generalize hq : k / (64 / b) = q at *
  generalize hr : k % (64 / b) = r at *
  have hs := numTo_set (b := b) (f := fun t => if q * (64 / b) + t < k then cs.getD (q * (64 / b) + t) 0 else 0) (g := fun t => if q * (64 / b) + t < k + 1 then cs.getD (q * (64 / b) + t) 0 else 0) hlt
    (fun t ht => by rw [if_pos (by omega), if_pos (by omega)]) (fun t ht _ => by rw [if_neg (by omega)]) (fun t ht _ => by rw [if_neg (by omega)])
  refine ⟨?_, ?_, fun j hj => ?_⟩
  · unfold wordTo
    rw [hs.1, if_pos (by omega), hdm, getD_at hk]
  · unfold wordTo
    rw [hs.2]
    refine (numTo_bd fun t ht => ?_).2
    rw [if_pos (by omega), getD_at (show q * (64 / b) + t < cs.length by omega)]
    have := hc _ (List.getElem_mem (show q * (64 / b) + t < cs.length by omega))
    have hs : stepsI b = 2 ^ b - 1 := rfl
    omega
  · unfold wordTo
    refine numTo_congr fun t ht => ?_
    have hne : j * (64 / b) + t ≠ k := fun e => hj (by
      have := Nat.mul_add_div j3 j t
      rw [Nat.mul_comm] at this
      rw [e, Nat.div_eq_of_lt ht] at this
      omega)
    by_cases h : j * (64 / b) + t < k
    · rw [if_pos h, if_pos (by omega)]
    · rw [if_neg h, if_neg (by omega)]
theorem packTo_step {cs : List Int} {b k : Nat} (hb : BitsN b) (hc : ∀ c ∈ cs, 0 ≤ c ∧ c ≤ stepsI b) (hk : k < cs.length) :
    packTo cs b (k + 1) = (packTo cs b k).set (k * b / 64) (wordTo cs b k (k * b / 64) + cs[k] * 2 ^ (k * b % 64)) := by
  obtain ⟨h1, _, h3⟩ := word_step hb hc hk
  apply List.ext_getElem
  · simp [packTo]
  · intro i i1 i2
    rw [List.getElem_set]
    rw [packTo_len] at i1
    rw [packTo_get i1]
    split
    · rename_i h; subst h; exact h1
    · rename_i h; rw [packTo_get i1]; exact h3 i (fun e => h e.symm)
theorem packL_in {cs : List Int} {b : Nat} (hb : BitsN b) (hc : ∀ c ∈ cs, 0 ≤ c ∧ c ≤ stepsI b) : ∀ x ∈ packL cs b, InK .u64 x := by
  intro x hx
  unfold packL packTo at hx
  obtain ⟨j, _, rfl⟩ := List.mem_map.1 hx
  exact wordTo_bd hb hc
theorem packL_len (cs : List Int) (b : Nat) : (packL cs b).length = wordsN cs.length b := packTo_len _ _ _
theorem word_lt {n b i : Nat} (hb : BitsN b) (hi : i < n) : i * b / 64 < wordsN n b := by
  unfold wordsN
  rcases hb with rfl | rfl | rfl <;> omega
end Go.Proofs.Ytkepgkjbhdgbiaa

namespace Go.Proofs.Ytkepgkjbhdgbiaa
open Go.RowKit

theorem lane_pack {cs : List Int} {b i : Nat} (hb : BitsN b) (hc : ∀ c ∈ cs, 0 ≤ c ∧ c ≤ stepsI b) (hi : i < cs.length) : laneI (packL cs b) i b = cs[i] := by
  have hj : i * b / 64 = i / (64 / b) ∧ i * b % 64 = (i % (64 / b)) * b ∧ 0 < 64 / b := by
    rcases hb with rfl | rfl | rfl
    · refine ⟨?_, ?_, by decide⟩ <;> simp <;> omega
    · refine ⟨?_, ?_, by decide⟩ <;> simp <;> omega
    · refine ⟨?_, ?_, by decide⟩ <;> simp <;> omega
  have hw := word_lt hb hi
  unfold laneI
  rw [getD_at (by rw [packL_len]; exact hw)]
  have e : (packL cs b)[i * b / 64]'(by rw [packL_len]; exact hw) = wordTo cs b cs.length (i * b / 64) := packTo_get hw
  rw [e]
  obtain ⟨j1, j2, j3⟩ := hj
  rw [j1, j2]
  have hdm : i / (64 / b) * (64 / b) + i % (64 / b) = i := by rw [Nat.mul_comm]; exact Nat.div_add_mod i (64 / b)
  have hlt : i % (64 / b) < 64 / b := Nat.mod_lt _ j3
  generalize i / (64 / b) = q at *
  generalize i % (64 / b) = r at *
  unfold wordTo
  rw [numTo_lane (fun t _ => ?_) hlt]
  · rw [if_pos (by omega), hdm, getD_at hi]
  · have hp := pow2_pos b
    split
    · rename_i h
      rw [getD_at h]
      have := hc _ (List.getElem_mem h)
      have hs : stepsI b = 2 ^ b - 1 := rfl
      omega
    · omega

theorem info_u64 : (Try.prog.info? 122).map (fun i => (i.zero, i.size, i.bytes)) = some (some (.int .u64 0), 1, 8) := by kernel_rfl

theorem pack_many (n : Nat) (h : n ≤ 256) (w : World) : Calls Try.prog 85 #[.int .i64 n] w (Ret w (.bool true)) := by
  have hd : decide ((n : Int) ≤ 256) = true := by simp; omega
  go_enter Try.func85, Try.ntmps85
  go_wp2
  go_ret
  exact ⟨rfl, 0, rfl⟩

theorem pack_Words (n : Nat) (b : Nat) (hn : n ≤ 256) (hb : BitsN b) (w : World) : Calls Try.prog 87 #[.int .i64 n, .int .i64 b] w (Ret w (.int .i64 (wordsN n b))) := by
  have hB := fun W => bits_yes (b := (b : Int)) (by rcases hb with rfl | rfl | rfl <;> simp) W
  have hM := fun W => pack_many n hn W
  have HB := Lib.hid hB
  have HM := Lib.hid hM
  clear hB hM
  have e2 : ((wordsN n 2 : Nat) : Int) = ((n : Int) * 2 + 64 - 1) / 64 := by unfold wordsN; omega
  have e4 : ((wordsN n 4 : Nat) : Int) = ((n : Int) * 4 + 64 - 1) / 64 := by unfold wordsN; omega
  have e8 : ((wordsN n 8 : Nat) : Int) = ((n : Int) * 8 + 64 - 1) / 64 := by unfold wordsN; omega
  have E := Lib.hid (And.intro e2 (And.intro e4 e8))
  clear e2 e4 e8
  rcases hb with rfl | rfl | rfl
  all_goals
    go_enter Try.func87, Try.ntmps87
    go_wp2_with (first
      | (go_at_call 56; refine (HB.out _).mono ?_; rintro e w' ⟨rfl, nq, rfl⟩)
      | (go_at_call 85; refine (HM.out _).mono ?_; rintro e w' ⟨rfl, nq, rfl⟩))
    go_ret
    refine ⟨?_, (by first | exact ⟨_, rfl⟩ | exact ⟨_, World.drewN_drewN ..⟩ | exact ⟨_, (World.drewN_drewN ..).trans (World.drewN_drewN ..)⟩)⟩
    first | rw [E.out.1] | rw [E.out.2.1] | rw [E.out.2.2]
    rfl
end Go.Proofs.Ytkepgkjbhdgbiaa

namespace Go.Proofs.Ytkepgkjbhdgbiaa
open Go.RowKit

theorem pack_cl (x : Int) (b : Nat) (hb : BitsN b) (ad : Addr) (w : World) (hc : w.cell? ad = some (.int .i64 b)) : Calls Try.prog 86 #[.int .i64 x, .pointer (some ad)] w (Ret w (.bool (decide (x < 0) || decide (2 ^ b ≤ x)))) := by
  by_cases h1 : x < 0
  · have hf : (decide (x < 0) || decide (2 ^ b ≤ x)) = true := by simp [h1]
    rw [hf]
    clear hf
    go_enter Try.func86, Try.ntmps86
    go_wp2
    go_ret
    exact ⟨rfl, 0, rfl⟩
  · rcases hb with rfl | rfl | rfl
    all_goals
      generalize hq : (decide (x < 0) || decide (2 ^ _ ≤ x)) = q
      have HQ := Lib.hid hq
      clear hq
      go_enter Try.func86, Try.ntmps86
      go_wp2
      go_ret
      exact ⟨by rw [← HQ.out]; simp; intro h; omega, 0, rfl⟩
theorem group_cl2 (x : Int) (b : Nat) (hb : BitsN b) (ad : Addr) (w : World) (hc : w.cell? ad = some (.int .i64 b)) : Calls Try.prog 84 #[.int .i64 x, .pointer (some ad)] w (Ret w (.bool (decide (x < 0) || decide (2 ^ b ≤ x)))) := by
  by_cases h1 : x < 0
  · have hf : (decide (x < 0) || decide (2 ^ b ≤ x)) = true := by simp [h1]
    rw [hf]
    clear hf
    go_enter Try.func84, Try.ntmps84
    go_wp2
    go_ret
    exact ⟨rfl, 0, rfl⟩
  · rcases hb with rfl | rfl | rfl
    all_goals
      generalize hq : (decide (x < 0) || decide (2 ^ _ ≤ x)) = q
      have HQ := Lib.hid hq
      clear hq
      go_enter Try.func84, Try.ntmps84
      go_wp2
      go_ret
      exact ⟨by rw [← HQ.out]; simp; intro h; omega, 0, rfl⟩
theorem group_cl1 (x : Int) (w : World) : Calls Try.prog 83 #[.int .i64 x] w (Ret w (.bool (x != 0))) := by
  go_enter Try.func83, Try.ntmps83
  go_wp2
  go_ret
  exact ⟨rfl, 0, rfl⟩

theorem pack_any_idx {F : Nat → Prop} {w : World} (bn : Nat) (hbn : BitsN bn) (adb : Addr) (hcl0 : w.cell? adb = some (.int .i64 bn)) {v : Value} {l : List Int} (h : Sl F w (IntV .i64) v l) (b : Bool) (hb : l.any (fun x => decide (x < 0) || decide (2 ^ bn ≤ x)) = b) : Calls Try.prog 90 #[v, .func (.func 86) #[] #[.pointer (some adb)]] w (IdxR w b) := by
  obtain ⟨A, c, rfl, hc, hm⟩ := h.form
  have HB := Lib.hid hb
  clear hb
  go_enter Try.func90, Try.ntmps90
  go_wp2
  go_loopg [8] l.length (fun g v8 wr => ∃ k : Nat, k ≤ l.length ∧ v8 = .int .i64 k ∧ g = l.length - k ∧ (l.take k).any (fun x => decide (x < 0) || decide (2 ^ bn ≤ x)) = false ∧ ∃ n, wr = w.drewN n)
  case atStart => exact ⟨0, Nat.zero_le _, rfl, by omega, by simp, 0, rfl⟩
  case round =>
    obtain ⟨k, hk, rfl, hg, he, n, rfl⟩ := hrel
    have HG := Lib.hid hg
    have HE := Lib.hid he
    clear hg he
    by_cases hlt : k < l.length
    · obtain ⟨ad, u, rfl, _, hu, rfl, hx1, hx2⟩ := h.at_ rfl hlt
      generalize hx : l[k] = x at hu hx1 hx2
      have hcl := pack_cl x bn hbn adb (w.drewN n) hcl0
      obtain ⟨bb, hp⟩ : ∃ bb, ((fun x => decide (x < 0) || decide (2 ^ bn ≤ x)) : Int → Bool) x = bb := ⟨_, rfl⟩
      have HP := Lib.hid hp
      try dsimp only at hp
      rw [hp] at hcl
      have HX := Lib.hid hx
      have HC := Lib.hid hcl
      clear hx hp hcl
      cases bb
      · go_wp2_with (go_at_call 86; refine (HC.out).mono ?_; rintro e w' ⟨rfl, nq, rfl⟩)
        go_roundg (l.length - (k + 1))
        case rel => exact ⟨k + 1, by omega, by go_num, by omega, by rw [List.take_succ_eq_append_getElem hlt, List.any_append, HE.out, HX.out]; simpa using HP.out, (by first | exact ⟨_, rfl⟩ | exact ⟨_, World.drewN_drewN ..⟩ | exact ⟨_, (World.drewN_drewN ..).trans (World.drewN_drewN ..)⟩)⟩
        case measure => rw [HG.out]; omega
      · have ha : l.any (fun x => decide (x < 0) || decide (2 ^ bn ≤ x)) = true := List.any_eq_true.2 ⟨l[k], List.getElem_mem hlt, by rw [HX.out]; exact HP.out⟩
        have hbt : b = true := HB.out.symm.trans ha
        clear ha HB
        subst hbt
        go_wp2_with (go_at_call 86; refine (HC.out).mono ?_; rintro e w' ⟨rfl, nq, rfl⟩)
        go_ret
        exact ⟨k, rfl, by omega, by omega, by simp, (by first | exact ⟨_, rfl⟩ | exact ⟨_, World.drewN_drewN ..⟩ | exact ⟨_, (World.drewN_drewN ..).trans (World.drewN_drewN ..)⟩)⟩
    · obtain rfl : k = l.length := by omega
      have hbf : b = false := by have := HE.out; rw [List.take_length] at this; exact HB.out.symm.trans this
      clear HB HE
      subst hbf
      go_wp2
      go_ret
      exact ⟨-1, rfl, by omega, by omega, by simp, (by first | exact ⟨_, rfl⟩ | exact ⟨_, World.drewN_drewN ..⟩ | exact ⟨_, (World.drewN_drewN ..).trans (World.drewN_drewN ..)⟩)⟩
theorem pack_any {F : Nat → Prop} {w : World} (bn : Nat) (hbn : BitsN bn) (adb : Addr) (hcl0 : w.cell? adb = some (.int .i64 bn)) {v : Value} {l : List Int} (h : Sl F w (IntV .i64) v l) (b : Bool) (hb : l.any (fun x => decide (x < 0) || decide (2 ^ bn ≤ x)) = b) : Calls Try.prog 82 #[v, .func (.func 86) #[] #[.pointer (some adb)]] w (Ret w (.bool b)) := by
  go_enter Try.func82, Try.ntmps82
  go_wp2_with (go_at_call 90; refine (pack_any_idx bn hbn adb hcl0 h b hb).mono ?_; rintro e w' ⟨r, rfl, hr1, hr2, hr3, nq, rfl⟩; have HR := Lib.hid hr3; clear hr3)
  all_goals
    go_ret
    refine ⟨?_, (by first | exact ⟨_, rfl⟩ | exact ⟨_, World.drewN_drewN ..⟩ | exact ⟨_, (World.drewN_drewN ..).trans (World.drewN_drewN ..)⟩)⟩
    have h3 := HR.out
    subst h3
    first | rfl | (simp; omega)
theorem group_any2_idx {F : Nat → Prop} {w : World} (bn : Nat) (hbn : BitsN bn) (adb : Addr) (hcl0 : w.cell? adb = some (.int .i64 bn)) {v : Value} {l : List Int} (h : Sl F w (IntV .i64) v l) (b : Bool) (hb : l.any (fun x => decide (x < 0) || decide (2 ^ bn ≤ x)) = b) : Calls Try.prog 90 #[v, .func (.func 84) #[] #[.pointer (some adb)]] w (IdxR w b) := by
  obtain ⟨A, c, rfl, hc, hm⟩ := h.form
  have HB := Lib.hid hb
  clear hb
  go_enter Try.func90, Try.ntmps90
  go_wp2
  go_loopg [8] l.length (fun g v8 wr => ∃ k : Nat, k ≤ l.length ∧ v8 = .int .i64 k ∧ g = l.length - k ∧ (l.take k).any (fun x => decide (x < 0) || decide (2 ^ bn ≤ x)) = false ∧ ∃ n, wr = w.drewN n)
  case atStart => exact ⟨0, Nat.zero_le _, rfl, by omega, by simp, 0, rfl⟩
  case round =>
    obtain ⟨k, hk, rfl, hg, he, n, rfl⟩ := hrel
    have HG := Lib.hid hg
    have HE := Lib.hid he
    clear hg he
    by_cases hlt : k < l.length
    · obtain ⟨ad, u, rfl, _, hu, rfl, hx1, hx2⟩ := h.at_ rfl hlt
      generalize hx : l[k] = x at hu hx1 hx2
      have hcl := group_cl2 x bn hbn adb (w.drewN n) hcl0
      obtain ⟨bb, hp⟩ : ∃ bb, ((fun x => decide (x < 0) || decide (2 ^ bn ≤ x)) : Int → Bool) x = bb := ⟨_, rfl⟩
      have HP := Lib.hid hp
      try dsimp only at hp
      rw [hp] at hcl
      have HX := Lib.hid hx
      have HC := Lib.hid hcl
      clear hx hp hcl
      cases bb
      · go_wp2_with (go_at_call 84; refine (HC.out).mono ?_; rintro e w' ⟨rfl, nq, rfl⟩)
        go_roundg (l.length - (k + 1))
        case rel => exact ⟨k + 1, by omega, by go_num, by omega, by rw [List.take_succ_eq_append_getElem hlt, List.any_append, HE.out, HX.out]; simpa using HP.out, (by first | exact ⟨_, rfl⟩ | exact ⟨_, World.drewN_drewN ..⟩ | exact ⟨_, (World.drewN_drewN ..).trans (World.drewN_drewN ..)⟩)⟩
        case measure => rw [HG.out]; omega
      · have ha : l.any (fun x => decide (x < 0) || decide (2 ^ bn ≤ x)) = true := List.any_eq_true.2 ⟨l[k], List.getElem_mem hlt, by rw [HX.out]; exact HP.out⟩
        have hbt : b = true := HB.out.symm.trans ha
        clear ha HB
        subst hbt
        go_wp2_with (go_at_call 84; refine (HC.out).mono ?_; rintro e w' ⟨rfl, nq, rfl⟩)
        go_ret
        exact ⟨k, rfl, by omega, by omega, by simp, (by first | exact ⟨_, rfl⟩ | exact ⟨_, World.drewN_drewN ..⟩ | exact ⟨_, (World.drewN_drewN ..).trans (World.drewN_drewN ..)⟩)⟩
    · obtain rfl : k = l.length := by omega
      have hbf : b = false := by have := HE.out; rw [List.take_length] at this; exact HB.out.symm.trans this
      clear HB HE
      subst hbf
      go_wp2
      go_ret
      exact ⟨-1, rfl, by omega, by omega, by simp, (by first | exact ⟨_, rfl⟩ | exact ⟨_, World.drewN_drewN ..⟩ | exact ⟨_, (World.drewN_drewN ..).trans (World.drewN_drewN ..)⟩)⟩
theorem group_any2 {F : Nat → Prop} {w : World} (bn : Nat) (hbn : BitsN bn) (adb : Addr) (hcl0 : w.cell? adb = some (.int .i64 bn)) {v : Value} {l : List Int} (h : Sl F w (IntV .i64) v l) (b : Bool) (hb : l.any (fun x => decide (x < 0) || decide (2 ^ bn ≤ x)) = b) : Calls Try.prog 82 #[v, .func (.func 84) #[] #[.pointer (some adb)]] w (Ret w (.bool b)) := by
  go_enter Try.func82, Try.ntmps82
  go_wp2_with (go_at_call 90; refine (group_any2_idx bn hbn adb hcl0 h b hb).mono ?_; rintro e w' ⟨r, rfl, hr1, hr2, hr3, nq, rfl⟩; have HR := Lib.hid hr3; clear hr3)
  all_goals
    go_ret
    refine ⟨?_, (by first | exact ⟨_, rfl⟩ | exact ⟨_, World.drewN_drewN ..⟩ | exact ⟨_, (World.drewN_drewN ..).trans (World.drewN_drewN ..)⟩)⟩
    have h3 := HR.out
    subst h3
    first | rfl | (simp; omega)
theorem group_any1_idx {F : Nat → Prop} {w : World} {v : Value} {l : List Int} (h : Sl F w (IntV .i64) v l) (b : Bool) (hb : l.any (fun x => x != 0) = b) : Calls Try.prog 90 #[v, .func (.func 83) #[] #[]] w (IdxR w b) := by
  obtain ⟨A, c, rfl, hc, hm⟩ := h.form
  have HB := Lib.hid hb
  clear hb
  go_enter Try.func90, Try.ntmps90
  go_wp2
  go_loopg [8] l.length (fun g v8 wr => ∃ k : Nat, k ≤ l.length ∧ v8 = .int .i64 k ∧ g = l.length - k ∧ (l.take k).any (fun x => x != 0) = false ∧ ∃ n, wr = w.drewN n)
  case atStart => exact ⟨0, Nat.zero_le _, rfl, by omega, by simp, 0, rfl⟩
  case round =>
    obtain ⟨k, hk, rfl, hg, he, n, rfl⟩ := hrel
    have HG := Lib.hid hg
    have HE := Lib.hid he
    clear hg he
    by_cases hlt : k < l.length
    · obtain ⟨ad, u, rfl, _, hu, rfl, hx1, hx2⟩ := h.at_ rfl hlt
      generalize hx : l[k] = x at hu hx1 hx2
      have hcl := group_cl1 x (w.drewN n)
      obtain ⟨bb, hp⟩ : ∃ bb, ((fun x => x != 0) : Int → Bool) x = bb := ⟨_, rfl⟩
      have HP := Lib.hid hp
      try dsimp only at hp
      rw [hp] at hcl
      have HX := Lib.hid hx
      have HC := Lib.hid hcl
      clear hx hp hcl
      cases bb
      · go_wp2_with (go_at_call 83; refine (HC.out).mono ?_; rintro e w' ⟨rfl, nq, rfl⟩)
        go_roundg (l.length - (k + 1))
        case rel => exact ⟨k + 1, by omega, by go_num, by omega, by rw [List.take_succ_eq_append_getElem hlt, List.any_append, HE.out, HX.out]; simpa using HP.out, (by first | exact ⟨_, rfl⟩ | exact ⟨_, World.drewN_drewN ..⟩ | exact ⟨_, (World.drewN_drewN ..).trans (World.drewN_drewN ..)⟩)⟩
        case measure => rw [HG.out]; omega
      · have ha : l.any (fun x => x != 0) = true := List.any_eq_true.2 ⟨l[k], List.getElem_mem hlt, by rw [HX.out]; exact HP.out⟩
        have hbt : b = true := HB.out.symm.trans ha
        clear ha HB
        subst hbt
        go_wp2_with (go_at_call 83; refine (HC.out).mono ?_; rintro e w' ⟨rfl, nq, rfl⟩)
        go_ret
        exact ⟨k, rfl, by omega, by omega, by simp, (by first | exact ⟨_, rfl⟩ | exact ⟨_, World.drewN_drewN ..⟩ | exact ⟨_, (World.drewN_drewN ..).trans (World.drewN_drewN ..)⟩)⟩
    · obtain rfl : k = l.length := by omega
      have hbf : b = false := by have := HE.out; rw [List.take_length] at this; exact HB.out.symm.trans this
      clear HB HE
      subst hbf
      go_wp2
      go_ret
      exact ⟨-1, rfl, by omega, by omega, by simp, (by first | exact ⟨_, rfl⟩ | exact ⟨_, World.drewN_drewN ..⟩ | exact ⟨_, (World.drewN_drewN ..).trans (World.drewN_drewN ..)⟩)⟩
theorem group_any1 {F : Nat → Prop} {w : World} {v : Value} {l : List Int} (h : Sl F w (IntV .i64) v l) (b : Bool) (hb : l.any (fun x => x != 0) = b) : Calls Try.prog 82 #[v, .func (.func 83) #[] #[]] w (Ret w (.bool b)) := by
  go_enter Try.func82, Try.ntmps82
  go_wp2_with (go_at_call 90; refine (group_any1_idx  h b hb).mono ?_; rintro e w' ⟨r, rfl, hr1, hr2, hr3, nq, rfl⟩; have HR := Lib.hid hr3; clear hr3)
  all_goals
    go_ret
    refine ⟨?_, (by first | exact ⟨_, rfl⟩ | exact ⟨_, World.drewN_drewN ..⟩ | exact ⟨_, (World.drewN_drewN ..).trans (World.drewN_drewN ..)⟩)⟩
    have h3 := HR.out
    subst h3
    first | rfl | (simp; omega)
end Go.Proofs.Ytkepgkjbhdgbiaa
