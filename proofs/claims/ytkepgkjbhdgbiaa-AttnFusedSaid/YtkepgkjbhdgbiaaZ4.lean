/- Contracts of functions of the program, and what they need (Vec3, Vec4, Vec5, Vec6, Vec7). -/
import Derived.Test.YtkepgkjbhdgbiaaZ3

namespace Go.Proofs.Ytkepgkjbhdgbiaa
open Go.RowKit

theorem mxTo_succ {l : List Int} {k : Nat} (h : k < l.length) : mxTo (fun i => l.getD i 0) (k + 1) = if mxTo (fun i => l.getD i 0) k < l[k] then l[k] else mxTo (fun i => l.getD i 0) k := by rw [← getD_at h]; rfl

/-- An index of the list, at which the greatest one lies. -/
def TopAt (w : World) (l : List Int) (M : Int) (e : Ending) (w' : World) : Prop := ∃ (i : Nat) (h : i < l.length), e = .returned (.int .i64 i) ∧ l[i] = M ∧ ∃ n, w' = w.drewN n

theorem r03_Top {F : Nat → Prop} {w : World} {v : Value} {l : List Int} (h : Sl F w (IntV .i32) v l) (h0 : 0 < l.length) : Calls Try.prog 54 #[v] w (TopAt w l (maxL l)) := by
  obtain ⟨A, c, rfl, hc, hm⟩ := h.form
  go_enter Try.func54, Try.ntmps54
  go_wp2
  go_loopg [3, 4] l.length (fun g t i wr => ∃ (k a : Nat) (_ : a < l.length), k ≤ l.length ∧ i = .int .i64 k ∧ g = l.length - k ∧ t = .int .i64 a ∧ l[a] = mxTo (fun i => l.getD i 0) k ∧ ∃ n, wr = w.drewN n)
  case atStart => exact ⟨0, 0, h0, by omega, rfl, by omega, rfl, (getD_at h0).symm, 0, rfl⟩
  case round =>
    obtain ⟨k, a, ha, hk, rfl, hg, rfl, he, n, rfl⟩ := hrel
    have HG := Lib.hid hg
    clear hg
    by_cases hlt : k < l.length
    · obtain ⟨ad, u, rfl, _, hu, rfl, hx1, hx2⟩ := h.at_ rfl hlt
      obtain ⟨ad', u', had, _, hu', rfl, hy1, hy2⟩ := h.at_ rfl ha
      obtain rfl : ad = ad' := by injection had
      have hs := mxTo_succ hlt
      rw [← he] at hs
      generalize hx : l[k] = x at hu hx1 hx2 hs
      generalize hy : l[a] = y at hu' hy1 hy2 hs he
      have HS := Lib.hid hs
      have HX := Lib.hid hx
      have HY := Lib.hid hy
      have HE := Lib.hid he
      clear hx hy hs had he
      by_cases hxy : y < x
      · go_upto_region 5 with (fail)
        go_quiet (fail)
        go_wp2
        go_roundg (l.length - (k + 1))
        case rel => exact ⟨k + 1, k, hlt, by omega, by go_num, by omega, rfl, by rw [HS.out, if_pos hxy, HX.out], (by first | exact ⟨_, rfl⟩ | exact ⟨_, World.drewN_drewN ..⟩ | exact ⟨_, (World.drewN_drewN ..).trans (World.drewN_drewN ..)⟩)⟩
        case measure => rw [HG.out]; omega
      · go_upto_region 5 with (fail)
        go_quiet (fail)
        go_wp2
        go_roundg (l.length - (k + 1))
        case rel => exact ⟨k + 1, a, ha, by omega, by go_num, by omega, rfl, by rw [HS.out, if_neg (by omega), HY.out], (by first | exact ⟨_, rfl⟩ | exact ⟨_, World.drewN_drewN ..⟩ | exact ⟨_, (World.drewN_drewN ..).trans (World.drewN_drewN ..)⟩)⟩
        case measure => rw [HG.out]; omega
    · obtain rfl : k = l.length := by omega
      have HE := Lib.hid he
      clear he
      go_wp2
      go_ret
      exact ⟨a, ha, rfl, HE.out, (by first | exact ⟨_, rfl⟩ | exact ⟨_, World.drewN_drewN ..⟩ | exact ⟨_, (World.drewN_drewN ..).trans (World.drewN_drewN ..)⟩)⟩

/-- A number behind which nothing hangs. -/
def SomeI (w : World) (e : Ending) (w' : World) : Prop := ∃ i : Int, e = .returned (.int .i64 i) ∧ ∃ n, w' = w.drewN n

theorem slices_Index32 {F : Nat → Prop} {w : World} {v : Value} {l : List Int} (x : Int) (h : Sl F w (IntV .i32) v l) : Calls Try.prog 72 #[v, .int .i32 x] w (SomeI w) := by
  obtain ⟨A, c, rfl, hc, hm⟩ := h.form
  go_enter Try.func72, Try.ntmps72
  go_wp2
  go_loopg [8] l.length (fun g i wr => ∃ (k : Nat), k ≤ l.length ∧ i = .int .i64 k ∧ g = l.length - k ∧ ∃ n, wr = w.drewN n)
  case atStart => exact ⟨0, by omega, rfl, by omega, 0, rfl⟩
  case round =>
    obtain ⟨k, hk, rfl, hg, n, rfl⟩ := hrel
    have HG := Lib.hid hg
    clear hg
    by_cases hlt : k < l.length
    · obtain ⟨ad, u, rfl, _, hu, rfl, hx1, hx2⟩ := h.at_ rfl hlt
      generalize hx : l[k] = y at hu hx1 hx2
      clear hx
      cases hb : (x == y)
      · go_wp2
        go_roundg (l.length - (k + 1))
        case rel => exact ⟨k + 1, by omega, by go_num, by omega, (by first | exact ⟨_, rfl⟩ | exact ⟨_, World.drewN_drewN ..⟩ | exact ⟨_, (World.drewN_drewN ..).trans (World.drewN_drewN ..)⟩)⟩
        case measure => rw [HG.out]; omega
      · go_wp2
        go_ret
        exact ⟨_, rfl, (by first | exact ⟨_, rfl⟩ | exact ⟨_, World.drewN_drewN ..⟩ | exact ⟨_, (World.drewN_drewN ..).trans (World.drewN_drewN ..)⟩)⟩
    · obtain rfl : k = l.length := by omega
      go_wp2
      go_ret
      exact ⟨_, rfl, (by first | exact ⟨_, rfl⟩ | exact ⟨_, World.drewN_drewN ..⟩ | exact ⟨_, (World.drewN_drewN ..).trans (World.drewN_drewN ..)⟩)⟩

def TopR (w : World) (x : Int) (e : Ending) (w' : World) : Prop := ∃ i : Int, e = .returned (.tuple #[.int .i64 i, .int .i32 x, .int .i64 0]) ∧ ∃ n, w' = w.drewN n

theorem dot_Top {F : Nat → Prop} {w : World} {v : Value} {l : List Int} (h : Sl F w (IntV .i32) v l) (h0 : 0 < l.length) : Calls Try.prog 42 #[v] w (TopR w (maxL l)) := by
  obtain ⟨A, c, rfl, hc, hm⟩ := h.form
  have hz : ((l.length : Int) == 0) = false := by simp; rintro rfl; simp at h0
  have e : maxL l = mxTo (fun i => l.getD i 0) l.length := rfl
  rw [e]
  generalize hM : mxTo (fun i => l.getD i 0) l.length = M
  have HM := Lib.hid hM
  clear hM e
  go_enter Try.func42, Try.ntmps42
  go_wp2_with (first
    | (go_at_call 60; refine (slices_Max32 h h0).mono ?_; rintro e w' ⟨rfl, nq, rfl⟩; rw [HM.out])
    | (go_at_call 72; refine (slices_Index32 _ (h.below (drewN_below _ _))).mono ?_; rintro e w' ⟨i, rfl, nq2, rfl⟩))
  go_ret3
  exact ⟨i, rfl, (by first | exact ⟨_, rfl⟩ | exact ⟨_, World.drewN_drewN ..⟩ | exact ⟨_, (World.drewN_drewN ..).trans (World.drewN_drewN ..)⟩)⟩

def IdxR (w : World) (b : Bool) (e : Ending) (w' : World) : Prop := ∃ r : Int, e = .returned (.int .i64 r) ∧ -1 ≤ r ∧ r ≤ 9223372036854775807 ∧ decide (0 ≤ r) = b ∧ ∃ n, w' = w.drewN n

theorem mild_cl (x : Int) (w : World) : Calls Try.prog 80 #[.int .i32 x] w (Ret w (.bool (decide (x < -16777216) || decide (16777216 < x)))) := by
  by_cases h1 : x < -16777216
  · go_enter Try.func80, Try.ntmps80
    go_wp2
    go_ret
    exact ⟨by simp [h1], 0, rfl⟩
  · by_cases h2 : 16777216 < x
    · go_enter Try.func80, Try.ntmps80
      go_wp2
      go_ret
      exact ⟨by simp [h2], 0, rfl⟩
    · go_enter Try.func80, Try.ntmps80
      go_wp2
      go_ret
      exact ⟨by simp [h1, h2], 0, rfl⟩
theorem mild_any_idx {F : Nat → Prop} {w : World} {v : Value} {l : List Int} (h : Sl F w (IntV .i32) v l) (b : Bool) (hb : l.any (fun x => decide (x < -16777216) || decide (16777216 < x)) = b) : Calls Try.prog 88 #[v, .func (.func 80) #[] #[]] w (IdxR w b) := by
  obtain ⟨A, c, rfl, hc, hm⟩ := h.form
  have HB := Lib.hid hb
  clear hb
  go_enter Try.func88, Try.ntmps88
  go_wp2
  go_loopg [8] l.length (fun g v8 wr => ∃ k : Nat, k ≤ l.length ∧ v8 = .int .i64 k ∧ g = l.length - k ∧ (l.take k).any (fun x => decide (x < -16777216) || decide (16777216 < x)) = false ∧ ∃ n, wr = w.drewN n)
  case atStart => exact ⟨0, Nat.zero_le _, rfl, by omega, by simp, 0, rfl⟩
  case round =>
    obtain ⟨k, hk, rfl, hg, he, n, rfl⟩ := hrel
    have HG := Lib.hid hg
    have HE := Lib.hid he
    clear hg he
    by_cases hlt : k < l.length
    · obtain ⟨ad, u, rfl, _, hu, rfl, hx1, hx2⟩ := h.at_ rfl hlt
      generalize hx : l[k] = x at hu hx1 hx2
      have hcl := mild_cl x (w.drewN n)
      obtain ⟨bb, hp⟩ : ∃ bb, ((fun x => decide (x < -16777216) || decide (16777216 < x)) : Int → Bool) x = bb := ⟨_, rfl⟩
      have HP := Lib.hid hp
      try dsimp only at hp
      rw [hp] at hcl
      have HX := Lib.hid hx
      have HC := Lib.hid hcl
      clear hx hp hcl
      cases bb
      · go_wp2_with (go_at_call 80; refine (HC.out).mono ?_; rintro e w' ⟨rfl, nq, rfl⟩)
        go_roundg (l.length - (k + 1))
        case rel => exact ⟨k + 1, by omega, by go_num, by omega, by rw [List.take_succ_eq_append_getElem hlt, List.any_append, HE.out, HX.out]; simpa using HP.out, (by first | exact ⟨_, rfl⟩ | exact ⟨_, World.drewN_drewN ..⟩ | exact ⟨_, (World.drewN_drewN ..).trans (World.drewN_drewN ..)⟩)⟩
        case measure => rw [HG.out]; omega
      · have ha : l.any (fun x => decide (x < -16777216) || decide (16777216 < x)) = true := List.any_eq_true.2 ⟨l[k], List.getElem_mem hlt, by rw [HX.out]; exact HP.out⟩
        have hbt : b = true := HB.out.symm.trans ha
        clear ha HB
        subst hbt
        go_wp2_with (go_at_call 80; refine (HC.out).mono ?_; rintro e w' ⟨rfl, nq, rfl⟩)
        go_ret
        exact ⟨k, rfl, by omega, by omega, by simp, (by first | exact ⟨_, rfl⟩ | exact ⟨_, World.drewN_drewN ..⟩ | exact ⟨_, (World.drewN_drewN ..).trans (World.drewN_drewN ..)⟩)⟩
    · obtain rfl : k = l.length := by omega
      have hbf : b = false := by have := HE.out; rw [List.take_length] at this; exact HB.out.symm.trans this
      clear HB HE
      subst hbf
      go_wp2
      go_ret
      exact ⟨-1, rfl, by omega, by omega, by simp, (by first | exact ⟨_, rfl⟩ | exact ⟨_, World.drewN_drewN ..⟩ | exact ⟨_, (World.drewN_drewN ..).trans (World.drewN_drewN ..)⟩)⟩
theorem mild_any {F : Nat → Prop} {w : World} {v : Value} {l : List Int} (h : Sl F w (IntV .i32) v l) (b : Bool) (hb : l.any (fun x => decide (x < -16777216) || decide (16777216 < x)) = b) : Calls Try.prog 79 #[v, .func (.func 80) #[] #[]] w (Ret w (.bool b)) := by
  go_enter Try.func79, Try.ntmps79
  go_wp2_with (go_at_call 88; refine (mild_any_idx  h b hb).mono ?_; rintro e w' ⟨r, rfl, hr1, hr2, hr3, nq, rfl⟩; have HR := Lib.hid hr3; clear hr3)
  all_goals
    go_ret
    refine ⟨?_, (by first | exact ⟨_, rfl⟩ | exact ⟨_, World.drewN_drewN ..⟩ | exact ⟨_, (World.drewN_drewN ..).trans (World.drewN_drewN ..)⟩)⟩
    have h3 := HR.out
    subst h3
    first | rfl | (simp; omega)
end Go.Proofs.Ytkepgkjbhdgbiaa

namespace Go.Proofs.Ytkepgkjbhdgbiaa
open Go.RowKit

theorem attn_narrow (x : Int) (w : World) (h1 : -2147483648 ≤ x) (h2 : x ≤ 2147483647) : Calls Try.prog 45 #[.int .i32 x] w (Ret w (.int .i64 (narrowI x))) := by
  obtain ⟨b1, b2⟩ := narrow_bd x
  go_enter Try.func45, Try.ntmps45
  go_wp2_with (go_at_call 46; refine (fix_Narrow _ _).mono ?_; rintro e w' ⟨rfl, nq, rfl⟩)
  go_ret
  exact ⟨rfl, (by first | exact ⟨_, rfl⟩ | exact ⟨_, World.drewN_drewN ..⟩ | exact ⟨_, (World.drewN_drewN ..).trans (World.drewN_drewN ..)⟩)⟩

/-- The row of values of a list. -/
def nums (k : IntKind) (l : List Int) : List Value := l.map fun x => .int k x
theorem nums_get {k : IntKind} {l : List Int} {j : Nat} {u : Value} {x : Int} (h1 : (nums k l)[j]? = some u) (h2 : l[j]? = some x) : u = .int k x := by
  unfold nums at h1
  rw [List.getElem?_map, h2] at h1
  simpa using h1.symm
theorem Sl.ints {w : World} {base : Nat} {e : TypeId} {v : Value} {k : IntKind} {l : List Int} {n : Nat} (h : w.ownsRow base e 1 v n (nums k l)) (hin : ∀ x ∈ l, InK k x) : Sl (fun b => base ≤ b) w (IntV k) v l :=
  Sl.own h (by simp [nums]) fun _ _ x h1 h2 => ⟨nums_get h1 h2, hin x (List.mem_of_getElem? h2)⟩
theorem nums_take_succ (k : IntKind) (f : Int → Int) (l : List Int) {i : Nat} (h : i < l.length) : nums k ((l.take (i + 1)).map f) = nums k ((l.take i).map f) ++ [.int k (f l[i])] := by
  rw [take_succ_map f l h]; simp [nums]
theorem nums_len (k : IntKind) (f : Int → Int) (l : List Int) (i : Nat) (n : Nat) (h : l.length ≤ n) : (nums k ((l.take i).map f)).length ≤ n := by
  simp [nums]; omega

theorem narrow_map_in (l : List Int) : ∀ x ∈ l.map narrowI, InK .i32 x := by
  intro x hx
  obtain ⟨y, _, rfl⟩ := List.mem_map.1 hx
  have := narrow_bd y
  exact ⟨by omega, by omega⟩

theorem r14_Narrow {F : Nat → Prop} {w : World} {v : Value} {l : List Int} (h : Sl F w (IntV .i32) v l) (hn : l.length ≤ 1099511627776) : Calls Try.prog 27 #[v] w (RetSl w (fun _ => IntV .i32) (l.map narrowI)) := by
  obtain ⟨A, c, rfl, hc, hm⟩ := h.form
  go_enter Try.func27, Try.ntmps27
  go_wp2
  go_loopg [3, 4] l.length (fun g v3 v4 wr => ∃ k : Nat, k ≤ l.length ∧ v4 = .int .i64 k ∧ g = l.length - k ∧
    wr.ownsRow w.heap.size 21 1 v3 (nums .i32 ((l.take k).map narrowI)).length (nums .i32 ((l.take k).map narrowI)) ∧ Below w.heap.size w wr)
  case atStart => exact ⟨0, Nat.zero_le _, rfl, by omega, World.ownsRow_nil _ _ _ _, Below.refl _ _⟩
  case round =>
    obtain ⟨k, hk, rfl, hg, HO, HB⟩ := hrel
    have HG := Lib.hid hg
    clear hg
    by_cases hlt : k < l.length
    · obtain ⟨ad, u, rfl, _, hu, rfl, hx1, hx2⟩ := (h.below HB).at_ rfl hlt
      have hn' : (nums .i32 ((l.take k).map narrowI)).length + 1 ≤ 2199023255552 := by have := nums_len .i32 narrowI l k _ hn; omega
      have hs := nums_take_succ .i32 narrowI l hlt
      generalize hx : l[k] = x at hu hx1 hx2 hs
      have HS := Lib.hid hs
      clear hx hs
      generalize nums .i32 ((l.take k).map narrowI) = acc at *
      go_wp2_with (first | (go_at_call 52; refine (r01_Narrow _ _).mono ?_; rintro e w' ⟨rfl, nq, rfl⟩) | (at_builtin; refine app1 _ (.tmp 11) (.tmp 18) 22 21 (.int .i32 0) 4 rfl rfl Try.underlying22 info_i32 rfl _ _ _ rfl rfl rfl HO (by first | exact HB | exact below_drewN HB _) (HB).size hn' (by decide) ?_; intro v1 w1 HO1 HB1 HG1 HA1))
      go_roundg (l.length - (k + 1))
      case rel => exact ⟨k + 1, by omega, by go_num, by omega, by rw [HS.out]; exact HO1, HB1⟩
      case measure => rw [HG.out]; omega
    · obtain rfl : k = l.length := by omega
      go_wp2
      go_ret
      rw [List.take_length] at HO
      exact ⟨HB, _, rfl, Sl.ints HO (narrow_map_in l)⟩
end Go.Proofs.Ytkepgkjbhdgbiaa

namespace Go.Proofs.Ytkepgkjbhdgbiaa
open Go.RowKit

theorem own_get {w : World} {base : Nat} {e : TypeId} {g n cap : Nat} {xs : List Value} (h : w.ownsRow base e 1 (.slice (some ⟨g, 0, none⟩) n cap) n xs) {j : Nat} (hj : j < n) :
    ∃ hl : j < xs.length, w.cell? ⟨g, j, none⟩ = some xs[j] ∧ w.frozen? ⟨g, j, none⟩ = false := by
  have hl : j < xs.length := by have := h.1; omega
  refine ⟨hl, ?_, h.frozenAt j⟩
  rw [h.cellAt j (by omega), List.getElem?_eq_getElem hl]

theorem add_plain (g j : Nat) : (⟨g, 0, none⟩ : Addr).add j = ⟨g, j, none⟩ := by unfold Addr.add; split <;> simp_all

theorem below_own_set {w0 W : World} {base : Nat} {e : TypeId} {size n : Nat} {g cap : Nat} {xs : List Value} (HB : Below base w0 W) (HO : W.ownsRow base e size (.slice (some ⟨g, 0, none⟩) n cap) n xs) (j : Nat) (u : Value) :
    Below base w0 (W.setCell ⟨g, j, none⟩ u) := HB.setCell (p := ⟨g, j, none⟩) (own_base HO g rfl) u

/-- A list of which the first k are told. -/
def partL (f : Int → Int) (l : List Int) (k : Nat) : List Int := (l.take k).map f ++ List.replicate (l.length - k) 0
theorem partL_zero (f : Int → Int) (l : List Int) : partL f l 0 = List.replicate l.length 0 := by simp [partL]
theorem partL_all (f : Int → Int) (l : List Int) : partL f l l.length = l.map f := by simp [partL]
theorem partL_len (f : Int → Int) (l : List Int) {k : Nat} (h : k ≤ l.length) : (partL f l k).length = l.length := by simp [partL]; omega
theorem partL_set (f : Int → Int) (l : List Int) {k : Nat} (h : k < l.length) : (partL f l k).set k (f l[k]) = partL f l (k + 1) := by
  unfold partL
  have hl : ((l.take k).map f).length = k := by simp; omega
  rw [List.set_append_right _ _ (by omega), hl, Nat.sub_self, take_succ_map f l h, show l.length - k = (l.length - (k + 1)) + 1 by omega, List.replicate_succ]
  simp
theorem nums_set (k : IntKind) (l : List Int) (j : Nat) (x : Int) : (nums k l).set j (.int k x) = nums k (l.set j x) := by simp [nums, List.map_set]
theorem nums_repl (k : IntKind) (n : Nat) : List.replicate n (Value.int k 0) = nums k (List.replicate n 0) := by simp [nums]

theorem attn_cut {F : Nat → Prop} {w : World} {v : Value} {l : List Int} (h : Sl F w (IntV .i32) v l) (hn : l.length ≤ 1099511627776) : Calls Try.prog 24 #[v] w (RetSl w (fun _ => IntV .i32) (l.map narrowI)) := by
  obtain ⟨A, c, rfl, hc, hm⟩ := h.form
  have hmk := make_run 22 21 (.int .i32 0) 4 Try.underlying22 info_i32 rfl l.length (by omega) (by omega)
  go_enter Try.func24, Try.ntmps24
  go_wp2
  go_loopg [4, 5, 11] l.length (fun g v4 v5 v11 wr => ∃ k : Nat, k ≤ l.length ∧ v11 = .int .i64 k ∧ g = l.length - k ∧
    wr.ownsRow w.heap.size 21 1 (.slice (some ⟨w.heap.size, 0, none⟩) l.length l.length) l.length (nums .i32 (partL narrowI l k)) ∧ Below w.heap.size w wr)
  case atStart => exact ⟨0, Nat.zero_le _, rfl, by omega, by rw [partL_zero, ← nums_repl]; exact own_made w _ _ _ _ (Nat.le_refl _) (by omega), (Below.refl _ _).alloc (Nat.le_refl _) _⟩
  case round =>
    obtain ⟨k, hk, rfl, hg, HO, HB⟩ := hrel
    have HG := Lib.hid hg
    clear hg hmk
    by_cases hlt : k < l.length
    · obtain ⟨ad, u, rfl, _, hu, rfl, hx1, hx2⟩ := (h.below HB).at_ rfl hlt
      obtain ⟨hl2, hcell, hfz⟩ := own_get HO hlt
      have hs := partL_set narrowI l hlt
      generalize hx : l[k] = x at hu hx1 hx2 hs
      generalize (nums .i32 (partL narrowI l k))[k] = old at hcell
      have HS := Lib.hid hs
      clear hx hs hl2
      obtain ⟨b1, b2⟩ := narrow_bd x
      go_wp2_with (go_at_call 45; refine (attn_narrow _ _ hx1 hx2).mono ?_; rintro e w' ⟨rfl, nq, rfl⟩)
      go_roundg (l.length - (k + 1))
      case rel => exact ⟨k + 1, by omega, by go_num, by omega, by rw [← HS.out, ← nums_set]; exact (HO.stored k _).1, below_drewN (below_own_set HB HO k _) _⟩
      case measure => rw [HG.out]; omega
    · obtain rfl : k = l.length := by omega
      rw [partL_all] at HO
      go_wp2
      go_ret
      exact ⟨HB, _, rfl, Sl.ints HO (narrow_map_in l)⟩

def sumL (l : List Int) : Int := sumTo (fun i => l.getD i 0) l.length
theorem sum_bd {l : List Int} (hb : ∀ x ∈ l, 0 ≤ x ∧ x ≤ 65536) {k : Nat} (hk : k ≤ 1024) : -67108864 ≤ sumTo (fun i => l.getD i 0) k ∧ sumTo (fun i => l.getD i 0) k ≤ 67108864 := by
  have h := sumTo_bd (f := fun i => l.getD i 0) (n := k) (B := 65536) fun i _ => by
    rcases Nat.lt_or_ge i l.length with hl | hl
    · rw [getD_at hl]; have := hb _ (List.getElem_mem hl); omega
    · rw [List.getD_eq_getElem?_getD, List.getElem?_eq_none hl]; simp
  omega
theorem soft_Sum {F : Nat → Prop} {w : World} {v : Value} {l : List Int} (h : Sl F w (IntV .i64) v l) (hn : l.length ≤ 1024) (hb : ∀ x ∈ l, 0 ≤ x ∧ x ≤ 65536) : Calls Try.prog 48 #[v] w (Ret w (.int .i64 (sumL l))) := by
  obtain ⟨A, c, rfl, hc, hm⟩ := h.form
  unfold sumL
  go_enter Try.func48, Try.ntmps48
  go_wp2
  go_loopg [3, 8] l.length (fun g s i wr => ∃ k : Nat, k ≤ l.length ∧ i = .int .i64 k ∧ g = l.length - k ∧ s = .int .i64 (sumTo (fun i => l.getD i 0) k) ∧ ∃ n, wr = w.drewN n)
  case atStart => exact ⟨0, Nat.zero_le _, rfl, by omega, rfl, 0, rfl⟩
  case round =>
    obtain ⟨k, hk, rfl, hg, rfl, n, rfl⟩ := hrel
    have HG := Lib.hid hg
    clear hg
    by_cases hlt : k < l.length
    · obtain ⟨ad, u, rfl, _, hu, rfl, hx1, hx2⟩ := h.at_ rfl hlt
      obtain ⟨s1, s2⟩ := sum_bd hb (k := k) (by omega)
      have hp := hb _ (List.getElem_mem hlt)
      have hs : sumTo (fun i => l.getD i 0) (k + 1) = sumTo (fun i => l.getD i 0) k + l[k] := by rw [← getD_at hlt]; rfl
      generalize hx : l[k] = x at hu hx1 hx2 hp hs
      have HS := Lib.hid hs
      clear hx hs
      generalize hsum : sumTo (fun i => l.getD i 0) k = sm at *
      obtain ⟨p1, p2⟩ := hp
      go_wp2
      go_roundg (l.length - (k + 1))
      case rel => exact ⟨k + 1, by omega, by go_num, by omega, by rw [HS.out], (by first | exact ⟨_, rfl⟩ | exact ⟨_, World.drewN_drewN ..⟩ | exact ⟨_, (World.drewN_drewN ..).trans (World.drewN_drewN ..)⟩)⟩
      case measure => rw [HG.out]; omega
    · obtain rfl : k = l.length := by omega
      go_wp2
      go_ret
      exact ⟨rfl, (by first | exact ⟨_, rfl⟩ | exact ⟨_, World.drewN_drewN ..⟩ | exact ⟨_, (World.drewN_drewN ..).trans (World.drewN_drewN ..)⟩)⟩
theorem r04_Sum {F : Nat → Prop} {w : World} {v : Value} {l : List Int} (h : Sl F w (IntV .i64) v l) (hn : l.length ≤ 1024) (hb : ∀ x ∈ l, 0 ≤ x ∧ x ≤ 65536) : Calls Try.prog 53 #[v] w (Ret w (.int .i64 (sumL l))) := by
  obtain ⟨A, c, rfl, hc, hm⟩ := h.form
  unfold sumL
  go_enter Try.func53, Try.ntmps53
  go_wp2
  go_loopg [3, 4] l.length (fun g s i wr => ∃ k : Nat, k ≤ l.length ∧ i = .int .i64 k ∧ g = l.length - k ∧ s = .int .i64 (sumTo (fun i => l.getD i 0) k) ∧ ∃ n, wr = w.drewN n)
  case atStart => exact ⟨0, Nat.zero_le _, rfl, by omega, rfl, 0, rfl⟩
  case round =>
    obtain ⟨k, hk, rfl, hg, rfl, n, rfl⟩ := hrel
    have HG := Lib.hid hg
    clear hg
    by_cases hlt : k < l.length
    · obtain ⟨ad, u, rfl, _, hu, rfl, hx1, hx2⟩ := h.at_ rfl hlt
      obtain ⟨s1, s2⟩ := sum_bd hb (k := k) (by omega)
      have hp := hb _ (List.getElem_mem hlt)
      have hs : sumTo (fun i => l.getD i 0) (k + 1) = sumTo (fun i => l.getD i 0) k + l[k] := by rw [← getD_at hlt]; rfl
      generalize hx : l[k] = x at hu hx1 hx2 hp hs
      have HS := Lib.hid hs
      clear hx hs
      generalize hsum : sumTo (fun i => l.getD i 0) k = sm at *
      obtain ⟨p1, p2⟩ := hp
      go_wp2
      go_roundg (l.length - (k + 1))
      case rel => exact ⟨k + 1, by omega, by go_num, by omega, by rw [HS.out], (by first | exact ⟨_, rfl⟩ | exact ⟨_, World.drewN_drewN ..⟩ | exact ⟨_, (World.drewN_drewN ..).trans (World.drewN_drewN ..)⟩)⟩
      case measure => rw [HG.out]; omega
    · obtain rfl : k = l.length := by omega
      go_wp2
      go_ret
      exact ⟨rfl, (by first | exact ⟨_, rfl⟩ | exact ⟨_, World.drewN_drewN ..⟩ | exact ⟨_, (World.drewN_drewN ..).trans (World.drewN_drewN ..)⟩)⟩

/-- The weights of scores, and what they come to. -/
def weightI (s : List Int) (x : Int) : Int := expI (wideI (x - maxL s))
theorem wide_diff {s : List Int} (hs : ∀ x ∈ s, InK .i32 x) {x : Int} (hx : x ∈ s) : -2147483648 ≤ wideI (x - maxL s) ∧ wideI (x - maxL s) ≤ 0 := by
  have h1 := maxL_ge hx
  have h2 := (wide_bd (x - maxL s)).1
  refine ⟨h2, ?_⟩
  unfold wideI cutI; split <;> (try split) <;> omega
theorem exp_bd {x : Int} (h1 : -2147483648 ≤ x) (h2 : x ≤ 0) : 0 ≤ expI x ∧ expI x ≤ 65536 := by
  obtain ⟨t1, t2⟩ := expT_bd h1 h2
  unfold expI
  split
  · omega
  · rename_i hn
    obtain ⟨o1, o2⟩ := of2_bd (f := expT x % 65536) (by omega) (by omega)
    generalize hm : (-(expT x / 65536)).toNat = m
    have hr := ratio_near (of2I (expT x % 65536)) (2 ^ m)
    rcases Nat.eq_zero_or_pos m with h0 | h0
    · subst h0
      have ht : expT x = 0 := by omega
      have e : of2I (expT x % 65536) = 65536 := by rw [ht]; decide
      rw [e]
      decide
    · obtain ⟨j, rfl⟩ : ∃ j, m = j + 1 := ⟨m - 1, by omega⟩
      have hp := pow2_pos j
      rw [Int.pow_succ] at hr ⊢
      have h3 : of2I (expT x % 65536) / (2 ^ j * 2) ≤ 65536 ∧ 0 ≤ of2I (expT x % 65536) / (2 ^ j * 2) := by
        refine ⟨?_, Int.ediv_nonneg (by omega) (by omega)⟩
        have : of2I (expT x % 65536) / (2 ^ j * 2) ≤ of2I (expT x % 65536) / 2 := by
          rw [Int.mul_comm, ← Int.ediv_ediv_of_nonneg (by decide)]
          exact Int.ediv_le_self _ (by omega)
        omega
      rcases Int.lt_or_le (of2I (expT x % 65536) / (2 ^ j * 2)) 65536 with h4 | h4
      · omega
      · -- it is 65536: nothing is left
        have h5 : of2I (expT x % 65536) / (2 ^ j * 2) = 65536 := by omega
        have h6 := Int.emod_def (of2I (expT x % 65536)) (2 ^ j * 2)
        have h7 := Int.emod_nonneg (of2I (expT x % 65536)) (b := 2 ^ j * 2) (by omega)
        have h8 : of2I (expT x % 65536) % (2 ^ j * 2) = 0 := by rw [h5] at h6; omega
        unfold ratioI
        rw [if_neg (by rw [h8]; omega)]
        omega
theorem exp_zero : expI 0 = 65536 := by decide
theorem weight_bd {s : List Int} (hs : ∀ x ∈ s, InK .i32 x) {x : Int} (hx : x ∈ s) : 0 ≤ weightI s x ∧ weightI s x ≤ 65536 := by
  obtain ⟨a, b⟩ := wide_diff hs hx
  exact exp_bd a b
theorem weight_top {s : List Int} : weightI s (maxL s) = 65536 := by
  unfold weightI
  rw [Int.sub_self, show wideI 0 = 0 by decide, exp_zero]
end Go.Proofs.Ytkepgkjbhdgbiaa

namespace Go.Proofs.Ytkepgkjbhdgbiaa
open Go.RowKit

/-- The same beside an error's number. -/
def RetSlE {α : Type} (w : World) (R : World → Value → α → Prop) (l : List α) (e : Ending) (w' : World) : Prop :=
  Below w.heap.size w w' ∧ ∃ v, e = .returned (.tuple #[v, .int .i64 0]) ∧ Sl (fun b => w.heap.size ≤ b) w' (R w') v l
/-- An error's number alone. -/
def RetErr (w : World) (n : Int) (e : Ending) (w' : World) : Prop :=
  Below w.heap.size w w' ∧ e = .returned (.tuple #[.slice none 0 0, .int .i64 n])

def weightsL (s : List Int) : List Int := s.map (weightI s)
theorem weights_bd {s : List Int} (hs : ∀ x ∈ s, InK .i32 x) : ∀ x ∈ weightsL s, 0 ≤ x ∧ x ≤ 65536 := by
  intro x hx
  obtain ⟨y, hy, rfl⟩ := List.mem_map.1 hx
  exact weight_bd hs hy
theorem weights_in {s : List Int} (hs : ∀ x ∈ s, InK .i32 x) : ∀ x ∈ weightsL s, InK .i64 x := by
  intro x hx
  have := weights_bd hs x hx
  exact ⟨by omega, by omega⟩
theorem Sl.inK {F : Nat → Prop} {w : World} {v : Value} {l : List Int} {k : IntKind} (h : Sl F w (IntV k) v l) : ∀ x ∈ l, InK k x := by
  intro x hx
  obtain ⟨j, hj, rfl⟩ := List.getElem_of_mem hx
  obtain ⟨_, _, _, _, _, h⟩ := h
  obtain ⟨_, _, _, _, _, hr⟩ := h j _ (List.getElem?_eq_getElem hj)
  exact hr.2

theorem soft_Weights {F : Nat → Prop} {w : World} {v : Value} {l : List Int} (h : Sl F w (IntV .i32) v l) (h0 : 0 < l.length) (hn : l.length ≤ 1024) : Calls Try.prog 22 #[v] w (RetSlE w (fun _ => IntV .i64) (weightsL l)) := by
  obtain ⟨A, c, rfl, hc, hm⟩ := h.form
  have hin := h.inK
  unfold weightsL
  obtain ⟨M1, M2⟩ : InK .i32 (maxL l) := hin _ (maxL_mem h0)
  have hM : ∀ x, x ∈ l → weightI l x = expI (wideI (x - maxL l)) ∧ -2147483648 ≤ wideI (x - maxL l) ∧ wideI (x - maxL l) ≤ 0 := fun x hx => ⟨rfl, wide_diff hin hx⟩
  have htop := dot_Top h h0
  generalize maxL l = M at *
  have HM := Lib.hid hM
  have HT := Lib.hid htop
  clear hM htop
  go_enter Try.func22, Try.ntmps22
  go_upto_region 7 with (go_at_call 42; refine (HT.out).mono ?_; rintro e w' ⟨i, rfl, nq, rfl⟩)
  clear HT
  go_upto_region 8 with fail
  go_loopg [7, 9, 24] l.length (fun g v7 v9 v24 wr => ∃ k : Nat, k ≤ l.length ∧ v24 = .int .i64 k ∧ g = l.length - k ∧
    wr.ownsRow w.heap.size 3 1 v7 (nums .i64 ((l.take k).map (weightI l))).length (nums .i64 ((l.take k).map (weightI l))) ∧ Below w.heap.size w wr)
  case atStart => exact ⟨0, Nat.zero_le _, rfl, by omega, World.ownsRow_nil _ _ _ _, drewN_below _ _⟩
  case round =>
    obtain ⟨k, hk, rfl, hg, HO, HB⟩ := hrel
    have HG := Lib.hid hg
    clear hg
    by_cases hlt : k < l.length
    · obtain ⟨ad, u, rfl, _, hu, rfl, hx1, hx2⟩ := (h.below HB).at_ rfl hlt
      have hn' : (nums .i64 ((l.take k).map (weightI l))).length + 1 ≤ 2199023255552 := by have := nums_len .i64 (weightI l) l k _ hn; omega
      have hs := nums_take_succ .i64 (weightI l) l hlt
      obtain ⟨hw, hw1, hw2⟩ := HM.out _ (List.getElem_mem hlt)
      rw [hw] at hs
      generalize hx : l[k] = x at hu hx1 hx2 hs hw1 hw2 hw
      have HS := Lib.hid hs
      clear hx hs hw
      generalize nums .i64 ((l.take k).map (weightI l)) = acc at *
      go_wp2_with (first | (go_at_call 44; refine (fix_Sub _ _ _ ⟨hx1, hx2⟩ ⟨M1, M2⟩).mono ?_; rintro e w' ⟨rfl, nq, rfl⟩) | (go_at_call 43; refine (expo_Exp _ _ hw1 hw2).mono ?_; rintro e w' ⟨rfl, nq, rfl⟩) | (at_builtin; refine app1 _ (.tmp 28) (.tmp 33) 56 3 (.int .i64 0) 8 rfl rfl Try.underlying56 info_i64 rfl _ _ _ rfl rfl rfl HO (by first | exact HB | exact below_drewN HB _) (HB).size hn' (by decide) ?_; intro v1 w1 HO1 HB1 HG1 HA1))
      go_roundg (l.length - (k + 1))
      case rel => exact ⟨k + 1, by omega, by go_num, by omega, by rw [HS.out]; exact HO1, HB1⟩
      case measure => rw [HG.out]; omega
    · obtain rfl : k = l.length := by omega
      go_wp2
      go_ret2
      rw [List.take_length] at HO
      exact ⟨HB, _, rfl, Sl.ints HO (weights_in hin)⟩

theorem r04_Weights {F : Nat → Prop} {w : World} {v : Value} {l : List Int} (h : Sl F w (IntV .i32) v l) (h0 : 0 < l.length) (hn : l.length ≤ 1024) : Calls Try.prog 29 #[v] w (RetSl w (fun _ => IntV .i64) (weightsL l)) := by
  obtain ⟨A, c, rfl, hc, hm⟩ := h.form
  have hin := h.inK
  unfold weightsL
  obtain ⟨M1, M2⟩ : InK .i32 (maxL l) := hin _ (maxL_mem h0)
  have hM : ∀ x, x ∈ l → weightI l x = expI (wideI (x - maxL l)) ∧ -2147483648 ≤ wideI (x - maxL l) ∧ wideI (x - maxL l) ≤ 0 := fun x hx => ⟨rfl, wide_diff hin hx⟩
  have htop := r03_Top h h0
  have hT2 : ∀ i (hi : i < l.length), l[i] = maxL l → ∃ ad, A = some ad ∧ w.cell? (ad.add i) = some (.int .i32 (maxL l)) := fun i hi e => by
    obtain ⟨ad, u, rfl, _, hu, rfl, _⟩ := h.at_ rfl hi
    exact ⟨ad, rfl, by rw [hu, e]⟩
  generalize maxL l = M at *
  have HM := Lib.hid hM
  have HT := Lib.hid htop
  have HT2 := Lib.hid hT2
  clear hM htop hT2
  go_enter Try.func29, Try.ntmps29
  go_upto_region 2 with (go_at_call 54; refine (HT.out).mono ?_; rintro e w' ⟨i, hi, rfl, he, nq, rfl⟩; obtain ⟨ad, rfl, hcell⟩ := HT2.out i hi he; clear he)
  clear HT HT2
  go_upto_region 4 with fail
  go_loopg [4, 5] l.length (fun g v7 v24 wr => ∃ k : Nat, k ≤ l.length ∧ v24 = .int .i64 k ∧ g = l.length - k ∧
    wr.ownsRow w.heap.size 3 1 v7 (nums .i64 ((l.take k).map (weightI l))).length (nums .i64 ((l.take k).map (weightI l))) ∧ Below w.heap.size w wr)
  case atStart => exact ⟨0, Nat.zero_le _, rfl, by omega, World.ownsRow_nil _ _ _ _, drewN_below _ _⟩
  case round =>
    obtain ⟨k, hk, rfl, hg, HO, HB⟩ := hrel
    have HG := Lib.hid hg
    clear hg hcell
    by_cases hlt : k < l.length
    · obtain ⟨ad', u, had, _, hu, rfl, hx1, hx2⟩ := (h.below HB).at_ rfl hlt
      obtain rfl : ad = ad' := by injection had
      have hn' : (nums .i64 ((l.take k).map (weightI l))).length + 1 ≤ 2199023255552 := by have := nums_len .i64 (weightI l) l k _ hn; omega
      have hs := nums_take_succ .i64 (weightI l) l hlt
      obtain ⟨hw, hw1, hw2⟩ := HM.out _ (List.getElem_mem hlt)
      rw [hw] at hs
      generalize hx : l[k] = x at hu hx1 hx2 hs hw1 hw2 hw
      have HS := Lib.hid hs
      clear hx hs hw had
      generalize nums .i64 ((l.take k).map (weightI l)) = acc at *
      go_wp2_with (first | (go_at_call 39; refine (r01_Wide _ _).mono ?_; rintro e w' ⟨rfl, nq, rfl⟩) | (go_at_call 55; refine (r02_Exp _ _ hw1 hw2).mono ?_; rintro e w' ⟨rfl, nq, rfl⟩) | (at_builtin; refine app1 _ (.tmp 17) (.tmp 28) 56 3 (.int .i64 0) 8 rfl rfl Try.underlying56 info_i64 rfl _ _ _ rfl rfl rfl HO (by first | exact HB | exact below_drewN HB _) (HB).size hn' (by decide) ?_; intro v1 w1 HO1 HB1 HG1 HA1))
      go_roundg (l.length - (k + 1))
      case rel => exact ⟨k + 1, by omega, by go_num, by omega, by rw [HS.out]; exact HO1, HB1⟩
      case measure => rw [HG.out]; omega
    · obtain rfl : k = l.length := by omega
      go_wp2
      go_ret
      rw [List.take_length] at HO
      exact ⟨HB, _, rfl, Sl.ints HO (weights_in hin)⟩
end Go.Proofs.Ytkepgkjbhdgbiaa

namespace Go.Proofs.Ytkepgkjbhdgbiaa
open Go.RowKit

/-- A list of lists of numbers. -/
abbrev Rows (F : Nat → Prop) (w : World) (v : Value) (ll : List (List Int)) : Prop := Sl F w (fun u x => Sl F w (IntV .i32) u x) v ll

theorem Rows.below {F : Nat → Prop} {w w' : World} {v : Value} {ll : List (List Int)} (h : Rows F w v ll) (hb : Below w.heap.size w w') : Rows F w' v ll :=
  Sl.keep h (fun b hb' _ => hb.block b hb') (fun _ _ h => h) (fun _ _ _ h => Sl.below h hb)

theorem Rows.row {F : Nat → Prop} {w : World} {A : Option Addr} {n c : Nat} {ll : List (List Int)} (h : Rows F w (.slice A n c) ll) {k : Nat} (hk : k < ll.length) :
    ∃ ad A' c', A = some ad ∧ w.cell? (ad.add k) = some (.slice A' ll[k].length c') ∧ Sl F w (IntV .i32) (.slice A' ll[k].length c') ll[k] ∧ ll[k].length ≤ c' ∧ c' ≤ 9223372036854775807 := by
  obtain ⟨ad, u, hA, _, hu, hr⟩ := Sl.at_ h rfl hk
  obtain ⟨A', c', rfl, h1, h2⟩ := Sl.form hr
  exact ⟨ad, A', c', hA, hu, hr, h1, h2⟩

def mixAt (ws : List Int) (ls : List (List Int)) (i : Nat) : Int := narrowI (ratioI (sumTo (fun k => ws.getD k 0 * (ls.getD k []).getD i 0) ls.length) (sumL ws))
def mixL (ws : List Int) (ls : List (List Int)) (n : Nat) : List Int := (List.range n).map (mixAt ws ls)

theorem mix_term {ws : List Int} {ls : List (List Int)} {n k i : Nat} (hw : ∀ x ∈ ws, 0 ≤ x ∧ x ≤ 65536) (hl : ∀ l ∈ ls, l.length = n ∧ ∀ x ∈ l, -8388608 ≤ x ∧ x ≤ 8388608) :
    -549755813888 ≤ ws.getD k 0 * (ls.getD k []).getD i 0 ∧ ws.getD k 0 * (ls.getD k []).getD i 0 ≤ 549755813888 := by
  have h1 : -65536 ≤ ws.getD k 0 ∧ ws.getD k 0 ≤ 65536 := by
    rcases Nat.lt_or_ge k ws.length with h | h
    · rw [getD_at h]; have := hw _ (List.getElem_mem h); omega
    · rw [List.getD_eq_getElem?_getD, List.getElem?_eq_none h]; simp
  have h2 : -8388608 ≤ (ls.getD k []).getD i 0 ∧ (ls.getD k []).getD i 0 ≤ 8388608 := by
    rcases Nat.lt_or_ge k ls.length with h | h
    · have e : ls.getD k [] = ls[k] := by simp [h]
      rw [e]
      rcases Nat.lt_or_ge i ls[k].length with h' | h'
      · rw [getD_at h']; exact (hl _ (List.getElem_mem h)).2 _ (List.getElem_mem h')
      · rw [List.getD_eq_getElem?_getD, List.getElem?_eq_none h']; simp
    · rw [List.getD_eq_getElem?_getD (l := ls), List.getElem?_eq_none h]; simp
  have := mul_bd h1.1 h1.2 h2.1 h2.2
  omega
theorem mix_sum {ws : List Int} {ls : List (List Int)} {n k i : Nat} (hw : ∀ x ∈ ws, 0 ≤ x ∧ x ≤ 65536) (hl : ∀ l ∈ ls, l.length = n ∧ ∀ x ∈ l, -8388608 ≤ x ∧ x ≤ 8388608) (hk : k ≤ 1024) :
    -562949953421312 ≤ sumTo (fun k => ws.getD k 0 * (ls.getD k []).getD i 0) k ∧ sumTo (fun k => ws.getD k 0 * (ls.getD k []).getD i 0) k ≤ 562949953421312 := by
  have h := sumTo_bd (n := k) (B := 549755813888) fun j _ => mix_term (i := i) (k := j) hw hl
  omega

theorem rangemap_succ (k : IntKind) (f : Nat → Int) (i : Nat) : nums k ((List.range (i + 1)).map f) = nums k ((List.range i).map f) ++ [.int k (f i)] := by simp [nums, List.range_succ]
theorem rangemap_len (k : IntKind) (f : Nat → Int) (i : Nat) : (nums k ((List.range i).map f)).length = i := by simp [nums]
theorem mixL_in (ws : List Int) (ls : List (List Int)) (n : Nat) : ∀ x ∈ mixL ws ls n, InK .i32 x := by
  intro x hx
  obtain ⟨y, _, rfl⟩ := List.mem_map.1 hx
  have := narrow_bd (ratioI (sumTo (fun k => ws.getD k 0 * (ls.getD k []).getD y 0) ls.length) (sumL ws))
  exact ⟨by unfold mixAt; omega, by unfold mixAt; omega⟩

theorem r04_Mix {F G : Nat → Prop} {w : World} {v v2 : Value} {ws : List Int} {ls : List (List Int)} {n : Nat} (h : Sl F w (IntV .i64) v ws) (h' : Rows G w v2 ls) (h0 : 0 < ls.length) (h1 : ls.length ≤ 1024) (hwl : ws.length = ls.length)
    (hw : ∀ x ∈ ws, 0 ≤ x ∧ x ≤ 65536) (hl : ∀ l ∈ ls, l.length = n ∧ ∀ x ∈ l, -8388608 ≤ x ∧ x ≤ 8388608) (hs : 0 < sumL ws) (hn : n ≤ 1024) :
    Calls Try.prog 28 #[v, v2] w (RetSl w (fun _ => IntV .i32) (mixL ws ls n)) := by
  obtain ⟨A, c, rfl, hc, hm⟩ := h.form
  obtain ⟨A', c', rfl, hc', hm'⟩ := Sl.form h'
  have hs2 : sumL ws ≤ 67108864 := (sum_bd hw (k := ws.length) (by omega)).2
  have HWL := Lib.hid hwl
  clear hwl
  go_enter Try.func28, Try.ntmps28
  go_upto_region 3 with fail
  go_loopg [5, 6] n (fun g v5 v6 wr => ∃ k : Nat, k ≤ n ∧ v6 = .int .i64 k ∧ g = n - k ∧
    wr.ownsRow w.heap.size 21 1 v5 (nums .i32 ((List.range k).map (mixAt ws ls))).length (nums .i32 ((List.range k).map (mixAt ws ls))) ∧ Below w.heap.size w wr)
  case atStart => exact ⟨0, Nat.zero_le _, rfl, by omega, World.ownsRow_nil _ _ _ _, Below.refl _ _⟩
  case round =>
    obtain ⟨i, hi, rfl, hg, HO, HB⟩ := hrel
    have HG := Lib.hid hg
    clear hg
    obtain ⟨wo, hwo⟩ : ∃ wo : World, wo = wr := ⟨_, rfl⟩
    subst hwo
    obtain ⟨ad0, A0, c0, rfl, hu0, hr0, _, _⟩ := (h'.below HB).row h0
    have hl0 : ls[0].length = n := (hl _ (List.getElem_mem h0)).1
    rw [add_zero_] at hu0
    rw [hl0] at hu0
    by_cases hlt : i < n
    · go_upto_region 7 with fail
      clear hu0
      go_loopg [7, 8] ls.length (fun g s j wr => ∃ k : Nat, k ≤ ls.length ∧ j = .int .i64 k ∧ g = ls.length - k ∧ s = .int .i64 (sumTo (fun k => ws.getD k 0 * (ls.getD k []).getD i 0) k) ∧ ∃ n, wr = wo.drewN n)
      case atStart => exact ⟨0, Nat.zero_le _, rfl, by omega, rfl, 0, rfl⟩
      case round =>
        obtain ⟨k, hk, rfl, hg, rfl, nd, rfl⟩ := hrel
        have HG2 := Lib.hid hg
        clear hg
        by_cases hlt2 : k < ls.length
        · have hlt3 : k < ws.length := by have := HWL.out; omega
          obtain ⟨ad, u, rfl, _, hu, rfl, hx1, hx2⟩ := (h.below HB).at_ rfl hlt3
          obtain ⟨ad2, A2, c2, had, hu2, hr2, _, _⟩ := (h'.below HB).row hlt2
          obtain rfl : ad0 = ad2 := by injection had
          have hlk : ls[k].length = n := (hl _ (List.getElem_mem hlt2)).1
          obtain ⟨ad3, u3, rfl, _, hu3, rfl, hy1, hy2⟩ := hr2.at_ rfl (k := i) (by omega)
          obtain ⟨s1, s2⟩ := mix_sum (i := i) hw hl (k := k) (by omega)
          have hp := mix_term (i := i) (k := k) hw hl
          have e1 : (ls.getD k []).getD i 0 = ls[k][i] := by simp [hlt2, hlk, hlt]
          rw [getD_at hlt3, e1] at hp
          have hs : sumTo (fun k => ws.getD k 0 * (ls.getD k []).getD i 0) (k + 1) = sumTo (fun k => ws.getD k 0 * (ls.getD k []).getD i 0) k + ws[k] * ls[k][i] := by rw [← getD_at hlt3, ← e1]; rfl
          rw [hlk] at hu2
          have hin : i < ls[k].length := by omega
          generalize hx : ws[k] = x at hu hx1 hx2 hp hs
          generalize hy : ls[k][i] = y at hu3 hy1 hy2 hp hs
          have HS := Lib.hid hs
          clear hx hy hs e1 had hr2 hin hlk
          generalize hsum : sumTo (fun k => ws.getD k 0 * (ls.getD k []).getD i 0) k = sm at *
          obtain ⟨p1, p2⟩ := hp
          go_upto_region 9 with fail
          go_quiet (fail)
          go_wp2
          go_roundg (ls.length - (k + 1))
          case rel => exact ⟨k + 1, by omega, by go_num, by omega, by rw [HS.out], (by first | exact ⟨_, rfl⟩ | exact ⟨_, World.drewN_drewN ..⟩ | exact ⟨_, (World.drewN_drewN ..).trans (World.drewN_drewN ..)⟩)⟩
          case measure => rw [HG2.out]; omega
        · obtain rfl : k = ls.length := by omega
          obtain ⟨s1, s2⟩ := mix_sum (i := i) hw hl (k := ls.length) (by omega)
          have hn' : (nums .i32 ((List.range i).map (mixAt ws ls))).length + 1 ≤ 2199023255552 := by rw [rangemap_len]; omega
          have hs := rangemap_succ .i32 (mixAt ws ls) i
          rw [show mixAt ws ls i = narrowI (ratioI (sumTo (fun k => ws.getD k 0 * (ls.getD k []).getD i 0) ls.length) (sumL ws)) from rfl] at hs
          generalize nums .i32 ((List.range i).map (mixAt ws ls)) = acc at *
          generalize hsum : sumTo (fun k => ws.getD k 0 * (ls.getD k []).getD i 0) ls.length = sm at *
          have HS := Lib.hid hs
          clear hs hsum
          have hwl : ws.length ≤ 1024 := by have := HWL.out; omega
          have hsumc := fun W hW => r04_Sum (w := W) (h.below hW) hwl hw
          generalize sumL ws = den at *
          have HSC := Lib.hid hsumc
          clear hsumc
          go_wp2_with (first
            | (go_at_call 53; refine (HSC.out _ (below_drewN HB _)).mono ?_; rintro e w' ⟨rfl, nq, rfl⟩)
            | (go_at_call 38; refine (r01_Ratio _ _ _ (by omega) (by omega) hs (by omega)).mono ?_; rintro e w' ⟨rfl, nq, rfl⟩)
            | (go_at_call 52; refine (r01_Narrow _ _).mono ?_; rintro e w' ⟨rfl, nq, rfl⟩)
            | (at_builtin; refine app1 _ (.tmp 38) (.tmp 44) 22 21 (.int .i32 0) 4 rfl rfl Try.underlying22 info_i32 rfl _ _ _ rfl rfl rfl HO (by first | exact HB | exact below_drewN HB _) (HB).size hn' (by decide) ?_; intro v1 w1 HO1 HB1 HG1 HA1))
          go_roundg (n - (i + 1))
          case rel => exact ⟨i + 1, by omega, by go_num, by omega, by rw [HS.out]; exact HO1, HB1⟩
          case measure => rw [HG.out]; omega
    · obtain rfl : i = n := by omega
      go_wp2
      go_ret
      exact ⟨HB, _, rfl, Sl.ints HO (mixL_in ws ls i)⟩

theorem attn_scaled (sum n : Int) (w : World) (h1 : -4611686018427387904 ≤ sum) (h2 : sum ≤ 4611686018427387904) (h3 : 1 ≤ n) (h4 : n ≤ 1024) :
    Calls Try.prog 36 #[.int .i64 sum, .int .i64 n] w (Ret w (.int .i32 (wideI (ratioI (wideI (ratioI sum 65536) * rsqrtI (n * 65536)) 65536)))) := by
  have e : ratioI sum 65536 = halfI sum 16 := (halfI_in (n := 16) (by decide) (by decide)).symm
  rw [e]
  have hb := wide_bd (halfI sum 16)
  have hr := rsqrt_bd (n * 65536)
  go_enter Try.func36, Try.ntmps36
  go_wp2_with (first
    | (go_at_call 67; (with_reducible refine (fix_Half _ _ _ h1 h2 (by decide) (by decide)).mono ?_); rintro e w' ⟨rfl, nq, rfl⟩)
    | (go_at_call 66; (with_reducible refine (fix_Wide _ _).mono ?_); rintro e w' ⟨rfl, nq, rfl⟩)
    | (go_at_call 68; (with_reducible refine (expo_Rsqrt _ _ (by omega) (by omega)).mono ?_); rintro e w' ⟨rfl, nq, rfl⟩)
    | (go_at_call 65; refine (fix_Mul _ _ _ ⟨hb.1, hb.2⟩ ⟨by omega, by omega⟩).mono ?_; rintro e w' ⟨rfl, nq, rfl⟩))
  go_ret
  exact ⟨rfl, (by first | exact ⟨_, rfl⟩ | exact ⟨_, World.drewN_drewN ..⟩ | exact ⟨_, (World.drewN_drewN ..).trans (World.drewN_drewN ..)⟩)⟩

/-- The score of a query for a key of as many numbers. -/
def scoreI (q k : List Int) : Int := wideI (ratioI (wideI (ratioI (dotI (q.map narrowI) (k.map narrowI)) 65536) * rsqrtI (q.length * 65536)) 65536)

theorem mild_narrow (l : List Int) (h : l.length ≤ 1024) : MildL (l.map narrowI) := by
  refine ⟨by simpa using h, fun x hx => ?_⟩
  obtain ⟨y, _, rfl⟩ := List.mem_map.1 hx
  have := narrow_bd y
  omega

theorem r14_Score {F G : Nat → Prop} {w : World} {v v2 : Value} {q k : List Int} (h : Sl F w (IntV .i32) v q) (h' : Sl G w (IntV .i32) v2 k) (h0 : 1 ≤ q.length) (h1 : q.length ≤ 1024) (hk : k.length = q.length) :
    Calls Try.prog 26 #[v, v2] w (fun e w' => e = .returned (.int .i32 (scoreI q k)) ∧ Below w.heap.size w w') := by
  obtain ⟨A, c, rfl, hc, hm⟩ := h.form
  obtain ⟨A', c', rfl, hc', hm'⟩ := h'.form
  have hd := dot_bd (mild_narrow q h1) (mild_narrow k (by omega)) q.length h1
  have hdd : dotI (q.map narrowI) (k.map narrowI) = sumTo (fun i => (q.map narrowI).getD i 0 * (k.map narrowI).getD i 0) q.length := by unfold dotI; simp
  rw [← hdd] at hd
  have hb := wide_bd (ratioI (dotI (q.map narrowI) (k.map narrowI)) 65536)
  have hr := rsqrt_bd (q.length * 65536)
  unfold scoreI
  have hdc := fun W (F1 F2 : Nat → Prop) (v3 v4 : Value) (g1 : Sl F1 W (IntV .i32) v3 (q.map narrowI)) (g2 : Sl F2 W (IntV .i32) v4 (k.map narrowI)) => r03_Dot g1 g2 (by simp [hk]) (mild_narrow q h1) (mild_narrow k (by omega))
  generalize dotI (q.map narrowI) (k.map narrowI) = d at *
  have HDC := Lib.hid hdc
  have HK := Lib.hid hk
  clear hdc hdd hk
  obtain ⟨d1, d2⟩ := hd
  go_enter Try.func26, Try.ntmps26
  go_wp2_with fail
  refine (r14_Narrow h (by omega)).mono ?_
  rintro e w1 ⟨hB1, v3, rfl, hs3⟩
  obtain ⟨A3, c3, rfl, _, _⟩ := hs3.form
  go_wp2_with fail
  refine (r14_Narrow (h'.below hB1) (by have := HK.out; omega)).mono ?_
  rintro e w2 ⟨hB2, v4, rfl, hs4⟩
  obtain ⟨A4, c4, rfl, _, _⟩ := hs4.form
  simp only [List.length_map] at hs3 hs4
  have hB : Below w.heap.size w w2 := hB1.trans (hB2.mono hB1.size)
  go_wp2_with (first
    | (go_at_call 49; refine (HDC.out _ _ _ _ _ (hs3.below hB2) hs4).mono ?_; rintro e w' ⟨rfl, nq, rfl⟩)
    | (go_at_call 38; (with_reducible refine (r01_Ratio _ _ _ (by omega) (by omega) (by decide) (by decide)).mono ?_); rintro e w' ⟨rfl, nq, rfl⟩)
    | (go_at_call 39; (with_reducible refine (r01_Wide _ _).mono ?_); rintro e w' ⟨rfl, nq, rfl⟩)
    | (go_at_call 51; (with_reducible refine (r02_Rsqrt _ _ (by omega) (by omega)).mono ?_); rintro e w' ⟨rfl, nq, rfl⟩)
    | (go_at_call 50; refine (r01_Mul _ _ _ ⟨hb.1, hb.2⟩ ⟨by omega, by omega⟩).mono ?_; rintro e w' ⟨rfl, nq, rfl⟩))
  go_ret
  exact ⟨rfl, below_drewN hB _⟩
end Go.Proofs.Ytkepgkjbhdgbiaa
