/- Contracts of functions of the program, and what they need (Vec8, Pack). -/
import Derived.Test.YtkepgkjbhdgbiaaZ4

namespace Go.Proofs.Ytkepgkjbhdgbiaa
open Go.RowKit

theorem info_sl32 : (Try.prog.info? 22).map (fun i => (i.zero, i.size, i.bytes)) = some (some (.slice none 0 0), 1, 24) := by kernel_rfl

/-- What a query gathers of tokens. -/
def gatherI (q : List Int) (ks vs : List (List Int)) : List Int := mixL (weightsL (ks.map (scoreI q))) (vs.map fun l => l.map narrowI) q.length

/-- Can it? -/
def Fits (q : List Int) (ks vs : List (List Int)) : Prop :=
  1 ≤ ks.length ∧ ks.length ≤ 1024 ∧ vs.length = ks.length ∧ 1 ≤ q.length ∧ q.length ≤ 16 ∧ (∀ l ∈ ks, l.length = q.length) ∧ ∀ l ∈ vs, l.length = q.length

theorem score_in (q : List Int) (ks : List (List Int)) : ∀ x ∈ ks.map (scoreI q), InK .i32 x := by
  intro x hx
  obtain ⟨k, _, rfl⟩ := List.mem_map.1 hx
  exact wide_bd _
theorem sum_pos {s : List Int} (hs : ∀ x ∈ s, InK .i32 x) (h0 : 0 < s.length) : 0 < sumL (weightsL s) := by
  have hm := maxL_mem h0
  have hw := weights_bd hs
  have ht : (65536 : Int) ∈ weightsL s := List.mem_map.2 ⟨_, hm, weight_top⟩
  generalize weightsL s = l at *
  obtain ⟨j, hj, he⟩ := List.getElem_of_mem ht
  have : ∀ n, n ≤ l.length → 0 ≤ sumTo (fun i => l.getD i 0) n ∧ (j < n → 65536 ≤ sumTo (fun i => l.getD i 0) n) := by
    intro n
    induction n with
    | zero => exact fun _ => ⟨by simp [sumTo], fun h => by omega⟩
    | succ n ih =>
      intro hn
      obtain ⟨a, b⟩ := ih (by omega)
      have hx := hw _ (List.getElem_mem (show n < l.length by omega))
      have e1 : sumTo (fun i => l.getD i 0) (n + 1) = sumTo (fun i => l.getD i 0) n + l[n] := by rw [← getD_at (show n < l.length by omega)]; rfl
      rw [e1]
      refine ⟨by omega, fun h => ?_⟩
      rcases Nat.lt_or_ge j n with h1 | h1
      · have := b h1; omega
      · obtain rfl : j = n := by omega
        omega
  have := (this l.length (Nat.le_refl _)).2 hj
  unfold sumL
  omega

theorem OwnL.rows {W : World} {B : Nat} {e : TypeId} {X : List (Option Nat)} {v : Value} {ll : List (List Int)} (h : OwnL W B e (fun u x => Sl (Fx B X) W (IntV .i32) u x) v ll) : Rows (fun b => B ≤ b) W v ll :=
  Sl.keep h.sl (fun _ _ _ => rfl) (fun _ _ h => h) (fun _ _ _ h => Sl.keep h (fun _ _ _ => rfl) (fun _ _ h => h.1) (fun _ _ _ h => h))

theorem r14_Gather {F G H : Nat → Prop} {w : World} {v v2 v3 : Value} {q : List Int} {ks vs : List (List Int)} (hq : Sl F w (IntV .i32) v q) (hks : Rows G w v2 ks) (hvs : Rows H w v3 vs) (hf : Fits q ks vs) :
    Calls Try.prog 15 #[v, v2, v3] w (RetSl w (fun _ => IntV .i32) (gatherI q ks vs)) := by
  obtain ⟨A, c, rfl, hc, hm⟩ := hq.form
  obtain ⟨A2, c2, rfl, hc2, hm2⟩ := Sl.form hks
  obtain ⟨A3, c3, rfl, hc3, hm3⟩ := Sl.form hvs
  obtain ⟨f1, f2, f3, f4, f5, f6, f7⟩ := hf
  have F3 := Lib.hid f3
  clear f3
  go_enter Try.func15, Try.ntmps15
  go_upto_region 4 with fail
  go_loopg [7, 8, 9] ks.length (fun g v7 v8 v9 wr => ∃ k : Nat, k ≤ ks.length ∧ v9 = .int .i64 k ∧ g = ks.length - k ∧
    wr.ownsRow w.heap.size 21 1 v7 (nums .i32 ((ks.take k).map (scoreI q))).length (nums .i32 ((ks.take k).map (scoreI q))) ∧
    OwnL wr w.heap.size 22 (fun u x => Sl (Fx w.heap.size [v7.ownBlock, v8.ownBlock]) wr (IntV .i32) u x) v8 ((vs.take k).map fun l => l.map narrowI) ∧ Below w.heap.size w wr)
  case atStart => exact ⟨0, Nat.zero_le _, rfl, by omega, World.ownsRow_nil _ _ _ _, OwnL.nil, Below.refl _ _⟩
  case round =>
    obtain ⟨k, hk, rfl, hg, HO, HL, HB⟩ := hrel
    have HG := Lib.hid hg
    clear hg
    by_cases hlt : k < ks.length
    · have hlt2 : k < vs.length := by have := F3.out; omega
      obtain ⟨ad1, A1, d1, rfl, hu1, hr1, _, _⟩ := (hks.below HB).row hlt
      have hl1 : ks[k].length = q.length := f6 _ (List.getElem_mem hlt)
      have hn' : (nums .i32 ((ks.take k).map (scoreI q))).length + 1 ≤ 2199023255552 := by simp [nums]; omega
      have hs : nums .i32 ((ks.take (k + 1)).map (scoreI q)) = nums .i32 ((ks.take k).map (scoreI q)) ++ [.int .i32 (scoreI q ks[k])] := by rw [take_succ_map _ _ hlt]; simp [nums]
      generalize nums .i32 ((ks.take k).map (scoreI q)) = acc at *
      have HS := Lib.hid hs
      have hsc := r14_Score (hq.below HB) hr1 f4 (by omega) hl1
      rw [hl1] at hu1 hsc
      generalize scoreI q ks[k] = sc at hs hsc
      have HS := Lib.hid hs
      have HSC := Lib.hid hsc
      clear hs hsc hr1
      go_upto_region 7 with (first
        | (go_at_call 26; refine (HSC.out).mono ?_; rintro e w2 ⟨rfl, hb2⟩)
        | (at_builtin; refine app1 _ (.tmp 16) (.tmp 23) 22 21 (.int .i32 0) 4 rfl rfl Try.underlying22 info_i32 rfl _ _ _ rfl rfl rfl (own_below HO hb2) (HB.trans (hb2.mono HB.size)) (Nat.le_trans HB.size hb2.size) hn' (by decide) ?_; intro v1 w1 HO1 HB1 HG1 HA1))
      have HG2 : wr.grownBy w1 u7.ownBlock := World.grownBy.trans (grown_of_below hb2 _) HG1
      have HA2 : v1.ownBlock = u7.ownBlock ∨ ∃ b, v1.ownBlock = some b ∧ wr.heap.size ≤ b := HA1.imp id fun ⟨b, h1, h2⟩ => ⟨b, h1, Nat.le_trans hb2.size h2⟩
      clear HG1 HA1 hu1 hn'
      obtain ⟨xs, hox, hlx, hrx⟩ := HL
      have hox1 := hox.kept HG2 (own_ne hox HO (by decide))
      have hrx1 : ∀ (j : Nat) u x, xs[j]? = some u → ((vs.take k).map fun l => l.map narrowI)[j]? = some x → Sl (Fx w.heap.size [v1.ownBlock, u8.ownBlock]) w1 (IntV .i32) u x := fun j u x h1 h2 =>
        (hrx j u x h1 h2).grow HG2 (.inr (by simp)) (fun o ho => by
          simp at ho
          rcases ho with rfl | rfl
          · exact HA2.imp (fun e => by simp [e]) id
          · exact .inl (by simp))
      clear hox hrx HG2 HA2 HO hb2
      obtain ⟨ad2, A2, d2, rfl, hu2, hr2, _, _⟩ := (hvs.below HB1).row hlt2
      have hn2 : vs[k].length ≤ 1099511627776 := by have := f7 _ (List.getElem_mem hlt2); omega
      have hxl : xs.length + 1 ≤ 2199023255552 := by simp at hlx; omega
      have hnw := r14_Narrow hr2 hn2
      have hs2 : ((vs.take (k + 1)).map fun l => l.map narrowI) = ((vs.take k).map fun l => l.map narrowI) ++ [vs[k].map narrowI] := take_succ_map _ _ hlt2
      have HS2 := Lib.hid hs2
      generalize vs[k].length = nv at hu2 hnw
      generalize vs[k].map narrowI = y at hs2 hnw
      generalize ((vs.take k).map fun l => l.map narrowI) = accl at *
      have HS2 := Lib.hid hs2
      have HNW := Lib.hid hnw
      have HLX := Lib.hid hlx
      clear hs2 hnw hlx hr2 hn2
      go_wp2_with (first
        | (go_at_call 27; refine (HNW.out).mono ?_; rintro e w3 ⟨hb3, v5, rfl, hs5⟩; obtain ⟨A5, c5, rfl, _, _⟩ := hs5.form)
        | (at_builtin; refine app1 _ (.tmp 25) (.tmp 31) 25 22 (.slice none 0 0) 24 rfl rfl Try.underlying25 info_sl32 rfl _ _ _ rfl rfl rfl (own_below hox1 hb3) (HB1.trans (hb3.mono HB1.size)) (Nat.le_trans HB1.size hb3.size) hxl (by decide) ?_; intro v2 w4 HO4 HB4 HG4 HA4))
      go_roundg (ks.length - (k + 1))
      case rel =>
        have HO3 := own_below HO1 hb3
        have HX3 := own_below hox1 hb3
        have hfr : ∀ {u x}, Sl (Fx w.heap.size [v1.ownBlock, u8.ownBlock]) w3 (IntV .i32) u x → Sl (Fx w.heap.size [v1.ownBlock, v2.ownBlock]) w4 (IntV .i32) u x := fun h =>
          h.grow (row := u8.ownBlock) HG4 (.inr (by simp)) (fun o ho => by
            simp at ho
            rcases ho with rfl | rfl
            · exact .inl (by simp)
            · rcases HA4 with e | ⟨b, e1, e2⟩
              · exact .inl (by rw [e]; simp [Act.eval])
              · exact .inr ⟨b, e1, e2⟩)
        refine ⟨k + 1, by omega, by go_num, by omega, ?_, ?_, HB4⟩
        · rw [HS.out]; exact HO3.kept HG4 (own_ne HO3 HX3 (by decide))
        · rw [HS2.out]
          refine OwnL.snoc HO4 HLX.out (fun j u x h1 h2 => hfr ((hrx1 j u x h1 h2).below hb3)) (hfr (hs5.toFx HB1.size (fun b hb => ?_)))
          simp at hb
          rcases hb with hb | hb
          · exact own_lt HO1 b hb.symm
          · exact own_lt hox1 b hb.symm
      case measure => rw [HG.out]; omega
    · obtain rfl : k = ks.length := by omega
      have hvt : vs.take ks.length = vs := List.take_of_length_le (by have := F3.out; omega)
      rw [List.take_length] at HO
      rw [hvt] at HL
      have hin := score_in q ks
      have hss := Sl.ints HO hin
      have hrows := HL.rows
      have hmx : gatherI q ks vs = mixL (weightsL (ks.map (scoreI q))) (vs.map fun l => l.map narrowI) q.length := rfl
      have hmild : ∀ l ∈ (vs.map fun l => l.map narrowI), l.length = q.length ∧ ∀ x ∈ l, -8388608 ≤ x ∧ x ≤ 8388608 := by
        intro l hl
        obtain ⟨l', h1, rfl⟩ := List.mem_map.1 hl
        refine ⟨by rw [List.length_map]; exact f7 _ h1, fun x hx => ?_⟩
        obtain ⟨y, _, rfl⟩ := List.mem_map.1 hx
        exact narrow_bd y
      have hwb := weights_bd hin
      have hsp := sum_pos hin (by rw [List.length_map]; omega)
      have hlen1 : (ks.map (scoreI q)).length = ks.length := by simp
      have hlen2 : (vs.map fun l => l.map narrowI).length = ks.length := by simpa using F3.out
      have hlen3 : (weightsL (ks.map (scoreI q))).length = ks.length := by simp [weightsL]
      generalize (vs.map fun l => l.map narrowI) = ml at *
      generalize (ks.map (scoreI q)) = sl at *
      have HMX := Lib.hid hmx
      have HLN := Lib.hid (And.intro hlen1 (And.intro hlen2 hlen3))
      have HM := Lib.hid (And.intro hmild (And.intro hwb hsp))
      clear hmild hwb hsp hlen1 hlen2 hlen3 hmx hvt HO HL hin
      go_wp2_with (first
        | (go_at_call 29; refine (r04_Weights hss (by have := HLN.out.1; omega) (by have := HLN.out.1; omega)).mono ?_; rintro e w2 ⟨hb2, v6, rfl, hs6⟩)
        | (go_at_call 28; refine (r04_Mix hs6 (hrows.below hb2) (by have := HLN.out.2.1; omega) (by have := HLN.out.2.1; omega) (by have := HLN.out; omega) HM.out.2.1 HM.out.1 HM.out.2.2 (by omega)).mono ?_; rintro e w3 ⟨hb3, v7, rfl, hs7⟩))
      go_ret
      have hb4 : w.heap.size ≤ w2.heap.size := Nat.le_trans HB.size hb2.size
      exact ⟨(HB.trans (hb2.mono HB.size)).trans (hb3.mono hb4), _, rfl, by rw [HMX.out]; exact hs7.keep (fun _ _ _ => rfl) (fun b _ h => Nat.le_trans hb4 h) (fun _ _ _ h => h)⟩
end Go.Proofs.Ytkepgkjbhdgbiaa

namespace Go.Proofs.Ytkepgkjbhdgbiaa
open Go.RowKit

def bitsB (b : Int) : Bool := decide (b = 2 ∨ b = 4 ∨ b = 8)
theorem pack_Bits (b : Int) (w : World) : Calls Try.prog 56 #[.int .i64 b] w (Ret w (.bool (bitsB b))) := by
  unfold bitsB
  by_cases h1 : b = 2
  · subst h1
    go_enter Try.func56, Try.ntmps56
    go_wp2
    go_ret
    exact ⟨rfl, 0, rfl⟩
  · by_cases h2 : b = 4
    · subst h2
      go_enter Try.func56, Try.ntmps56
      go_wp2
      go_ret
      exact ⟨rfl, 0, rfl⟩
    · have e1 : (b == 2) = false := by simpa using h1
      have e2 : (b == 4) = false := by simpa using h2
      have hd : decide (b = 2 ∨ b = 4 ∨ b = 8) = (b == 8) := by rw [Bool.eq_iff_iff]; simp [h1, h2]
      rw [hd]
      cases e3 : (b == 8)
      all_goals
        clear hd h1 h2
        go_enter Try.func56, Try.ntmps56
        go_wp2
        go_ret
        exact ⟨rfl, 0, rfl⟩
theorem bitsB_true {b : Int} (h : bitsB b = true) : b = 2 ∨ b = 4 ∨ b = 8 := by simpa [bitsB] using h
theorem bits_yes {b : Int} (h : b = 2 ∨ b = 4 ∨ b = 8) (w : World) : Calls Try.prog 56 #[.int .i64 b] w (Ret w (.bool true)) := by
  have := pack_Bits b w
  rwa [show bitsB b = true by simpa [bitsB] using h] at this

/-- One code out of packed words. -/
def laneI (ws : List Int) (i b : Nat) : Int := ws.getD (i * b / 64) 0 / 2 ^ (i * b % 64) % 2 ^ b

theorem mask_u64 (x : Int) (j : Nat) (h0 : 0 ≤ x) (h1 : x ≤ 18446744073709551615) (hj : j ≤ 64) : bits .and .u64 x (2 ^ j - 1) = x % 2 ^ j :=
  bits_mask .u64 64 (by decide) (fun n h1 h2 => by simp [IntKind.wrap, IntKind.bits, IntKind.signed]; omega) j hj x h0 (by omega)

theorem pack_Lane {F : Nat → Prop} {w : World} {v : Value} {ws : List Int} (h : Sl F w (IntV .u64) v ws) (i : Nat) (b : Int) (hb : b = 2 ∨ b = 4 ∨ b = 8) (hi : (i : Int) < ws.length * (64 / b)) (hl : ws.length ≤ 1024) :
    Calls Try.prog 114 #[v, .int .i64 i, .int .i64 b] w (Ret w (.int .i64 (laneI ws i b.toNat))) := by
  obtain ⟨A, c, rfl, hc, hm⟩ := h.form
  have hbb := fun w => bits_yes hb w
  have key : ∀ (bn sh : Nat), (bn = 2 ∧ sh = 32 ∨ bn = 4 ∧ sh = 16 ∨ bn = 8 ∧ sh = 8) → i < ws.length * sh → ∃ ad, A = some ad ∧ w.cell? (ad.add (i * bn / 64)) = some (.int .u64 (ws.getD (i * bn / 64) 0)) ∧ 0 ≤ ws.getD (i * bn / 64) 0 ∧ ws.getD (i * bn / 64) 0 ≤ 18446744073709551615 := by
    intro bn sh hs hlt
    have hk : i * bn / 64 < ws.length := by rcases hs with ⟨rfl, rfl⟩ | ⟨rfl, rfl⟩ | ⟨rfl, rfl⟩ <;> omega
    obtain ⟨ad, u, rfl, _, hu, rfl, h1, h2⟩ := h.at_ rfl hk
    exact ⟨ad, rfl, by rw [hu, getD_at hk], by rw [getD_at hk]; exact h1, by rw [getD_at hk]; exact h2⟩
  have HB := Lib.hid hbb
  clear hbb
  rcases hb with rfl | rfl | rfl
  · obtain ⟨ad, rfl, hu, x1, x2⟩ := key 2 32 (.inl ⟨rfl, rfl⟩) (by omega)
    have hr : laneI ws i (2 : Int).toNat = ws.getD (i * 2 / 64) 0 / 2 ^ (i * 2 % 64) % 4 := rfl
    rw [hr]
    generalize ws.getD (i * 2 / 64) 0 = x at *
    have d1 : 0 ≤ x / 2 ^ (i * 2 % 64) := Int.ediv_nonneg x1 (by have := pow2_pos (i * 2 % 64); omega)
    have d2 : x / 2 ^ (i * 2 % 64) ≤ x := Int.ediv_le_self _ x1
    have hm2 : bits .and .u64 (x / 2 ^ (i * 2 % 64)) (4 - 1) = x / 2 ^ (i * 2 % 64) % 4 := mask_u64 (x / 2 ^ (i * 2 % 64)) 2 d1 (by omega) (by decide)
    simp only [Int.reduceSub] at hm2
    clear hr key
    go_enter Try.func114, Try.ntmps114
    go_upto_region 4 with (go_at_call 56; refine (HB.out _).mono ?_; rintro e w' ⟨rfl, nq, rfl⟩)
    go_quiet (fail)
    go_wp2
    go_ret
    exact ⟨rfl, (by first | exact ⟨_, rfl⟩ | exact ⟨_, World.drewN_drewN ..⟩ | exact ⟨_, (World.drewN_drewN ..).trans (World.drewN_drewN ..)⟩)⟩
  · obtain ⟨ad, rfl, hu, x1, x2⟩ := key 4 16 (.inr (.inl ⟨rfl, rfl⟩)) (by omega)
    have hr : laneI ws i (4 : Int).toNat = ws.getD (i * 4 / 64) 0 / 2 ^ (i * 4 % 64) % 16 := rfl
    rw [hr]
    generalize ws.getD (i * 4 / 64) 0 = x at *
    have d1 : 0 ≤ x / 2 ^ (i * 4 % 64) := Int.ediv_nonneg x1 (by have := pow2_pos (i * 4 % 64); omega)
    have d2 : x / 2 ^ (i * 4 % 64) ≤ x := Int.ediv_le_self _ x1
    have hm2 : bits .and .u64 (x / 2 ^ (i * 4 % 64)) (16 - 1) = x / 2 ^ (i * 4 % 64) % 16 := mask_u64 (x / 2 ^ (i * 4 % 64)) 4 d1 (by omega) (by decide)
    simp only [Int.reduceSub] at hm2
    clear hr key
    go_enter Try.func114, Try.ntmps114
    go_upto_region 4 with (go_at_call 56; refine (HB.out _).mono ?_; rintro e w' ⟨rfl, nq, rfl⟩)
    go_quiet (fail)
    go_wp2
    go_ret
    exact ⟨rfl, (by first | exact ⟨_, rfl⟩ | exact ⟨_, World.drewN_drewN ..⟩ | exact ⟨_, (World.drewN_drewN ..).trans (World.drewN_drewN ..)⟩)⟩
  · obtain ⟨ad, rfl, hu, x1, x2⟩ := key 8 8 (.inr (.inr ⟨rfl, rfl⟩)) (by omega)
    have hr : laneI ws i (8 : Int).toNat = ws.getD (i * 8 / 64) 0 / 2 ^ (i * 8 % 64) % 256 := rfl
    rw [hr]
    generalize ws.getD (i * 8 / 64) 0 = x at *
    have d1 : 0 ≤ x / 2 ^ (i * 8 % 64) := Int.ediv_nonneg x1 (by have := pow2_pos (i * 8 % 64); omega)
    have d2 : x / 2 ^ (i * 8 % 64) ≤ x := Int.ediv_le_self _ x1
    have hm2 : bits .and .u64 (x / 2 ^ (i * 8 % 64)) (256 - 1) = x / 2 ^ (i * 8 % 64) % 256 := mask_u64 (x / 2 ^ (i * 8 % 64)) 8 d1 (by omega) (by decide)
    simp only [Int.reduceSub] at hm2
    clear hr key
    go_enter Try.func114, Try.ntmps114
    go_upto_region 4 with (go_at_call 56; refine (HB.out _).mono ?_; rintro e w' ⟨rfl, nq, rfl⟩)
    go_quiet (fail)
    go_wp2
    go_ret
    exact ⟨rfl, (by first | exact ⟨_, rfl⟩ | exact ⟨_, World.drewN_drewN ..⟩ | exact ⟨_, (World.drewN_drewN ..).trans (World.drewN_drewN ..)⟩)⟩
end Go.Proofs.Ytkepgkjbhdgbiaa
