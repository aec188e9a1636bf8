/- Contracts of functions of the program, and what they need (Right). -/
import Derived.Test.YtkepgkjbhdgbiaaZ9

namespace Go.Proofs.Ytkepgkjbhdgbiaa
open Go.RowKit

theorem add_zero_addr (ad : Addr) : ad.add 0 = ad := by cases ad; simp [Addr.add]

/-- A pointer to a page. -/
def PgV (F : Nat → Prop) (w : World) (u : Value) (x : Nat × Pg) : Prop := u = .pointer (some ⟨x.1, 0, none⟩) ∧ PageAt F w x.1 x.2
theorem pgs_below {F : Nat → Prop} {w : World} {u : Value} {pg : List (Nat × Pg)} (h : Sl F w (PgV F w) u pg) {w' : World} (hb : Below w.heap.size w w') : Sl F w' (PgV F w') u pg :=
  h.keep (fun b hb' _ => hb.block b hb') (fun _ _ h => h) (fun _ _ _ h => ⟨h.1, h.2.below hb⟩)

def tokN (pg : List (Nat × Pg)) (kl : List (List Int)) (k : Nat) : Nat := kl.length + ((pg.take k).map fun x => x.2.values.length).sum
def wideN (pg : List (Nat × Pg)) (kl : List (List Int)) : Nat := match pg with | x :: _ => x.2.keys.length | [] => (kl.getD 0 []).length
def restB (nq : Nat) (kl vl : List (List Int)) (d : Nat) : Bool := kl.length == vl.length && decide (1 ≤ d ∧ d ≤ 16) && nq == d && allLen kl d && allLen vl d
def rightI (nq : Nat) (pg : List (Nat × Pg)) (kl vl : List (List Int)) : Int :=
  if tokN pg kl pg.length = 0 then 14 else if 1024 < tokN pg kl pg.length then 12 else if (pg.all fun x => x.2.keys.length == wideN pg kl) && restB nq kl vl (wideN pg kl) then 0 else 25

theorem tokN_succ {pg : List (Nat × Pg)} {kl : List (List Int)} {k : Nat} (h : k < pg.length) : tokN pg kl (k + 1) = tokN pg kl k + pg[k].2.values.length := by
  unfold tokN
  rw [List.take_succ_eq_append_getElem h]
  simp only [List.map_append, List.sum_append, List.map_cons, List.map_nil, List.sum_cons, List.sum_nil]
  omega
theorem tokN_le {pg : List (Nat × Pg)} {kl : List (List Int)} {k : Nat} : tokN pg kl k ≤ tokN pg kl pg.length := by
  unfold tokN
  rw [List.take_length, List.map_take]
  have := sum_take_le (pg.map fun x => x.2.values.length) k
  omega

set_option maxHeartbeats 1000000 in
theorem attn_right {F G H I : Nat → Prop} {w : World} {v0 v1 v2 v3 : Value} {q : List Int} {pg : List (Nat × Pg)} {kl vl : List (List Int)} (h0 : Sl F w (IntV .i32) v0 q) (h1 : Sl G w (PgV G w) v1 pg) (h2 : Rows H w v2 kl) (h3 : Rows I w v3 vl) (hs : tokN pg kl pg.length ≤ 1000000) :
    Calls Try.prog 21 #[v0, v1, v2, v3] w (fun e w' => e = .returned (.int .i64 (rightI q.length pg kl vl)) ∧ Below w.heap.size w w') := by
  obtain ⟨A0, c0, rfl, hc0, hm0⟩ := h0.form
  obtain ⟨A1, c1, rfl, hc1, hm1⟩ := Sl.form h1
  obtain ⟨A2, c2, rfl, hc2, hm2⟩ := Sl.form h2
  obtain ⟨A3, c3, rfl, hc3, hm3⟩ := Sl.form h3
  have hfld1 := field_tokens
  have hfld2 := field_dim
  have HS := Lib.hid hs
  clear hs
  go_enter Try.func21, Try.ntmps21
  go_wp2
  go_loopg [9, 19] pg.length (fun g v9 v19 wr => ∃ k N : Nat, k ≤ pg.length ∧ v19 = .int .i64 k ∧ g = pg.length - k ∧ N = tokN pg kl k ∧ v9 = .int .i64 N ∧ Below w.heap.size w wr)
  case atStart => exact ⟨0, kl.length, Nat.zero_le _, rfl, by omega, by simp [tokN], rfl, Below.refl _ _⟩
  case round =>
    obtain ⟨k, N, hk, rfl, hg, hN, rfl, HB⟩ := hrel
    have HG := Lib.hid hg
    have HN := Lib.hid hN
    clear hg hN
    by_cases hlt : k < pg.length
    · obtain ⟨ad, u, rfl, _, hu, rfl, hpg⟩ := Sl.at_ (pgs_below h1 HB) rfl hlt
      have hle := tokN_le (pg := pg) (kl := kl) (k := k + 1)
      rw [tokN_succ hlt, ← HN.out] at hle
      have HT := Lib.hid (tokN_succ (kl := kl) hlt)
      have hb1 : N + pg[k].2.values.length ≤ 1000000 := Nat.le_trans hle HS.out
      have hvl : (pg[k].2.values.length : Int) = pg[k].2.head.tokens := hpg.2.2.2.1
      have hp := page_Head hpg
      unfold hdCells at hp
      have HP := Lib.hid hp
      clear hp hle hpg
      generalize pg[k] = x at *
      generalize x.2.values.length = m at *
      have hvl' : x.2.head.tokens = (m : Int) := hvl.symm
      clear hvl
      rw [hvl'] at HP
      clear hvl'
      go_wp2_with (go_at_call 40; refine (HP.out).mono ?_; rintro e w' ⟨rfl, hb⟩)
      go_roundg (pg.length - (k + 1))
      case rel => exact ⟨k + 1, N + m, by omega, by go_num, by omega, by rw [HT.out, HN.out], by go_num, HB.trans (hb.mono HB.size)⟩
      case measure => rw [HG.out]; omega
    · obtain rfl : k = pg.length := by omega
      have e14 : N = 0 → rightI q.length pg kl vl = 14 := fun h => by unfold rightI; rw [← HN.out, if_pos h]
      have e12 : N ≠ 0 → 1024 < N → rightI q.length pg kl vl = 12 := fun h h' => by unfold rightI; rw [← HN.out, if_neg h, if_pos h']
      have hN6 : N ≤ 1000000 := by rw [HN.out]; exact HS.out
      have E14 := Lib.hid e14
      have E12 := Lib.hid e12
      clear e14 e12
      go_upto_block 2 with fail
      go_cut [12] from 29 to 47 (fun v12 wx => v12 = .int .i64 (wideN pg kl : Nat) ∧ Below w.heap.size w wx ∧ N ≠ 0 ∧ N ≤ 1024)
      case first =>
        by_cases hn0 : N = 0
        · have e0 := E14.out hn0
          have E0 := Lib.hid e0
          clear e0
          subst hn0
          go_wp2
          go_ret
          exact ⟨by rw [E0.out]; rfl, HB⟩
        · by_cases hn1 : 1024 < N
          · have e0 := E12.out hn0 hn1
            have E0 := Lib.hid e0
            clear e0
            go_wp2
            go_ret
            exact ⟨by rw [E0.out]; rfl, HB⟩
          · by_cases hp0 : 0 < pg.length
            · obtain ⟨ad, u, rfl, _, hu, rfl, hpg⟩ := Sl.at_ (pgs_below h1 HB) rfl hp0
              rw [add_zero_addr] at hu
              have hw : wideN pg kl = pg[0].2.keys.length := by cases pg with | nil => simp at hp0 | cons x t => rfl
              have HW := Lib.hid hw
              have hkl : pg[0].2.head.dim = (pg[0].2.keys.length : Int) := hpg.2.2.1.symm
              have hp := page_Head hpg
              unfold hdCells at hp
              have HP := Lib.hid hp
              clear hp hpg hw
              generalize pg[0] = x at *
              rw [hkl] at HP
              clear hkl
              generalize x.2.keys.length = m at *
              go_wp2_with (go_at_call 40; refine (HP.out).mono ?_; rintro e w' ⟨rfl, hb⟩)
              go_meet
              exact ⟨by rw [HW.out], HB.trans (hb.mono HB.size), hn0, by omega⟩
            · have hpe : pg = [] := List.length_eq_zero_iff.mp (by omega)
              have hk0 : 0 < kl.length := by
                have := HN.out
                rw [hpe] at this
                simp [tokN] at this
                omega
              obtain ⟨ad, A', c', rfl, hu, _, _, _⟩ := (h2.below HB).row hk0
              rw [add_zero_addr] at hu
              have hw : wideN pg kl = kl[0].length := by rw [hpe]; simp [wideN, hk0]
              have HW := Lib.hid hw
              clear hw
              generalize kl[0].length = m at *
              clear hpe
              go_wp2
              go_meet
              exact ⟨by rw [HW.out], HB, hn0, by omega⟩
      case rest =>
        obtain ⟨rfl, HB1, hn0, hn1⟩ := hcut
        have er : rightI q.length pg kl vl = if (pg.all fun x => x.2.keys.length == wideN pg kl) && restB q.length kl vl (wideN pg kl) then 0 else 25 := by
          unfold rightI; rw [← HN.out, if_neg hn0, if_neg (by omega)]
        have ER := Lib.hid er
        clear er E14 E12 HN HB hn0 hn1 hN6
        generalize wideN pg kl = D at *
        go_wp2
        go_loopg [50] pg.length (fun g v50 wr => ∃ k : Nat, k ≤ pg.length ∧ v50 = .int .i64 k ∧ g = pg.length - k ∧ (∀ j (hj : j < k) (hl : j < pg.length), pg[j].2.keys.length = D) ∧ Below w.heap.size w wr)
        case atStart => exact ⟨0, Nat.zero_le _, rfl, by omega, fun j hj => by omega, HB1⟩
        case round =>
          obtain ⟨k, hk, rfl, hg, he, HB⟩ := hrel
          have HG := Lib.hid hg
          have HE := Lib.hid he
          clear hg he HB1
          by_cases hlt : k < pg.length
          · obtain ⟨ad, u, rfl, _, hu, rfl, hpg⟩ := Sl.at_ (pgs_below h1 HB) rfl hlt
            have hkl : pg[k].2.head.dim = (pg[k].2.keys.length : Int) := hpg.2.2.1.symm
            have hp := page_Head hpg
            unfold hdCells at hp
            have HP := Lib.hid hp
            clear hp hpg
            generalize hx : pg[k] = x at *
            have HX := Lib.hid hx
            clear hx
            rw [hkl] at HP
            clear hkl
            generalize hm : x.2.keys.length = m at *
            have HM := Lib.hid hm
            clear hm
            by_cases hmn : m = D
            · subst hmn
              go_wp2_with (go_at_call 40; refine (HP.out).mono ?_; rintro e w' ⟨rfl, hb⟩)
              go_roundg (pg.length - (k + 1))
              case rel => exact ⟨k + 1, by omega, by go_num, by omega, fun j hj hl => by
                rcases Nat.lt_or_ge j k with h | h
                · exact HE.out j h hl
                · obtain rfl : j = k := by omega
                  rw [HX.out]; exact HM.out, HB.trans (hb.mono HB.size)⟩
              case measure => rw [HG.out]; omega
            · have hmn' : ((m : Int) != (D : Int)) = true := by simp; omega
              have hf : rightI q.length pg kl vl = 25 := by
                rw [ER.out, if_neg]
                intro h
                rw [Bool.and_eq_true, List.all_eq_true] at h
                have := h.1 pg[k] (List.getElem_mem hlt)
                rw [HX.out] at this
                simp only [beq_iff_eq] at this
                exact hmn (HM.out ▸ this)
              have HF := Lib.hid hf
              clear hf hmn
              go_wp2_with (go_at_call 40; refine (HP.out).mono ?_; rintro e w' ⟨rfl, hb⟩)
              go_ret
              exact ⟨by rw [HF.out]; rfl, HB.trans (hb.mono HB.size)⟩
          · obtain rfl : k = pg.length := by omega
            have ha : (pg.all fun x => x.2.keys.length == D) = true := by
              rw [List.all_eq_true]
              intro x hx
              obtain ⟨j, hj, rfl⟩ := List.getElem_of_mem hx
              simpa using HE.out j hj hj
            have er : rightI q.length pg kl vl = if restB q.length kl vl D then 0 else 25 := by rw [ER.out, ha, Bool.true_and]
            have ER2 := Lib.hid er
            clear er ER HE HG ha
            by_cases a1 : kl.length = vl.length
            · have t1 : ((kl.length : Int) != (vl.length : Int)) = false := by simp; omega
              have Q1 := Lib.hid a1
              clear a1
              by_cases a2 : 1 ≤ D ∧ D ≤ 16
              · have S2 : ∀ W, Calls Try.prog 34 #[.int .i64 D] W (Ret W (.bool true)) := fun W => by have := attn_sized D W; rwa [decide_eq_true a2] at this
                by_cases a3 : q.length = D
                · have t3 : ((q.length : Int) != (D : Int)) = false := by simp; omega
                  have Q3 := Lib.hid a3
                  clear a3
                  cases a4 : allLen kl D with
                  | false =>
                    have S4 : ∀ W, Below w.heap.size w W → Calls Try.prog 41 #[.slice A2 kl.length c2, .int .i64 D] W (Ret W (.bool false)) := fun W hW => by have := attn_shaped (h2.below hW) D; rwa [a4] at this
                    have hf : rightI q.length pg kl vl = 25 := by rw [ER2.out, if_neg]; unfold restB; simp [a4]
                    have HF := Lib.hid hf
                    clear hf ER2
                    go_wp2_with (first
                      | (go_at_call 34; refine (S2 _).mono ?_; rintro e w' ⟨rfl, nq, rfl⟩)
                      | (go_at_call 41; (with_reducible refine (S4 _ (by first | exact HB | exact below_drewN HB _ | exact below_drewN (below_drewN HB _) _ | exact below_drewN (below_drewN (below_drewN HB _) _) _)).mono ?_); rintro e w' ⟨rfl, nq, rfl⟩))
                    go_ret
                    exact ⟨by rw [HF.out]; rfl, (by first | exact HB | exact below_drewN HB _ | exact below_drewN (below_drewN HB _) _ | exact below_drewN (below_drewN (below_drewN HB _) _) _)⟩
                  | true =>
                    have S4 : ∀ W, Below w.heap.size w W → Calls Try.prog 41 #[.slice A2 kl.length c2, .int .i64 D] W (Ret W (.bool true)) := fun W hW => by have := attn_shaped (h2.below hW) D; rwa [a4] at this
                    cases a5 : allLen vl D with
                    | false =>
                      have S5 : ∀ W, Below w.heap.size w W → Calls Try.prog 41 #[.slice A3 vl.length c3, .int .i64 D] W (Ret W (.bool false)) := fun W hW => by have := attn_shaped (h3.below hW) D; rwa [a5] at this
                      have hf : rightI q.length pg kl vl = 25 := by rw [ER2.out, if_neg]; unfold restB; simp [a5]
                      have HF := Lib.hid hf
                      clear hf ER2
                      go_wp2_with (first
                        | (go_at_call 34; refine (S2 _).mono ?_; rintro e w' ⟨rfl, nq, rfl⟩)
                        | (go_at_call 41; (with_reducible refine (S4 _ (by first | exact HB | exact below_drewN HB _ | exact below_drewN (below_drewN HB _) _ | exact below_drewN (below_drewN (below_drewN HB _) _) _)).mono ?_); rintro e w' ⟨rfl, nq, rfl⟩)
                        | (go_at_call 41; (with_reducible refine (S5 _ (by first | exact HB | exact below_drewN HB _ | exact below_drewN (below_drewN HB _) _ | exact below_drewN (below_drewN (below_drewN HB _) _) _)).mono ?_); rintro e w' ⟨rfl, nq, rfl⟩))
                      go_ret
                      exact ⟨by rw [HF.out]; rfl, (by first | exact HB | exact below_drewN HB _ | exact below_drewN (below_drewN HB _) _ | exact below_drewN (below_drewN (below_drewN HB _) _) _)⟩
                    | true =>
                      have S5 : ∀ W, Below w.heap.size w W → Calls Try.prog 41 #[.slice A3 vl.length c3, .int .i64 D] W (Ret W (.bool true)) := fun W hW => by have := attn_shaped (h3.below hW) D; rwa [a5] at this
                      have hf : rightI q.length pg kl vl = 0 := by rw [ER2.out, if_pos]; unfold restB; simp [Q1.out, a2, Q3.out, a4, a5]
                      have HF := Lib.hid hf
                      clear hf ER2
                      go_wp2_with (first
                        | (go_at_call 34; refine (S2 _).mono ?_; rintro e w' ⟨rfl, nq, rfl⟩)
                        | (go_at_call 41; (with_reducible refine (S4 _ (by first | exact HB | exact below_drewN HB _ | exact below_drewN (below_drewN HB _) _ | exact below_drewN (below_drewN (below_drewN HB _) _) _)).mono ?_); rintro e w' ⟨rfl, nq, rfl⟩)
                        | (go_at_call 41; (with_reducible refine (S5 _ (by first | exact HB | exact below_drewN HB _ | exact below_drewN (below_drewN HB _) _ | exact below_drewN (below_drewN (below_drewN HB _) _) _)).mono ?_); rintro e w' ⟨rfl, nq, rfl⟩))
                      go_ret
                      exact ⟨by rw [HF.out]; rfl, (by first | exact HB | exact below_drewN HB _ | exact below_drewN (below_drewN HB _) _ | exact below_drewN (below_drewN (below_drewN HB _) _) _)⟩
                · have t3 : ((q.length : Int) != (D : Int)) = true := by simp; omega
                  have hf : rightI q.length pg kl vl = 25 := by rw [ER2.out, if_neg]; unfold restB; simp [a3]
                  have HF := Lib.hid hf
                  clear hf ER2
                  go_wp2_with (go_at_call 34; refine (S2 _).mono ?_; rintro e w' ⟨rfl, nq, rfl⟩)
                  go_ret
                  exact ⟨by rw [HF.out]; rfl, (by first | exact HB | exact below_drewN HB _ | exact below_drewN (below_drewN HB _) _ | exact below_drewN (below_drewN (below_drewN HB _) _) _)⟩
              · have S2 : ∀ W, Calls Try.prog 34 #[.int .i64 D] W (Ret W (.bool false)) := fun W => by have := attn_sized D W; rwa [decide_eq_false a2] at this
                have hf : rightI q.length pg kl vl = 25 := by rw [ER2.out, if_neg]; unfold restB; simp; intro _ h h'; exact absurd ⟨h, h'⟩ a2
                have HF := Lib.hid hf
                clear hf ER2
                go_wp2_with (go_at_call 34; refine (S2 _).mono ?_; rintro e w' ⟨rfl, nq, rfl⟩)
                go_ret
                exact ⟨by rw [HF.out]; rfl, (by first | exact HB | exact below_drewN HB _ | exact below_drewN (below_drewN HB _) _ | exact below_drewN (below_drewN (below_drewN HB _) _) _)⟩
            · have t1 : ((kl.length : Int) != (vl.length : Int)) = true := by simp; omega
              have hf : rightI q.length pg kl vl = 25 := by rw [ER2.out, if_neg]; unfold restB; simp [a1]
              have HF := Lib.hid hf
              clear hf ER2
              go_wp2
              go_ret
              exact ⟨by rw [HF.out]; rfl, (by first | exact HB | exact below_drewN HB _ | exact below_drewN (below_drewN HB _) _ | exact below_drewN (below_drewN (below_drewN HB _) _) _)⟩
end Go.Proofs.Ytkepgkjbhdgbiaa
