/- Contracts of functions of the program, and what they need (LRight, LMean, LTwo). -/
import Derived.Laws.AppendOwnNone
import Derived.Test.YtkepgkjbhdgbiaaZ10
import Derived.Test.YtkepgkjbhdgbiaaZ21

namespace Go.Proofs.Ytkepgkjbhdgbiaa
open Go.RowKit

theorem right0 (nq : Nat) {ks vs : List (List Int)} (h0 : ks.length ≠ 0) (h1 : ¬ 1024 < ks.length) : rightI nq [] ks vs = if restB nq ks vs (ks.getD 0 []).length then 0 else 25 := by
  unfold rightI
  have e : tokN [] ks ([] : List (Nat × Pg)).length = ks.length := by simp [tokN]
  rw [e, if_neg h0, if_neg h1]
  simp [wideN]

set_option maxRecDepth 100000 in
theorem r14_Right {F G H : Nat → Prop} {w : World} {v1 v2 v3 : Value} {q : List Int} {ks vs : List (List Int)} (hq : Sl F w (IntV .i32) v1 q) (hks : Rows G w v2 ks) (hvs : Rows H w v3 vs) :
    Calls Try.prog 12 #[v1, v2, v3] w (Ret w (.int .i64 (rightI q.length [] ks vs))) := by
  obtain ⟨A0, c0, rfl, hc0, hm0⟩ := hq.form
  obtain ⟨A1, c1, rfl, hc1, hm1⟩ := Sl.form hks
  obtain ⟨A2, c2, rfl, hc2, hm2⟩ := Sl.form hvs
  by_cases h0 : ks.length = 0
  · have hf : rightI q.length [] ks vs = 14 := by unfold rightI; rw [if_pos (by simpa [tokN] using h0)]
    have t1 : ((ks.length : Int) == 0) = true := by simp; exact List.length_eq_zero_iff.1 h0
    have HF := Lib.hid hf
    clear hf h0
    go_enter Try.func12, Try.ntmps12
    go_wp2
    go_ret
    exact ⟨by rw [HF.out]; rfl, 0, rfl⟩
  · have t1 : ((ks.length : Int) == 0) = false := by simp; rintro rfl; simp at h0
    by_cases h1 : 1024 < ks.length
    · have hf : rightI q.length [] ks vs = 12 := by
        unfold rightI
        have e : tokN [] ks ([] : List (Nat × Pg)).length = ks.length := by simp [tokN]
        rw [e, if_neg h0, if_pos h1]
      have HF := Lib.hid hf
      clear hf
      go_enter Try.func12, Try.ntmps12
      go_wp2
      go_ret
      exact ⟨by rw [HF.out]; rfl, 0, rfl⟩
    · have er := right0 q.length (vs := vs) h0 h1
      have hp0 : 0 < ks.length := by omega
      obtain ⟨ad, A', c', rfl, hu, _, _, _⟩ := hks.row hp0
      rw [add_zero_addr] at hu
      have hd0 : (ks.getD 0 []).length = ks[0].length := by simp [hp0]
      rw [hd0] at er
      generalize ks[0].length = n at *
      have ER := Lib.hid er
      clear er hd0
      by_cases a1 : vs.length = ks.length
      · have s1 : ((vs.length : Int) != (ks.length : Int)) = false := by simp; omega
        by_cases a2 : q.length = n
        · have s2 : ((q.length : Int) != (n : Int)) = false := by simp; omega
          by_cases a3 : 1 ≤ n
          · by_cases a4 : n ≤ 16
            · have Q1 := Lib.hid a1
              have Q2 := Lib.hid a2
              have HU := Lib.hid hu
              clear a1 a2
              go_enter Try.func12, Try.ntmps12
              go_wp2
              clear hu
              go_loopg [8] ks.length (fun g v8 wr => ∃ k : Nat, k ≤ ks.length ∧ v8 = .int .i64 k ∧ g = ks.length - k ∧ (∀ j (_ : j < k) (h1 : j < ks.length) (h2 : j < vs.length), ks[j].length = n ∧ vs[j].length = n) ∧ ∃ nd, wr = w.drewN nd)
              case atStart => exact ⟨0, Nat.zero_le _, rfl, by omega, fun j hj => by omega, 0, rfl⟩
              case round =>
                obtain ⟨k, hk, rfl, hg, he, nd, rfl⟩ := hrel
                have HG := Lib.hid hg
                have HE := Lib.hid he
                clear hg he
                by_cases hlt : k < ks.length
                · have hlt2 : k < vs.length := by have := Q1.out; omega
                  obtain ⟨ad', A3, c3, had, hu3, _, _, _⟩ := hks.row hlt
                  obtain rfl : ad = ad' := by injection had
                  obtain ⟨ad4, A4, c4, rfl, hu4, _, _, _⟩ := hvs.row hlt2
                  have hx1 : ks[k].length = ks[k].length := rfl
                  generalize hm1 : ks[k].length = m1 at *
                  generalize hm2 : vs[k].length = m2 at *
                  have HM := Lib.hid (And.intro hm1 hm2)
                  clear hm1 hm2 hx1 had
                  by_cases e1 : m1 = n
                  · subst e1
                    have s3 : ((m1 : Int) != (m1 : Int)) = false := by simp
                    by_cases e2 : m2 = m1
                    · subst e2
                      go_wp2
                      go_roundg (ks.length - (k + 1))
                      case rel => exact ⟨k + 1, by omega, by go_num, by omega, fun j hj hl1 hl2 => by
                        rcases Nat.lt_or_ge j k with h | h
                        · exact HE.out j h hl1 hl2
                        · obtain rfl : j = k := by omega
                          exact HM.out, (by first | exact ⟨_, rfl⟩ | exact ⟨_, World.drewN_drewN ..⟩ | exact ⟨_, (World.drewN_drewN ..).trans (World.drewN_drewN ..)⟩)⟩
                      case measure => rw [HG.out]; omega
                    · have s4 : ((m2 : Int) != (m1 : Int)) = true := by simp; omega
                      have hf : rightI q.length [] ks vs = 25 := by
                        rw [ER.out, if_neg]
                        unfold restB allLen
                        simp only [Bool.and_eq_true, List.all_eq_true]
                        rintro ⟨_, h⟩
                        have := h vs[k] (List.getElem_mem hlt2)
                        rw [HM.out.2] at this
                        simp at this
                        exact e2 this
                      have HF := Lib.hid hf
                      clear hf ER e2
                      go_wp2
                      go_ret
                      exact ⟨by rw [HF.out]; rfl, (by first | exact ⟨_, rfl⟩ | exact ⟨_, World.drewN_drewN ..⟩ | exact ⟨_, (World.drewN_drewN ..).trans (World.drewN_drewN ..)⟩)⟩
                  · have s3 : ((m1 : Int) != (n : Int)) = true := by simp; omega
                    have hf : rightI q.length [] ks vs = 25 := by
                      rw [ER.out, if_neg]
                      unfold restB allLen
                      simp only [Bool.and_eq_true, List.all_eq_true]
                      rintro ⟨⟨_, h⟩, _⟩
                      have := h ks[k] (List.getElem_mem hlt)
                      rw [HM.out.1] at this
                      simp at this
                      exact e1 this
                    have HF := Lib.hid hf
                    clear hf ER e1
                    go_wp2
                    go_ret
                    exact ⟨by rw [HF.out]; rfl, (by first | exact ⟨_, rfl⟩ | exact ⟨_, World.drewN_drewN ..⟩ | exact ⟨_, (World.drewN_drewN ..).trans (World.drewN_drewN ..)⟩)⟩
                · obtain rfl : k = ks.length := by omega
                  have hf : rightI q.length [] ks vs = 0 := by
                    rw [ER.out, if_pos]
                    unfold restB allLen
                    simp only [Bool.and_eq_true, List.all_eq_true]
                    refine ⟨⟨⟨⟨by simpa using Q1.out.symm, by simpa using ⟨a3, a4⟩⟩, by simpa using Q2.out⟩, fun l hl => ?_⟩, fun l hl => ?_⟩
                    · obtain ⟨j, hj, rfl⟩ := List.getElem_of_mem hl
                      simpa using (HE.out j hj hj (by have := Q1.out; omega)).1
                    · obtain ⟨j, hj, rfl⟩ := List.getElem_of_mem hl
                      have hj2 : j < ks.length := by have := Q1.out; omega
                      simpa using (HE.out j hj2 hj2 hj).2
                  have HF := Lib.hid hf
                  clear hf ER
                  go_wp2
                  go_ret
                  exact ⟨by rw [HF.out]; rfl, (by first | exact ⟨_, rfl⟩ | exact ⟨_, World.drewN_drewN ..⟩ | exact ⟨_, (World.drewN_drewN ..).trans (World.drewN_drewN ..)⟩)⟩
            · subst a2
              have hf : rightI q.length [] ks vs = 25 := by rw [ER.out, if_neg]; unfold restB; simp; intro _ _ h; exact absurd h (by omega)
              have HF := Lib.hid hf
              clear hf ER a1
              go_enter Try.func12, Try.ntmps12
              go_wp2
              go_ret
              exact ⟨by rw [HF.out]; rfl, 0, rfl⟩
          · subst a2
            have hf : rightI q.length [] ks vs = 25 := by rw [ER.out, if_neg]; unfold restB; simp; intro _ h; exact absurd h (by omega)
            have HF := Lib.hid hf
            clear hf ER
            go_enter Try.func12, Try.ntmps12
            go_wp2
            go_ret
            exact ⟨by rw [HF.out]; rfl, 0, rfl⟩
        · have s2 : ((q.length : Int) != (n : Int)) = true := by simp; omega
          have hf : rightI q.length [] ks vs = 25 := by rw [ER.out, if_neg]; unfold restB; simp [a2]
          have HF := Lib.hid hf
          clear hf ER
          go_enter Try.func12, Try.ntmps12
          go_wp2
          go_ret
          exact ⟨by rw [HF.out]; rfl, 0, rfl⟩
      · have s1 : ((vs.length : Int) != (ks.length : Int)) = true := by simp; omega
        have hf : rightI q.length [] ks vs = 25 := by rw [ER.out, if_neg]; unfold restB; simp; intro h; exact absurd h.symm a1
        have HF := Lib.hid hf
        clear hf ER
        go_enter Try.func12, Try.ntmps12
        go_wp2
        go_ret
        exact ⟨by rw [HF.out]; rfl, 0, rfl⟩
end Go.Proofs.Ytkepgkjbhdgbiaa

namespace Go.Proofs.Ytkepgkjbhdgbiaa
open Go.RowKit

/-! What pages mean, as lists. -/
def Pg.mks (p : Pg) : List (List Int) := (List.range p.values.length).map fun t => (List.range p.keys.length).map fun i => p.keyAt t i
def Pg.mvs (p : Pg) : List (List Int) := (List.range p.values.length).map fun t => (List.range p.keys.length).map fun i => p.valAt t i

theorem Pg.mks_len (p : Pg) : p.mks.length = p.values.length := by simp [Pg.mks]
theorem Pg.mvs_len (p : Pg) : p.mvs.length = p.values.length := by simp [Pg.mvs]
theorem Pg.mks_all {p : Pg} {l : List Int} (h : l ∈ p.mks) : l.length = p.keys.length := by
  obtain ⟨t, _, rfl⟩ := List.mem_map.1 h
  simp
theorem Pg.mvs_all {p : Pg} {l : List Int} (h : l ∈ p.mvs) : l.length = p.keys.length := by
  obtain ⟨t, _, rfl⟩ := List.mem_map.1 h
  simp

theorem keys_quant {h : Hd} {ks vs : List (List Int)} : (quantP h ks vs).keys.length = h.dim.toNat := by simp [quantP]
theorem vals_quant {h : Hd} {ks vs : List (List Int)} : (quantP h ks vs).values.length = vs.length := by simp [quantP]

theorem numB_of {ll : List (List Int)} {t d : Nat} (h : numB ll t d = true) : ll.length = t ∧ ∀ l ∈ ll, l.length = d := by
  unfold numB allLen at h
  rw [Bool.and_eq_true, List.all_eq_true] at h
  exact ⟨by simpa using h.2, fun l hl => by simpa using h.1 l hl⟩

theorem mk_quant {kb vb t d : Nat} {ly hd ix : Int} {ks vs : List (List Int)} (hkb : BitsN kb) (hk : numB ks t d = true) (hv : numB vs t d = true) (hin : ∀ l ∈ ks, ∀ x ∈ l, InK .i32 x) :
    (quantP ⟨kb, vb, t, d, ly, hd, ix⟩ ks vs).mks = (List.range t).map (keyL ((List.range d).map fun i => quantG kb (colL ks i))) := by
  obtain ⟨hk1, hk2⟩ := numB_of hk
  obtain ⟨hv1, hv2⟩ := numB_of hv
  unfold Pg.mks
  rw [keys_quant, vals_quant, hv1]
  refine List.map_congr_left fun i hi => ?_
  have hit := List.mem_range.1 hi
  unfold keyL
  rw [List.map_map]
  refine List.map_congr_left fun j hj => ?_
  have hjd := List.mem_range.1 hj
  have hcl : (colL ks j).length = t := by unfold colL; rw [List.length_map, hk1]
  have hcin : ∀ x ∈ colL ks j, InK .i32 x := by
    intro x hx
    obtain ⟨l, hl, rfl⟩ := List.mem_map.1 hx
    have hkl : j < l.length := by have := hk2 l hl; simp at hjd; omega
    rw [getD_at hkl]
    exact hin l hl _ (List.getElem_mem hkl)
  have hgk : (quantP ⟨kb, vb, t, d, ly, hd, ix⟩ ks vs).keys[j]? = some (packG kb (quantG kb (colL ks j))) := by
    have hjd' : j < d := by simpa using hjd
    simp [quantP, hjd']
  show (match (quantP ⟨kb, vb, t, d, ly, hd, ix⟩ ks vs).keys[j]? with | some k => oneI k.zero k.scale (laneI k.words i (kb : Int).toNat) | none => 0) = _
  rw [hgk]
  show oneI (minL (colL ks j)) (gscaleI (colL ks j) kb) (laneI (packL ((colL ks j).map (codeI (colL ks j) kb)) kb) i (kb : Int).toNat) = oneI (minL (colL ks j)) (gscaleI (colL ks j) kb) (((colL ks j).map (codeI (colL ks j) kb)).getD i 0)
  have hci : i < ((colL ks j).map (codeI (colL ks j) kb)).length := by rw [List.length_map, hcl]; exact hit
  rw [Int.toNat_natCast, lane_pack hkb (fun c hc => ?_) hci, getD_at hci]
  obtain ⟨x, hx, rfl⟩ := List.mem_map.1 hc
  exact code_bd hkb hcin hx

theorem mv_quant {kb vb t d : Nat} {ly hd ix : Int} {ks vs : List (List Int)} (hvb : BitsN vb) (hv : numB vs t d = true) (hin : ∀ l ∈ vs, ∀ x ∈ l, InK .i32 x) :
    (quantP ⟨kb, vb, t, d, ly, hd, ix⟩ ks vs).mvs = (vs.map (quantG vb)).map backL := by
  obtain ⟨hv1, hv2⟩ := numB_of hv
  unfold Pg.mvs
  rw [keys_quant, vals_quant]
  apply List.ext_getElem (by simp)
  intro i h1 h2
  have hi : i < vs.length := by simpa using h1
  rw [List.getElem_map, List.getElem_range, List.getElem_map, List.getElem_map]
  have hvd : vs[i].length = d := hv2 _ (List.getElem_mem hi)
  apply List.ext_getElem (by simp [backL, quantG, hvd])
  intro j g1 g2
  have hjd : j < d := by simpa using g1
  have hgv : (quantP ⟨kb, vb, t, d, ly, hd, ix⟩ ks vs).values[i]? = some (packG vb (quantG vb vs[i])) := by simp [quantP, hi]
  rw [List.getElem_map, List.getElem_range]
  show (match (quantP ⟨kb, vb, t, d, ly, hd, ix⟩ ks vs).values[i]? with | some k => oneI k.zero k.scale (laneI k.words j (vb : Int).toNat) | none => 0) = _
  rw [hgv]
  have e2 : ∀ (g : Gr) (hj : j < (backL g).length), (backL g)[j] = oneI g.zero g.scale (g.codes[j]'(by simpa [backL] using hj)) := fun g hj => by simp [backL]
  rw [e2]
  show oneI (minL vs[i]) (gscaleI vs[i] vb) (laneI (packL (vs[i].map (codeI vs[i] vb)) vb) j (vb : Int).toNat) = oneI (minL vs[i]) (gscaleI vs[i] vb) ((vs[i].map (codeI vs[i] vb))[j]'(by simpa [quantG, backL] using g2))
  rw [Int.toNat_natCast, lane_pack hvb (fun c hc => ?_)]
  obtain ⟨x, hx, rfl⟩ := List.mem_map.1 hc
  exact code_bd hvb (hin _ (List.getElem_mem hi)) hx

/-! Right of pages and tokens is right of what they mean. -/
def mkL (pg : List (Nat × Pg)) : List (List Int) := pg.flatMap fun x => x.2.mks
def mvL (pg : List (Nat × Pg)) : List (List Int) := pg.flatMap fun x => x.2.mvs
theorem mkL_len (pg : List (Nat × Pg)) : (mkL pg).length = (pg.map fun x => x.2.values.length).sum := by
  unfold mkL; rw [List.length_flatMap]; congr 1; exact List.map_congr_left fun x _ => x.2.mks_len
theorem mvL_len (pg : List (Nat × Pg)) : (mvL pg).length = (pg.map fun x => x.2.values.length).sum := by
  unfold mvL; rw [List.length_flatMap]; congr 1; exact List.map_congr_left fun x _ => x.2.mvs_len

theorem tok_mean (pg : List (Nat × Pg)) (kl : List (List Int)) : tokN [] (mkL pg ++ kl) 0 = tokN pg kl pg.length := by
  unfold tokN
  rw [List.take_length, List.length_append, mkL_len]
  simp; omega

theorem all_mk {pg : List (Nat × Pg)} (hp : ∀ x ∈ pg, 1 ≤ x.2.values.length) (d : Nat) : allLen (mkL pg) d = pg.all fun x => x.2.keys.length == d := by
  unfold allLen mkL
  rw [Bool.eq_iff_iff, List.all_eq_true, List.all_eq_true]
  constructor
  · intro h x hx
    have h1 : 0 < x.2.mks.length := by rw [Pg.mks_len]; exact hp x hx
    have h2 := h x.2.mks[0] (List.mem_flatMap.2 ⟨x, hx, List.getElem_mem h1⟩)
    rw [Pg.mks_all (List.getElem_mem h1)] at h2
    exact h2
  · intro h l hl
    obtain ⟨x, hx, hl⟩ := List.mem_flatMap.1 hl
    rw [Pg.mks_all hl]
    exact h x hx
theorem all_mv {pg : List (Nat × Pg)} (hp : ∀ x ∈ pg, 1 ≤ x.2.values.length) (d : Nat) : allLen (mvL pg) d = pg.all fun x => x.2.keys.length == d := by
  unfold allLen mvL
  rw [Bool.eq_iff_iff, List.all_eq_true, List.all_eq_true]
  constructor
  · intro h x hx
    have h1 : 0 < x.2.mvs.length := by rw [Pg.mvs_len]; exact hp x hx
    have h2 := h x.2.mvs[0] (List.mem_flatMap.2 ⟨x, hx, List.getElem_mem h1⟩)
    rw [Pg.mvs_all (List.getElem_mem h1)] at h2
    exact h2
  · intro h l hl
    obtain ⟨x, hx, hl⟩ := List.mem_flatMap.1 hl
    rw [Pg.mvs_all hl]
    exact h x hx
theorem allLen_append (a b : List (List Int)) (d : Nat) : allLen (a ++ b) d = (allLen a d && allLen b d) := by unfold allLen; rw [List.all_append]

theorem right_mean (nq : Nat) {pg : List (Nat × Pg)} (hp : ∀ x ∈ pg, 1 ≤ x.2.values.length) (kl vl : List (List Int)) : rightI nq [] (mkL pg ++ kl) (mvL pg ++ vl) = rightI nq pg kl vl := by
  have htok := tok_mean pg kl
  unfold rightI
  rw [show ([] : List (Nat × Pg)).length = 0 from rfl, htok]
  split
  · rfl
  · rename_i h0
    split
    · rfl
    · have hw : wideN [] (mkL pg ++ kl) = wideN pg kl := by
        unfold wideN
        cases pg with
        | nil => simp [mkL]
        | cons x t =>
          have h1 : 0 < x.2.mks.length := by rw [Pg.mks_len]; exact hp x (by simp)
          have e : (mkL (x :: t) ++ kl).getD 0 [] = x.2.mks[0] := by
            simp only [mkL, List.flatMap_cons]
            simp [List.getD_eq_getElem?_getD, List.getElem?_append_left, h1]
          show ((mkL (x :: t) ++ kl).getD 0 []).length = _
          rw [e, Pg.mks_all (List.getElem_mem h1)]
      rw [hw]
      generalize wideN pg kl = D
      have hr : restB nq (mkL pg ++ kl) (mvL pg ++ vl) D = ((pg.all fun x => x.2.keys.length == D) && restB nq kl vl D) := by
        unfold restB
        rw [allLen_append, allLen_append, all_mk hp, all_mv hp]
        have hl : ((mkL pg ++ kl).length == (mvL pg ++ vl).length) = (kl.length == vl.length) := by
          rw [List.length_append, List.length_append, mkL_len, mvL_len, Bool.eq_iff_iff]
          simp
        rw [hl]
        cases (pg.all fun x => x.2.keys.length == D) <;> cases (kl.length == vl.length) <;> cases (decide (1 ≤ D ∧ D ≤ 16)) <;> cases (nq == D) <;> cases (allLen kl D) <;> cases (allLen vl D) <;> rfl
      rw [hr]
      show (if (true && _) = true then (0 : Int) else 25) = _
      rw [Bool.true_and]

/-- What the sources mean. -/
theorem keys_mean {pg : List (Nat × Pg)} {kl vl : List (List Int)} {d : Nat} (hp : ∀ x ∈ pg, x.2.keys.length = d) (hk : ∀ l ∈ kl, l.length = d) : keysOf (srcsOf pg kl vl) d = mkL pg ++ kl := by
  unfold keysOf srcsOf mkL
  rw [List.flatMap_append, List.flatMap_map]
  congr 1
  · refine congrArg List.flatten (List.map_congr_left fun x hx => ?_)
    show (List.range x.2.values.length).map (fun t => (List.range d).map fun i => x.2.keyAt t i) = x.2.mks
    unfold Pg.mks
    rw [hp x hx]
  · simp [plain_keys hk]
theorem vals_mean {pg : List (Nat × Pg)} {kl vl : List (List Int)} {d : Nat} (hp : ∀ x ∈ pg, x.2.keys.length = d) (hl : vl.length = kl.length) (hv : ∀ l ∈ vl, l.length = d) : valsOf (srcsOf pg kl vl) d = mvL pg ++ vl := by
  unfold valsOf srcsOf mvL
  rw [List.flatMap_append, List.flatMap_map]
  congr 1
  · refine congrArg List.flatten (List.map_congr_left fun x hx => ?_)
    show (List.range x.2.values.length).map (fun t => (List.range d).map fun i => x.2.valAt t i) = x.2.mvs
    unfold Pg.mvs
    rw [hp x hx]
  · simp [plain_vals hl hv]
end Go.Proofs.Ytkepgkjbhdgbiaa

namespace Go.Proofs.Ytkepgkjbhdgbiaa
open Go.RowKit

/-- 'append(v, xs...)' onto a row of the call's own, as a step of a region. -/
theorem step_appS {P : Program} {ops : Array Oper} {o : Oper} {a : Act} {K : Act → World → Prop} {Q : Exit → Act → World → Prop} {E : Prop} {w0 W : World} (base : Nat) (s x : Operand) (t e : TypeId) (z : Value) (bytes : Nat)
    (hgd : o.guard = none) (ho : o.op = .call { callee := .builtin .append, args := #[s, x], argTypes := #[t, t] })
    (ht : P.underlying t = some (.slice e)) (hinfo : (P.info? e).map (fun i => (i.zero, i.size, i.bytes)) = some (some z, 1, bytes)) (hz : z.cells.size = 1)
    (v : Value) (xs : List Value) (A : Option Addr) (m c : Nat) (news : List Value) (hs : a.eval s = v) (hx : a.eval x = .slice A m c) (hA : A = none → m = 0 ∧ c = 0) (hnl : news.length = m)
    (hnews : ∀ ad, A = some ad → ∀ j u, news[j]? = some u → W.cell? (ad.add j) = some u) (h1 : ∀ u ∈ news, u.oneCell' = true)
    (HO : W.ownsRow base e 1 v xs.length xs) (HB : Below base w0 W) (hbase : base ≤ W.heap.size) (hl : xs.length + m ≤ 1099511627776) (hby : bytes ≤ 128)
    (h : ∀ v1 w1, w1.ownsRow base e 1 v1 (xs ++ news).length (xs ++ news) → Below base w0 w1 → W.grownBy w1 v.ownBlock → (v1.ownBlock = v.ownBlock ∨ ∃ b, v1.ownBlock = some b ∧ W.heap.size ≤ b) → K (a.put o.dst v1) w1) :
    if Region.wanted o (yielded ops a.tmps) = true then Oper.wp P o a W K Q else E := by
  have hwn : Region.wanted o (yielded ops a.tmps) = true := by simp [Region.wanted, hgd]
  rw [if_pos hwn]
  obtain ⟨i0, hi, hzz⟩ := Option.map_eq_some_iff.1 hinfo
  simp only [Prod.mk.injEq] at hzz
  obtain ⟨hz0, hz1, hz2⟩ := hzz
  have hlb : (xs.length + m) * bytes ≤ 140737488355328 := by
    have := Nat.mul_le_mul hl hby
    omega
  cases A with
  | none =>
    obtain ⟨rfl, rfl⟩ := hA rfl
    have hn0 : news = [] := List.eq_nil_of_length_eq_zero hnl
    subst hn0
    have hrun := run_append_owned_none (P := P) (w := W) base t o.type e i0 1 ht hi v xs.length xs HO
    unfold Oper.wp execOp
    simp only [ho, resolve, invoke, builtin, Sem.run_bind, Sem.run_pure, Result.andThen_ok, List.map_toArray, List.map_cons, List.map_nil, hs, hx, hrun]
    exact h v W (by simpa using HO) HB ⟨rfl, rfl, rfl, Nat.le_refl _, fun _ _ _ => rfl⟩ (.inl rfl)
  | some ad =>
    obtain ⟨v', w', hr, h2, h3, h4, h5⟩ := run_append_own_at (P := P) W base t o.type e i0 z 1 bytes ht hi hz0 hz1 hz2 hz (by omega) v xs.length xs HO ad m c news (by omega) (hnews ad rfl) h1 (by simp only [maxLen]; omega) hlb hbase
    unfold Oper.wp execOp
    simp only [ho, resolve, invoke, builtin, Sem.run_bind, Sem.run_pure, Result.andThen_ok, List.map_toArray, List.map_cons, List.map_nil, hs, hx, hr]
    refine h v' w' (by simpa [hnl] using h2) (HB.grown h3 hbase (own_base HO)) h3 ?_
    rcases h5 with hat | hat
    · exact .inl hat
    · exact .inr ⟨_, hat, Nat.le_refl _⟩

/-- Two rows of lists that grow. -/
def Two (W : World) (B : Nat) (v5 v6 : Value) (K V : List (List Int)) : Prop :=
  OwnL W B 22 (fun u x => Sl (Fx 0 [v5.ownBlock, v6.ownBlock]) W (IntV .i32) u x) v5 K ∧ OwnL W B 22 (fun u x => Sl (Fx 0 [v5.ownBlock, v6.ownBlock]) W (IntV .i32) u x) v6 V ∧
  (v5.ownBlock = none ∨ v6.ownBlock = none ∨ v5.ownBlock ≠ v6.ownBlock)

theorem fx_swap {B : Nat} {a b : Option Nat} {x : Nat} (h : Fx B [a, b] x) : Fx B [b, a] x := ⟨h.1, fun hm => h.2 (by simp at hm ⊢; exact hm.symm)⟩
theorem Two.swap {W : World} {B : Nat} {v5 v6 : Value} {K V : List (List Int)} (h : Two W B v5 v6 K V) : Two W B v6 v5 V K := by
  obtain ⟨h1, h2, h3⟩ := h
  refine ⟨h2.mono fun u x h => Sl.keep h (fun _ _ _ => rfl) (fun _ _ h => fx_swap h) (fun _ _ _ h => h), h1.mono fun u x h => Sl.keep h (fun _ _ _ => rfl) (fun _ _ h => fx_swap h) (fun _ _ _ h => h), ?_⟩
  rcases h3 with h | h | h
  · exact .inr (.inl h)
  · exact .inl h
  · exact .inr (.inr fun e => h e.symm)
theorem Two.nil (W : World) (B : Nat) : Two W B (.slice none 0 0) (.slice none 0 0) [] [] := ⟨OwnL.nil, OwnL.nil, .inl rfl⟩
theorem OwnL.below {α : Type} {W W' : World} {B : Nat} {e : TypeId} {R R' : Value → α → Prop} {v : Value} {l : List α} (h : OwnL W B e R v l) (hb : Below W.heap.size W W') (hR : ∀ u x, R u x → R' u x) : OwnL W' B e R' v l := by
  obtain ⟨xs, h1, h2, h3⟩ := h
  exact ⟨xs, own_below h1 hb, h2, fun j u x a b => hR _ _ (h3 j u x a b)⟩
theorem Two.below {W W' : World} {B : Nat} {v5 v6 : Value} {K V : List (List Int)} (h : Two W B v5 v6 K V) (hb : Below W.heap.size W W') : Two W' B v5 v6 K V :=
  ⟨h.1.below hb fun _ _ h => h.below hb, h.2.1.below hb fun _ _ h => h.below hb, h.2.2⟩
theorem Two.lt5 {W : World} {B : Nat} {v5 v6 : Value} {K V : List (List Int)} (h : Two W B v5 v6 K V) (k : Nat) (hk : v5.ownBlock = some k) : k < W.heap.size := by
  obtain ⟨⟨xs, h1, _⟩, _⟩ := h
  exact own_lt h1 k hk
theorem Two.lt6 {W : World} {B : Nat} {v5 v6 : Value} {K V : List (List Int)} (h : Two W B v5 v6 K V) (k : Nat) (hk : v6.ownBlock = some k) : k < W.heap.size := h.swap.lt5 k hk
theorem Two.base5 {W : World} {B : Nat} {v5 v6 : Value} {K V : List (List Int)} (h : Two W B v5 v6 K V) (k : Nat) (hk : v5.ownBlock = some k) : B ≤ k := by
  obtain ⟨⟨xs, h1, _⟩, _⟩ := h
  exact own_base h1 k hk
/-- A block that neither has. -/
theorem Two.apart {W : World} {B : Nat} {v5 v6 : Value} {K V : List (List Int)} (h : Two W B v5 v6 K V) {b : Nat} (hb : b < B ∨ W.heap.size ≤ b) : Fx 0 [v5.ownBlock, v6.ownBlock] b := by
  refine ⟨Nat.zero_le _, fun hm => ?_⟩
  simp at hm
  rcases hm with hm | hm
  · have h1 := h.lt5 b hm.symm
    have h2 := h.base5 b hm.symm
    omega
  · have h1 := h.swap.lt5 b hm.symm
    have h2 := h.swap.base5 b hm.symm
    omega

theorem fx_two {w : World} {v v1 v6 : Value} (h : v1.ownBlock = v.ownBlock ∨ ∃ b, v1.ownBlock = some b ∧ w.heap.size ≤ b) : ∀ o ∈ [v1.ownBlock, v6.ownBlock], o ∈ [v.ownBlock, v6.ownBlock] ∨ ∃ b, o = some b ∧ w.heap.size ≤ b := by
  intro o ho
  simp at ho
  rcases ho with rfl | rfl
  · exact h.imp (fun e => by simp [e]) id
  · exact .inl (by simp)

/-- Lists more onto the first one. -/
theorem Two.app {W w1 : World} {B : Nat} {v5 v6 v1 : Value} {K V L : List (List Int)} {xs news : List Value} (hV : OwnL W B 22 (fun u x => Sl (Fx 0 [v5.ownBlock, v6.ownBlock]) W (IntV .i32) u x) v6 V) (hd : v5.ownBlock = none ∨ v6.ownBlock = none ∨ v5.ownBlock ≠ v6.ownBlock)
    (hl : xs.length = K.length) (hr : ∀ (j : Nat) u x, xs[j]? = some u → K[j]? = some x → Sl (Fx 0 [v5.ownBlock, v6.ownBlock]) W (IntV .i32) u x)
    (h1 : w1.ownsRow B 22 1 v1 (xs ++ news).length (xs ++ news)) (hg : W.grownBy w1 v5.ownBlock) (ha : v1.ownBlock = v5.ownBlock ∨ ∃ b, v1.ownBlock = some b ∧ W.heap.size ≤ b)
    (hnl : news.length = L.length) (hn : ∀ (j : Nat) u x, news[j]? = some u → L[j]? = some x → Sl (Fx 0 [v5.ownBlock, v6.ownBlock]) W (IntV .i32) u x) : Two w1 B v1 v6 (K ++ L) V := by
  have hgrow : ∀ {u x}, Sl (Fx 0 [v5.ownBlock, v6.ownBlock]) W (IntV .i32) u x → Sl (Fx 0 [v1.ownBlock, v6.ownBlock]) w1 (IntV .i32) u x := fun h => h.grow hg (.inr (by simp)) (fx_two ha)
  obtain ⟨ys, k1, k2, k3⟩ := hV
  refine ⟨⟨xs ++ news, h1, by simp [hl, hnl], fun j u x g1 g2 => ?_⟩, ⟨ys, k1.kept hg ?_, k2, fun j u x g1 g2 => hgrow (k3 j u x g1 g2)⟩, ?_⟩
  · rcases Nat.lt_or_ge j xs.length with hj | hj
    · rw [List.getElem?_append_left hj] at g1
      rw [List.getElem?_append_left (by omega)] at g2
      exact hgrow (hr j u x g1 g2)
    · rw [List.getElem?_append_right hj] at g1
      rw [List.getElem?_append_right (by omega), ← hl] at g2
      exact hgrow (hn _ u x g1 g2)
  · rcases hd with h | h | h
    · cases hv : v6.ownBlock with
      | none => exact .inl rfl
      | some b => exact .inr (by rw [h]; simp)
    · exact .inl h
    · exact .inr fun e => h e.symm
  · rcases ha with ha | ⟨b, hb1, hb2⟩
    · rw [ha]; exact hd
    · cases hv : v6.ownBlock with
      | none => exact .inr (.inl rfl)
      | some b' =>
        refine .inr (.inr ?_)
        rw [hb1]
        intro e
        injection e with e
        have := own_lt k1 b' hv
        omega
theorem Two.rows {W : World} {B : Nat} {v5 v6 : Value} {K V : List (List Int)} (h : Two W B v5 v6 K V) : Rows (fun _ => True) W v5 K ∧ Rows (fun _ => True) W v6 V :=
  ⟨Sl.keep h.1.sl (fun _ _ _ => rfl) (fun _ _ _ => trivial) (fun _ _ _ h => Sl.keep h (fun _ _ _ => rfl) (fun _ _ _ => trivial) (fun _ _ _ h => h)),
   Sl.keep h.2.1.sl (fun _ _ _ => rfl) (fun _ _ _ => trivial) (fun _ _ _ h => Sl.keep h (fun _ _ _ => rfl) (fun _ _ _ => trivial) (fun _ _ _ h => h))⟩
end Go.Proofs.Ytkepgkjbhdgbiaa
