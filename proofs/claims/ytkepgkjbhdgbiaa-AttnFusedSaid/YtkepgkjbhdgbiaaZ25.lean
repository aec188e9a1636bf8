/- Contracts of functions of the program, and what they need (LMain). -/
import Derived.Test.YtkepgkjbhdgbiaaZ23
import Derived.Test.YtkepgkjbhdgbiaaZ24

namespace Go.Proofs.Ytkepgkjbhdgbiaa
open Go.RowKit

set_option maxRecDepth 100000 in
set_option maxHeartbeats 8000000 in
theorem law_on {w : World} {qv hv pkv pvv kv vv : Value} {z : Cs} (h : CsV w qv hv pkv pvv kv vv z) (hkn : ∀ A n c, kv = .slice A n c → A = none → n = 0 ∧ c = 0) (hvn : ∀ A n c, vv = .slice A n c → A = none → n = 0 ∧ c = 0) (hon : z.on = true) :
    Calls Try.prog 3 #[.agg #[qv, hv, pkv, pvv, kv, vv]] w (fun e w' => e = .returned (.bool true) ∧ Below w.heap.size w w') := by
  obtain ⟨A0, c0, rfl, _, _⟩ := h.q.form
  obtain ⟨A1, c1, rfl, _, _⟩ := h.heads.form
  obtain ⟨A2, c2, rfl, _, _⟩ := Sl.form h.pk
  obtain ⟨A3, c3, rfl, _, _⟩ := Sl.form h.pv
  obtain ⟨A4, c4, rfl, _, _⟩ := Sl.form h.ks
  obtain ⟨A5, c5, rfl, _, _⟩ := Sl.form h.vs
  have hB1 : ∀ o, Below w.heap.size w (w.alloc o) := fun o => (Below.refl _ _).alloc (Nat.le_refl _) _
  have haw := law_awake
  have HAW := Lib.hid haw
  clear haw
  unfold Cs.on at hon
  rw [Bool.and_eq_true, Bool.and_eq_true] at hon
  obtain ⟨⟨hok, hli⟩, hq⟩ := hon
  have hq100 : z.q.length ≤ 100 := by simpa using hq
  have hlk : z.ks.length ≤ 40 ∧ z.vs.length ≤ 40 := by
    unfold lightB at hli
    simp only [List.all_cons, List.all_nil, Bool.and_true, Bool.and_eq_true, decide_eq_true_eq] at hli
    exact ⟨hli.1.1, hli.2.1⟩
  have hpg := law_pages_yes (h.below (hB1 (.cells #[.slice A0 z.q.length c0, .slice A1 z.heads.length c1, .slice A2 z.pk.length c2, .slice A3 z.pv.length c3, .slice A4 z.ks.length c4, .slice A5 z.vs.length c5] 27))) hok
  have HPG := Lib.hid hpg
  have hlt : ∀ W, Below w.heap.size w W → Calls Try.prog 5 #[.slice (some ⟨W.heap.size, 0, none⟩) 2 2] (W.alloc (.cells #[.slice A4 z.ks.length c4, .slice A5 z.vs.length c5] 25)) (Ret _ (.bool (lightB [z.ks, z.vs]))) := fun W hW =>
    law_light (Rows3.lit2 (F := fun _ => True) (blk_new rfl) trivial ((h.ks.below hW).below ((Below.refl _ _).alloc (Nat.le_refl _) _)) ((h.vs.below hW).below ((Below.refl _ _).alloc (Nat.le_refl _) _)))
  rw [hli] at hlt
  have HLT := Lib.hid hlt
  have hokf : z.pk.length = z.heads.length ∧ z.pv.length = z.heads.length ∧ z.heads.length ≤ 20 ∧ ∀ i, i < z.heads.length → z.okAt i = true := by
    unfold Cs.okB at hok
    rw [Bool.and_eq_true, Bool.and_eq_true, Bool.and_eq_true, List.all_eq_true] at hok
    obtain ⟨⟨⟨g1, g2⟩, g3⟩, g4⟩ := hok
    exact ⟨by simpa using g1, by simpa using g2, by simpa using g3, fun i hi => g4 i (List.mem_range.2 hi)⟩
  have HOKF := Lib.hid hokf
  have HLK := Lib.hid hlk
  have HKN := Lib.hid (hkn _ _ _ rfl)
  have HVN := Lib.hid (hvn _ _ _ rfl)
  clear hpg hok hlt hli hq hokf hlk hkn hvn
  go_enter Try.func3, Try.ntmps3
  go_upto_region 4 with (first
    | (go_at_call 4; refine (HPG.out).mono ?_; rintro e w1 ⟨pv, pg, rfl, hpgs, hsl, hb1⟩; have kb1 := blk_below hb1 (blk_new rfl); obtain ⟨k1, k2, _⟩ := cells_of kb1; obtain ⟨A6, c6, rfl, _, _⟩ := Sl.form hsl; have HPS := Lib.hid hpgs; clear hpgs)
    | (go_at_call 5; refine (HLT.out _ ((hB1 _).trans (hb1.mono (by simp)))).mono ?_; rintro e w' ⟨rfl, nq, rfl⟩))
  have hb01 : Below w.heap.size w w1 := (hB1 _).trans (hb1.mono (by simp))
  have hpl : pg.length = z.heads.length := by have := congrArg List.length HPS.out; simpa [Cs.pgs] using this
  have hpl20 : pg.length ≤ 20 := by have := HOKF.out.2.2.1; omega
  have hsz1 := (cells_of kb1).2.2
  have HPL := Lib.hid hpl
  have HTOK := Lib.hid (pages_tokens hsl)
  clear hpl k1 k2 hb1 HPG HLT
  have hb12 : ∀ (n : Nat) o, Below w1.heap.size w1 ((w1.alloc o).drewN n) := fun n o => below_drewN ((Below.refl _ _).alloc (Nat.le_refl _) _) n
  go_wp2
  go_loopg [5, 6, 41] pg.length (fun g v5 v6 v41 wr => ∃ k : Nat, k ≤ pg.length ∧ v41 = .int .i64 k ∧ g = pg.length - k ∧ Two wr w1.heap.size v5 v6 (mkL (pg.take k)) (mvL (pg.take k)) ∧ Below w1.heap.size w1 wr)
  case atStart => exact ⟨0, Nat.zero_le _, rfl, by omega, Two.nil _ _, hb12 _ _⟩
  case round =>
    obtain ⟨k, hk, rfl, hg, HT, HB⟩ := hrel
    have HG := Lib.hid hg
    clear hg
    have hb0r : Below w.heap.size w wr := hb01.trans (HB.mono hb01.size)
    have kbr := blk_below (W := w1) HB kb1
    by_cases hlt : k < pg.length
    · have hkh : k < z.heads.length := by have := HPL.out; omega
      have hl2 : k < z.pk.length := by have := HOKF.out.1; omega
      have hl3 : k < z.pv.length := by have := HOKF.out.2.1; omega
      obtain ⟨adp, up, rfl, _, hup0, rfl, hpa⟩ := Sl.at_ hsl rfl hlt
      have hup := cell_below HB hup0
      obtain ⟨gb, off, rfl, hgl, g0, g1, g2, g3, g4, g5, g6⟩ := h.heads.at_ rfl hkh
      obtain ⟨ad2, A7, c7, rfl, hu2, hr2, _, _⟩ := h.pk.row hl2
      obtain ⟨ad3, A8, c8, rfl, hu3, hr3, _, _⟩ := h.pv.row hl3
      have hok0 : z.okAt k = qokB z.heads[k] z.pk[k] z.pv[k] := by unfold Cs.okAt; simp [hkh, hl2, hl3]
      have hqk := HOKF.out.2.2.2 k hkh
      rw [hok0] at hqk
      have hpg0 : pg[k].2 = quantP z.heads[k] z.pk[k] z.pv[k] := by
        have e1 : pg[k].2 = (pg.map (·.2))[k]'(by simpa using hlt) := by simp
        rw [e1]
        have e2 : (z.pgs z.heads.length)[k]? = some (quantP z.heads[k] z.pk[k] z.pv[k]) := by
          unfold Cs.pgs Cs.pgAt
          simp [hkh, hl2, hl3]
        have e3 : (pg.map (·.2))[k]? = some (quantP z.heads[k] z.pk[k] z.pv[k]) := by rw [HPS.out]; exact e2
        exact Option.some.inj ((List.getElem?_eq_getElem (by simpa using hlt)).symm.trans e3)
      have htk : mkL (pg.take (k + 1)) = mkL (pg.take k) ++ pg[k].2.mks ∧ mvL (pg.take (k + 1)) = mvL (pg.take k) ++ pg[k].2.mvs := by
        unfold mkL mvL
        rw [List.take_succ_eq_append_getElem hlt, List.flatMap_append, List.flatMap_append]
        simp
      rw [hpg0] at htk
      obtain ⟨t, d, ht, hd, t1, t2, d1, d2, k1, v1, gk, gv, gkl, gvl, mk, mv, _, _⟩ := ok_facts hqk hr2.inK hr3.inK
      rw [mk, mv] at htk
      have hqz := fun W hW => law_Quantize (w := W) z.heads[k] ((hr2.below hb0r).below hW) ((hr3.below hb0r).below hW) hqk
      have hhd := fun W => law_head z.heads[k] W
      generalize kgrs z.heads[k] z.pk[k] = kg at *
      generalize vgrs z.heads[k] z.pv[k] = vg at *
      generalize z.heads[k] = hx at *
      generalize z.pk[k] = pks at *
      generalize z.pv[k] = pvs at *
      generalize pg[k].1 = pb at *
      have e0 := cell_below hb0r g0
      have e1 := cell_below hb0r g1
      have e2 := cell_below hb0r g2
      have e3 := cell_below hb0r g3
      have e4 := cell_below hb0r g4
      have e5 := cell_below hb0r g5
      have e6 := cell_below hb0r g6
      have du2 := cell_below hb0r hu2
      have du3 := cell_below hb0r hu3
      rw [Nat.add_zero] at e0
      have q1 := (cells_of kbr).1 1
      have q2 := (cells_of kbr).1 2
      have q3 := (cells_of kbr).1 3
      simp only [List.getElem?_toArray, List.getElem?_cons_succ, List.getElem?_cons_zero] at q1 q2 q3
      obtain ⟨hkb, hvb, htk', hdm', hly, hhd', hix⟩ := hx
      dsimp only at *
      subst ht hd
      unfold hdCells at hqz hhd
      have HTK := Lib.hid htk
      have HQZ := Lib.hid hqz
      have HHD := Lib.hid hhd
      have HGI := Lib.hid (And.intro gk (And.intro gv (And.intro gkl gvl)))
      clear g0 g1 g2 g3 g4 g5 g6 hu2 hu3 hr2 hr3 hok0 hpg0 hqz hhd htk mk mv hqk hup0 hpa k1 v1 gk gv gkl gvl
      go_upto_region 10 with fail
      clear hup
      go_cut [9] from 48 to 64 (fun v9 wx => ∃ (nb : Nat) (kv vv : Value), v9 = .pointer (some ⟨nb, 0, none⟩) ∧ wr.heap.size ≤ nb ∧ RpgAt (fun b => wr.heap.size ≤ b) wx nb ⟨hkb, hvb, t, d, hly, hhd', hix⟩ kv vv kg vg ∧ Below wr.heap.size wr wx)
      case first =>
        have hSall : ∀ W, Below wr.heap.size wr W → (fun W : World => W.cell? ⟨w.heap.size, 1, none⟩ = some (.slice (some ⟨gb, off, none⟩) z.heads.length c1) ∧ W.cell? ⟨w.heap.size, 2, none⟩ = some (.slice (some ad2) z.pk.length c2) ∧ W.cell? ⟨w.heap.size, 3, none⟩ = some (.slice (some ad3) z.pv.length c3) ∧ W.cell? ⟨gb, off + k * 7, none⟩ = some (.int .i64 hkb) ∧ W.cell? ⟨gb, off + k * 7 + 1, none⟩ = some (.int .i64 hvb) ∧ W.cell? ⟨gb, off + k * 7 + 2, none⟩ = some (.int .i64 t) ∧ W.cell? ⟨gb, off + k * 7 + 3, none⟩ = some (.int .i64 d) ∧ W.cell? ⟨gb, off + k * 7 + 4, none⟩ = some (.int .i64 hly) ∧ W.cell? ⟨gb, off + k * 7 + 5, none⟩ = some (.int .i64 hhd') ∧ W.cell? ⟨gb, off + k * 7 + 6, none⟩ = some (.int .i64 hix) ∧ W.cell? (ad2.add k) = some (.slice A7 pks.length c7) ∧ W.cell? (ad3.add k) = some (.slice A8 pvs.length c8)) W :=
          fun W hW => ⟨cell_below hW q1, cell_below hW q2, cell_below hW q3, cell_below hW e0, cell_below hW e1, cell_below hW e2, cell_below hW e3, cell_below hW e4, cell_below hW e5, cell_below hW e6, cell_below hW du2, cell_below hW du3⟩
        have hD : Below wr.heap.size wr { wr with drawn := wr.drawn + 1 } := Below.drew (Below.refl _ _)
        refine AnyX.begin (z := 18) (S := (fun W : World => W.cell? ⟨w.heap.size, 1, none⟩ = some (.slice (some ⟨gb, off, none⟩) z.heads.length c1) ∧ W.cell? ⟨w.heap.size, 2, none⟩ = some (.slice (some ad2) z.pk.length c2) ∧ W.cell? ⟨w.heap.size, 3, none⟩ = some (.slice (some ad3) z.pv.length c3) ∧ W.cell? ⟨gb, off + k * 7, none⟩ = some (.int .i64 hkb) ∧ W.cell? ⟨gb, off + k * 7 + 1, none⟩ = some (.int .i64 hvb) ∧ W.cell? ⟨gb, off + k * 7 + 2, none⟩ = some (.int .i64 t) ∧ W.cell? ⟨gb, off + k * 7 + 3, none⟩ = some (.int .i64 d) ∧ W.cell? ⟨gb, off + k * 7 + 4, none⟩ = some (.int .i64 hly) ∧ W.cell? ⟨gb, off + k * 7 + 5, none⟩ = some (.int .i64 hhd') ∧ W.cell? ⟨gb, off + k * 7 + 6, none⟩ = some (.int .i64 hix) ∧ W.cell? (ad2.add k) = some (.slice A7 pks.length c7) ∧ W.cell? (ad3.add k) = some (.slice A8 pvs.length c8))) (by kernel_rfl) ?_
        have hS0 := hSall { wr with drawn := wr.drawn + 1 } hD
        clear q1 q2 q3 e0 e1 e2 e3 e4 e5 e6 du2 du3
        (refine AnyX.take' (i := 0) (v := ?v0a) (some 48) rfl rfl (by kernel_rfl) (by kernel_rfl) (by kernel_rfl) (by kernel_rfl) (waits (k := 0) (r := []) (by kernel_rfl) rfl rfl) (fun _ _ _ h => h) (Or.inl ⟨by rfl, ?hy0a⟩) hS0 ?rest0a; (case hy0a => (intro w hSw; (try dsimp only at hSw); go_simp; try with_reducible rfl)); simp only [Act.put, List.setIfInBounds_toArray, List.set_cons_zero, List.set_cons_succ])
        (refine AnyX.take' (i := 1) (v := ?v1a) (some 49) rfl rfl (by kernel_rfl) (by kernel_rfl) (by kernel_rfl) (by kernel_rfl) (waits (k := 1) (r := []) (by kernel_rfl) rfl rfl) (fun _ _ _ h => h) (Or.inl ⟨by rfl, ?hy1a⟩) hS0 ?rest1a; (case hy1a => (intro w hSw; (try dsimp only at hSw); go_simp; try with_reducible rfl)); simp only [Act.put, List.setIfInBounds_toArray, List.set_cons_zero, List.set_cons_succ])
        (refine AnyX.take' (i := 2) (v := ?v2a) (some 50) rfl rfl (by kernel_rfl) (by kernel_rfl) (by kernel_rfl) (by kernel_rfl) (waits (k := 2) (r := []) (by kernel_rfl) rfl rfl) (fun _ _ _ h => h) (Or.inl ⟨by rfl, ?hy2a⟩) hS0 ?rest2a; (case hy2a => (intro w hSw; (try dsimp only at hSw); go_simp; try with_reducible rfl)); simp only [Act.put, List.setIfInBounds_toArray, List.set_cons_zero, List.set_cons_succ])
        (refine AnyX.take' (i := 3) (v := ?v3a) (some 51) rfl rfl (by kernel_rfl) (by kernel_rfl) (by kernel_rfl) (by kernel_rfl) (waits (k := 3) (r := []) (by kernel_rfl) rfl rfl) (fun _ _ _ h => h) (Or.inl ⟨by rfl, ?hy3a⟩) hS0 ?rest3a; (case hy3a => (intro w hSw; (try dsimp only at hSw); go_simp; try with_reducible rfl)); simp only [Act.put, List.setIfInBounds_toArray, List.set_cons_zero, List.set_cons_succ])
        (refine AnyX.take' (i := 4) (v := ?v4a) (some 52) rfl rfl (by kernel_rfl) (by kernel_rfl) (by kernel_rfl) (by kernel_rfl) (waits (k := 4) (r := []) (by kernel_rfl) rfl rfl) (fun _ _ _ h => h) (Or.inl ⟨by rfl, ?hy4a⟩) hS0 ?rest4a; (case hy4a => (intro w hSw; (try dsimp only at hSw); go_simp; try with_reducible rfl)); simp only [Act.put, List.setIfInBounds_toArray, List.set_cons_zero, List.set_cons_succ])
        (refine AnyX.take' (i := 6) (v := ?v6a) (some 54) rfl rfl (by kernel_rfl) (by kernel_rfl) (by kernel_rfl) (by kernel_rfl) (waits (k := 6) (r := []) (by kernel_rfl) rfl rfl) (fun _ _ _ h => h) (Or.inl ⟨by rfl, ?hy6a⟩) hS0 ?rest6a; (case hy6a => (intro w hSw; (try dsimp only at hSw); go_simp; try with_reducible rfl)); simp only [Act.put, List.setIfInBounds_toArray, List.set_cons_zero, List.set_cons_succ])
        (refine AnyX.take' (i := 7) (v := ?v7a) (some 55) rfl rfl (by kernel_rfl) (by kernel_rfl) (by kernel_rfl) (by kernel_rfl) (waits (k := 7) (r := []) (by kernel_rfl) rfl rfl) (fun _ _ _ h => h) (Or.inl ⟨by rfl, ?hy7a⟩) hS0 ?rest7a; (case hy7a => (intro w hSw; (try dsimp only at hSw); go_simp; try with_reducible rfl)); simp only [Act.put, List.setIfInBounds_toArray, List.set_cons_zero, List.set_cons_succ])
        (refine AnyX.take' (i := 8) (v := ?v8a) (some 56) rfl rfl (by kernel_rfl) (by kernel_rfl) (by kernel_rfl) (by kernel_rfl) (waits (k := 8) (r := []) (by kernel_rfl) rfl rfl) (fun _ _ _ h => h) (Or.inl ⟨by rfl, ?hy8a⟩) hS0 ?rest8a; (case hy8a => (intro w hSw; (try dsimp only at hSw); go_simp; try with_reducible rfl)); simp only [Act.put, List.setIfInBounds_toArray, List.set_cons_zero, List.set_cons_succ])
        (refine AnyX.take' (i := 9) (v := ?v9a) (some 57) rfl rfl (by kernel_rfl) (by kernel_rfl) (by kernel_rfl) (by kernel_rfl) (waits (k := 9) (r := []) (by kernel_rfl) rfl rfl) (fun _ _ _ h => h) (Or.inl ⟨by rfl, ?hy9a⟩) hS0 ?rest9a; (case hy9a => (intro w hSw; (try dsimp only at hSw); go_simp; try with_reducible rfl)); simp only [Act.put, List.setIfInBounds_toArray, List.set_cons_zero, List.set_cons_succ])
        (refine AnyX.take' (i := 10) (v := ?v10a) (some 58) rfl rfl (by kernel_rfl) (by kernel_rfl) (by kernel_rfl) (by kernel_rfl) (waits (k := 10) (r := []) (by kernel_rfl) rfl rfl) (fun _ _ _ h => h) (Or.inl ⟨by rfl, ?hy10a⟩) hS0 ?rest10a; (case hy10a => (intro w hSw; (try dsimp only at hSw); go_simp; try with_reducible rfl)); simp only [Act.put, List.setIfInBounds_toArray, List.set_cons_zero, List.set_cons_succ])
        (refine AnyX.take' (i := 11) (v := ?v11a) (some 59) rfl rfl (by kernel_rfl) (by kernel_rfl) (by kernel_rfl) (by kernel_rfl) (waits (k := 11) (r := []) (by kernel_rfl) rfl rfl) (fun _ _ _ h => h) (Or.inl ⟨by rfl, ?hy11a⟩) hS0 ?rest11a; (case hy11a => (intro w hSw; (try dsimp only at hSw); go_simp; try with_reducible rfl)); simp only [Act.put, List.setIfInBounds_toArray, List.set_cons_zero, List.set_cons_succ])
        (refine AnyX.take' (i := 12) (v := ?v12a) (some 60) rfl rfl (by kernel_rfl) (by kernel_rfl) (by kernel_rfl) (by kernel_rfl) (waits (k := 12) (r := []) (by kernel_rfl) rfl rfl) (fun _ _ _ h => h) (Or.inl ⟨by rfl, ?hy12a⟩) hS0 ?rest12a; (case hy12a => (intro w hSw; (try dsimp only at hSw); go_simp; try with_reducible rfl)); simp only [Act.put, List.setIfInBounds_toArray, List.set_cons_zero, List.set_cons_succ])
        (refine AnyX.take' (i := 13) (v := ?v13a) (some 61) rfl rfl (by kernel_rfl) (by kernel_rfl) (by kernel_rfl) (by kernel_rfl) (waits (k := 13) (r := []) (by kernel_rfl) rfl rfl) (fun _ _ _ h => h) (Or.inl ⟨by rfl, ?hy13a⟩) hS0 ?rest13a; (case hy13a => (intro w hSw; (try dsimp only at hSw); go_simp; try with_reducible rfl)); simp only [Act.put, List.setIfInBounds_toArray, List.set_cons_zero, List.set_cons_succ])
        (refine AnyX.take' (i := 14) (v := ?v14a) (some 62) rfl rfl (by kernel_rfl) (by kernel_rfl) (by kernel_rfl) (by kernel_rfl) (waits (k := 14) (r := []) (by kernel_rfl) rfl rfl) (fun _ _ _ h => h) (Or.inl ⟨by rfl, ?hy14a⟩) hS0 ?rest14a; (case hy14a => (intro w hSw; (try dsimp only at hSw); go_simp; try with_reducible rfl)); simp only [Act.put, List.setIfInBounds_toArray, List.set_cons_zero, List.set_cons_succ])
        (refine AnyX.take' (i := 15) (v := ?v15a) (some 63) rfl rfl (by kernel_rfl) (by kernel_rfl) (by kernel_rfl) (by kernel_rfl) (waits (k := 15) (r := []) (by kernel_rfl) rfl rfl) (fun _ _ _ h => h) (Or.inl ⟨by rfl, ?hy15a⟩) hS0 ?rest15a; (case hy15a => (intro w hSw; (try dsimp only at hSw); go_simp; try with_reducible rfl)); simp only [Act.put, List.setIfInBounds_toArray, List.set_cons_zero, List.set_cons_succ])
        refine AnyX.two (i := 5) (j := 17) (by kernel_rfl) rfl rfl (fun K' hK => ?_) (fun K' hK => ?_)
        · skip
          refine step_callG (R := fun v w' => v = .agg #[.int .i64 hkb, .int .i64 hvb, .int .i64 t, .int .i64 d, .int .i64 hly, .int .i64 hhd', .int .i64 hix] ∧ Below ({ wr with drawn := wr.drawn + 1 }).heap.size ({ wr with drawn := wr.drawn + 1 }) w') 8 #[.tmp 52] #[41] #[.agg #[.int .i64 hkb, .int .i64 hvb, .int .i64 t, .int .i64 d, .int .i64 hly, .int .i64 hhd', .int .i64 hix]] rfl rfl rfl (by kernel_rfl) ((HHD.out _).mono fun e w' h => ⟨_, h.1, rfl, h.2⟩) ?_
          rintro v5 w5 ⟨rfl, hbw5⟩
          have hd5 : Below wr.heap.size wr w5 := hD.trans (hbw5.mono (Nat.le_refl _))
          refine hK _ _ (.inr (hSall _ hd5)) ?_
          simp only [Act.put, List.setIfInBounds_toArray, List.set_cons_zero, List.set_cons_succ]
          refine AnyX.two (i := 16) (j := 17) (by kernel_rfl) rfl rfl (fun K' hK => ?_) (fun K' hK => ?_)
          · skip
            refine step_callG (R := fun v w' => ∃ kv vv, v = .agg #[.int .i64 hkb, .int .i64 hvb, .int .i64 t, .int .i64 d, .int .i64 hly, .int .i64 hhd', .int .i64 hix, kv, vv] ∧ Below (w5).heap.size (w5) w' ∧ SlN (fun b => (w5).heap.size ≤ b) w' 3 (GrR (fun b => (w5).heap.size ≤ b) w') kv kg ∧ SlN (fun b => (w5).heap.size ≤ b) w' 3 (GrR (fun b => (w5).heap.size ≤ b) w') vv vg) 7 #[.tmp 53, .tmp 58, .tmp 63] #[34, 25, 25] #[.agg #[.int .i64 hkb, .int .i64 hvb, .int .i64 t, .int .i64 d, .int .i64 hly, .int .i64 hhd', .int .i64 hix], .slice A7 pks.length c7, .slice A8 pvs.length c8] rfl rfl rfl (by kernel_rfl) ((HQZ.out _ (hd5)).mono fun e w' h => by obtain ⟨hb, u, he, kv, vv, rfl, s1, s2⟩ := h; exact ⟨_, he, kv, vv, rfl, hb, s1, s2⟩) ?_
            rintro v6 w6 ⟨kv, vv, rfl, hbw6, s1, s2⟩
            obtain ⟨A9, c9, rfl, _, _⟩ := s1.form
            obtain ⟨A10, c10, rfl, _, _⟩ := s2.form
            have hd6 : Below wr.heap.size wr w6 := hd5.trans (hbw6.mono hd5.size)
            refine hK _ _ (.inr (hSall _ hd6)) ?_
            simp only [Act.put, List.setIfInBounds_toArray, List.set_cons_zero, List.set_cons_succ]
            refine AnyX.one (i := 17) (by kernel_rfl) rfl (fun K' hK => ?_)
            go_simp
            refine hK _ _ (.inr (hSall _ (hd6.alloc hd6.size _))) ?_
            try simp only [Act.put, List.setIfInBounds_toArray, List.set_cons_zero, List.set_cons_succ]
            (refine AnyX.last (i := 18) (fuel := 0) (o := ?ooa) ?gaa ?gba ?gca rfl ?gda; (case gba => rfl); (case gaa => kernel_rfl); (case gca => kernel_rfl); intro K' hK; go_simp; refine hK _ _ ?_)
            go_wp2_with fail
            go_meet
            have hal := (Below.refl w6.heap.size w6).alloc (Nat.le_refl _) (.cells (hd9 hkb hvb t d hly hhd' hix (.slice A9 kg.length c9) (.slice A10 vg.length c10)) 37)
            exact ⟨w6.heap.size, _, _, rfl, hd6.size, ⟨hd6.size, blk_new rfl, Grs.turn s1 (fun b hb _ => hal.block b hb) (fun b _ h => Nat.le_trans hd5.size h) hal.size, Grs.turn s2 (fun b hb _ => hal.block b hb) (fun b _ h => Nat.le_trans hd5.size h) hal.size⟩, hd6.alloc hd6.size _⟩
          · go_simp
            refine hK _ _ (.inr (hSall _ (hd5.alloc hd5.size _))) ?_
            try simp only [Act.put, List.setIfInBounds_toArray, List.set_cons_zero, List.set_cons_succ]
            refine AnyX.one (i := 16) (by kernel_rfl) rfl (fun K' hK => ?_)
            refine step_callG (R := fun v w' => ∃ kv vv, v = .agg #[.int .i64 hkb, .int .i64 hvb, .int .i64 t, .int .i64 d, .int .i64 hly, .int .i64 hhd', .int .i64 hix, kv, vv] ∧ Below (w5.alloc (.cells #[.int .i64 0, .int .i64 0, .int .i64 0, .int .i64 0, .int .i64 0, .int .i64 0, .int .i64 0, .slice none 0 0, .slice none 0 0] 37)).heap.size (w5.alloc (.cells #[.int .i64 0, .int .i64 0, .int .i64 0, .int .i64 0, .int .i64 0, .int .i64 0, .int .i64 0, .slice none 0 0, .slice none 0 0] 37)) w' ∧ SlN (fun b => (w5.alloc (.cells #[.int .i64 0, .int .i64 0, .int .i64 0, .int .i64 0, .int .i64 0, .int .i64 0, .int .i64 0, .slice none 0 0, .slice none 0 0] 37)).heap.size ≤ b) w' 3 (GrR (fun b => (w5.alloc (.cells #[.int .i64 0, .int .i64 0, .int .i64 0, .int .i64 0, .int .i64 0, .int .i64 0, .int .i64 0, .slice none 0 0, .slice none 0 0] 37)).heap.size ≤ b) w') kv kg ∧ SlN (fun b => (w5.alloc (.cells #[.int .i64 0, .int .i64 0, .int .i64 0, .int .i64 0, .int .i64 0, .int .i64 0, .int .i64 0, .slice none 0 0, .slice none 0 0] 37)).heap.size ≤ b) w' 3 (GrR (fun b => (w5.alloc (.cells #[.int .i64 0, .int .i64 0, .int .i64 0, .int .i64 0, .int .i64 0, .int .i64 0, .int .i64 0, .slice none 0 0, .slice none 0 0] 37)).heap.size ≤ b) w') vv vg) 7 #[.tmp 53, .tmp 58, .tmp 63] #[34, 25, 25] #[.agg #[.int .i64 hkb, .int .i64 hvb, .int .i64 t, .int .i64 d, .int .i64 hly, .int .i64 hhd', .int .i64 hix], .slice A7 pks.length c7, .slice A8 pvs.length c8] rfl rfl rfl (by kernel_rfl) ((HQZ.out _ (hd5.alloc hd5.size _)).mono fun e w' h => by obtain ⟨hb, u, he, kv, vv, rfl, s1, s2⟩ := h; exact ⟨_, he, kv, vv, rfl, hb, s1, s2⟩) ?_
            rintro v6 w6 ⟨kv, vv, rfl, hbw6, s1, s2⟩
            obtain ⟨A9, c9, rfl, _, _⟩ := s1.form
            obtain ⟨A10, c10, rfl, _, _⟩ := s2.form
            have hd6 : Below wr.heap.size wr w6 := (hd5.alloc hd5.size _).trans (hbw6.mono (by have := hd5.size; simp; omega))
            refine hK _ _ (.inr (hSall _ hd6)) ?_
            simp only [Act.put, List.setIfInBounds_toArray, List.set_cons_zero, List.set_cons_succ]
            have kz := blk_below hbw6 (blk_new rfl)
            obtain ⟨n1, n2, _⟩ := cells_of kz
            (refine AnyX.last (i := 18) (fuel := 0) (o := ?oob) ?gab ?gbb ?gcb rfl ?gdb; (case gbb => rfl); (case gab => kernel_rfl); (case gcb => kernel_rfl); intro K' hK; go_simp; refine hK _ _ ?_)
            go_wp2_with fail
            go_meet
            obtain ⟨k9, ko, kz9, kb9⟩ := set9 kz (.int .i64 hkb) (.int .i64 hvb) (.int .i64 t) (.int .i64 d) (.int .i64 hly) (.int .i64 hhd') (.int .i64 hix) (.slice A9 kg.length c9) (.slice A10 vg.length c10)
            exact ⟨w5.heap.size, _, _, rfl, hd5.size, ⟨hd5.size, k9, Grs.turn s1 (fun b _ h => ko b (by have h' : _ ≤ b := h; simp at h'; omega)) (fun b _ h => (by have h' : (w5.alloc _).heap.size ≤ b := h; have := hd5.size; simp at h'; omega)) (Nat.le_of_eq kz9.symm), Grs.turn s2 (fun b _ h => ko b (by have h' : _ ≤ b := h; simp at h'; omega)) (fun b _ h => (by have h' : (w5.alloc _).heap.size ≤ b := h; have := hd5.size; simp at h'; omega)) (Nat.le_of_eq kz9.symm)⟩, kb9 _ _ hd6 hd5.size⟩
        · go_simp
          refine hK _ _ (.inr (hSall _ (hD.alloc hD.size _))) ?_
          try simp only [Act.put, List.setIfInBounds_toArray, List.set_cons_zero, List.set_cons_succ]
          refine AnyX.one (i := 5) (by kernel_rfl) rfl (fun K' hK => ?_)
          refine step_callG (R := fun v w' => v = .agg #[.int .i64 hkb, .int .i64 hvb, .int .i64 t, .int .i64 d, .int .i64 hly, .int .i64 hhd', .int .i64 hix] ∧ Below (World.alloc { wr with drawn := wr.drawn + 1 } (.cells #[.int .i64 0, .int .i64 0, .int .i64 0, .int .i64 0, .int .i64 0, .int .i64 0, .int .i64 0, .slice none 0 0, .slice none 0 0] 37)).heap.size (World.alloc { wr with drawn := wr.drawn + 1 } (.cells #[.int .i64 0, .int .i64 0, .int .i64 0, .int .i64 0, .int .i64 0, .int .i64 0, .int .i64 0, .slice none 0 0, .slice none 0 0] 37)) w') 8 #[.tmp 52] #[41] #[.agg #[.int .i64 hkb, .int .i64 hvb, .int .i64 t, .int .i64 d, .int .i64 hly, .int .i64 hhd', .int .i64 hix]] rfl rfl rfl (by kernel_rfl) ((HHD.out _).mono fun e w' h => ⟨_, h.1, rfl, h.2⟩) ?_
          rintro v5 w5 ⟨rfl, hbw5⟩
          have hd5 : Below wr.heap.size wr w5 := (hD.alloc hD.size _).trans (hbw5.mono (by simp))
          refine hK _ _ (.inr (hSall _ hd5)) ?_
          simp only [Act.put, List.setIfInBounds_toArray, List.set_cons_zero, List.set_cons_succ]
          refine AnyX.one (i := 16) (by kernel_rfl) rfl (fun K' hK => ?_)
          refine step_callG (R := fun v w' => ∃ kv vv, v = .agg #[.int .i64 hkb, .int .i64 hvb, .int .i64 t, .int .i64 d, .int .i64 hly, .int .i64 hhd', .int .i64 hix, kv, vv] ∧ Below (w5).heap.size (w5) w' ∧ SlN (fun b => (w5).heap.size ≤ b) w' 3 (GrR (fun b => (w5).heap.size ≤ b) w') kv kg ∧ SlN (fun b => (w5).heap.size ≤ b) w' 3 (GrR (fun b => (w5).heap.size ≤ b) w') vv vg) 7 #[.tmp 53, .tmp 58, .tmp 63] #[34, 25, 25] #[.agg #[.int .i64 hkb, .int .i64 hvb, .int .i64 t, .int .i64 d, .int .i64 hly, .int .i64 hhd', .int .i64 hix], .slice A7 pks.length c7, .slice A8 pvs.length c8] rfl rfl rfl (by kernel_rfl) ((HQZ.out _ (hd5)).mono fun e w' h => by obtain ⟨hb, u, he, kv, vv, rfl, s1, s2⟩ := h; exact ⟨_, he, kv, vv, rfl, hb, s1, s2⟩) ?_
          rintro v6 w6 ⟨kv, vv, rfl, hbw6, s1, s2⟩
          obtain ⟨A9, c9, rfl, _, _⟩ := s1.form
          obtain ⟨A10, c10, rfl, _, _⟩ := s2.form
          have hd6 : Below wr.heap.size wr w6 := hd5.trans (hbw6.mono hd5.size)
          refine hK _ _ (.inr (hSall _ hd6)) ?_
          simp only [Act.put, List.setIfInBounds_toArray, List.set_cons_zero, List.set_cons_succ]
          have kz : w6.heap[wr.heap.size]? = some (.cells #[.int .i64 0, .int .i64 0, .int .i64 0, .int .i64 0, .int .i64 0, .int .i64 0, .int .i64 0, .slice none 0 0, .slice none 0 0] 37) := blk_below hbw6 (blk_below hbw5 (blk_new rfl))
          obtain ⟨n1, n2, _⟩ := cells_of kz
          (refine AnyX.last (i := 18) (fuel := 0) (o := ?ooc) ?gac ?gbc ?gcc rfl ?gdc; (case gbc => rfl); (case gac => kernel_rfl); (case gcc => kernel_rfl); intro K' hK; go_simp; refine hK _ _ ?_)
          go_wp2_with fail
          go_meet
          obtain ⟨k9, ko, kz9, kb9⟩ := set9 kz (.int .i64 hkb) (.int .i64 hvb) (.int .i64 t) (.int .i64 d) (.int .i64 hly) (.int .i64 hhd') (.int .i64 hix) (.slice A9 kg.length c9) (.slice A10 vg.length c10)
          exact ⟨wr.heap.size, _, _, rfl, hD.size, ⟨hD.size, k9, Grs.turn s1 (fun b _ h => ko b (by have h' : _ ≤ b := h; have := hbw5.size; simp at this; omega)) (fun b _ h => Nat.le_trans hd5.size h) (Nat.le_of_eq kz9.symm), Grs.turn s2 (fun b _ h => ko b (by have h' : _ ≤ b := h; have := hbw5.size; simp at this; omega)) (fun b _ h => Nat.le_trans hd5.size h) (Nat.le_of_eq kz9.symm)⟩, kb9 _ _ hd6 hD.size⟩
      case rest =>
        obtain ⟨nb, kv9, vv9, rfl, hnb, hrp, hbx⟩ := hcut
        obtain ⟨A9, c9, rfl, _, _⟩ := hrp.2.2.1.form
        obtain ⟨A10, c10, rfl, _, _⟩ := hrp.2.2.2.form
        have q1c := cell_below hbx q1
        have e2c := cell_below hbx e2
        have hTc := HT.below hbx
        have hrp2 := hrp.keep (G := Fx 0 [u5.ownBlock, u6.ownBlock]) (fun _ _ _ => rfl) (fun b hb hf => ⟨Nat.zero_le _, fun hm => by
          have hf' : wr.heap.size ≤ b := hf
          simp at hm
          rcases hm with hm | hm
          · have := HT.lt5 b hm.symm; omega
          · have := HT.lt6 b hm.symm; omega⟩) (Nat.le_refl _)
        have hB1c : Below w1.heap.size w1 wc := HB.trans (hbx.mono HB.size)
        clear q1 q2 q3 e0 e1 e2 e3 e4 e5 e6 du2 du3 hrp
        obtain ⟨wo, hwo⟩ : ∃ wo : World, wo = wr := ⟨_, rfl⟩
        subst hwo
        go_wp2
        clear q1c e2c
        go_loopg [5, 6, 71] t (fun g v5 v6 v71 wx => ∃ j : Nat, j ≤ t ∧ v71 = .int .i64 j ∧ g = t - j ∧ Two wx w1.heap.size v5 v6 (mkL (pg.take k) ++ (List.range j).map (keyL kg)) (mvL (pg.take k) ++ (vg.take j).map backL) ∧
          RpgAt (Fx 0 [v5.ownBlock, v6.ownBlock]) wx nb ⟨hkb, hvb, t, d, hly, hhd', hix⟩ (.slice A9 kg.length c9) (.slice A10 vg.length c10) kg vg ∧ Below w1.heap.size w1 wx)
        case atStart => exact ⟨0, Nat.zero_le _, rfl, by omega, by simpa using hTc, hrp2, hB1c⟩
        case round =>
          obtain ⟨j, hj, rfl, hg, HTj, hrj, HBj⟩ := hrel
          have HG2 := Lib.hid hg
          clear hg
          by_cases hlt2 : j < t
          · obtain ⟨gk, gv, gkl, gvl⟩ := HGI.out
            have hjv : j < vg.length := by omega
            have hts : (List.range (j + 1)).map (keyL kg) = (List.range j).map (keyL kg) ++ [keyL kg j] ∧ (vg.take (j + 1)).map backL = (vg.take j).map backL ++ [backL vg[j]] := by
              refine ⟨by rw [List.range_succ, List.map_append]; rfl, by rw [List.take_succ_eq_append_getElem hjv, List.map_append]; rfl⟩
            have hky := fun W hW => r08_Key (w := W) t j (hrj.below hW).v gk hlt2 (by omega)
            have hvy := fun W (F : Nat → Prop) (hW : RpgAt F W nb ⟨hkb, hvb, t, d, hly, hhd', hix⟩ (.slice A9 kg.length c9) (.slice A10 vg.length c10) kg vg) => r08_Value (w := W) d j hW.v gv hjv (by omega)
            generalize backL vg[j] = yv at *
            generalize keyL kg j = yk at *
            have HTS := Lib.hid hts
            have HKY := Lib.hid hky
            have HVY := Lib.hid hvy
            clear hts hky hvy gk gv gkl gvl
            go_upto_region 14 with fail
            have hSall : ∀ W : World, W.heap[nb]? = some (.cells (hd9 hkb hvb t d hly hhd' hix (.slice A9 kg.length c9) (.slice A10 vg.length c10)) 37 (0, 0)) → (fun W : World => W.cell? ⟨nb, 0, none⟩ = some (.int .i64 hkb) ∧ W.cell? ⟨nb, 1, none⟩ = some (.int .i64 hvb) ∧ W.cell? ⟨nb, 2, none⟩ = some (.int .i64 t) ∧ W.cell? ⟨nb, 3, none⟩ = some (.int .i64 d) ∧ W.cell? ⟨nb, 4, none⟩ = some (.int .i64 hly) ∧ W.cell? ⟨nb, 5, none⟩ = some (.int .i64 hhd') ∧ W.cell? ⟨nb, 6, none⟩ = some (.int .i64 hix) ∧ W.cell? ⟨nb, 7, none⟩ = some (.slice A9 kg.length c9) ∧ W.cell? ⟨nb, 8, none⟩ = some (.slice A10 vg.length c10)) W := fun W hW => by
              obtain ⟨c, _, _⟩ := cells_of hW
              exact ⟨c 0, c 1, c 2, c 3, c 4, c 5, c 6, c 7, c 8⟩
            have hD : Below wr.heap.size wr { wr with drawn := wr.drawn + 1 } := Below.drew (Below.refl _ _)
            have yw := HBj.size
            refine AnyX.begin (z := 13) (S := (fun W : World => W.cell? ⟨nb, 0, none⟩ = some (.int .i64 hkb) ∧ W.cell? ⟨nb, 1, none⟩ = some (.int .i64 hvb) ∧ W.cell? ⟨nb, 2, none⟩ = some (.int .i64 t) ∧ W.cell? ⟨nb, 3, none⟩ = some (.int .i64 d) ∧ W.cell? ⟨nb, 4, none⟩ = some (.int .i64 hly) ∧ W.cell? ⟨nb, 5, none⟩ = some (.int .i64 hhd') ∧ W.cell? ⟨nb, 6, none⟩ = some (.int .i64 hix) ∧ W.cell? ⟨nb, 7, none⟩ = some (.slice A9 kg.length c9) ∧ W.cell? ⟨nb, 8, none⟩ = some (.slice A10 vg.length c10))) (by kernel_rfl) ?_
            have hS0 := hSall { wr with drawn := wr.drawn + 1 } hrj.2.1
            (refine AnyX.take' (i := 0) (v := ?v0d) (some 74) rfl rfl (by kernel_rfl) (by kernel_rfl) (by kernel_rfl) (by kernel_rfl) (waits (k := 0) (r := []) (by kernel_rfl) rfl rfl) (fun _ _ _ h => h) (Or.inl ⟨by rfl, ?hy0d⟩) hS0 ?rest0d; (case hy0d => (intro w hSw; (try dsimp only at hSw); go_simp; try with_reducible rfl)); simp only [Act.put, List.setIfInBounds_toArray, List.set_cons_zero, List.set_cons_succ])
            (refine AnyX.take' (i := 1) (v := ?v1d) (some 75) rfl rfl (by kernel_rfl) (by kernel_rfl) (by kernel_rfl) (by kernel_rfl) (waits (k := 1) (r := []) (by kernel_rfl) rfl rfl) (fun _ _ _ h => h) (Or.inl ⟨by rfl, ?hy1d⟩) hS0 ?rest1d; (case hy1d => (intro w hSw; (try dsimp only at hSw); go_simp; try with_reducible rfl)); simp only [Act.put, List.setIfInBounds_toArray, List.set_cons_zero, List.set_cons_succ])
            (refine AnyX.take' (i := 2) (v := ?v2d) (some 76) rfl rfl (by kernel_rfl) (by kernel_rfl) (by kernel_rfl) (by kernel_rfl) (waits (k := 2) (r := []) (by kernel_rfl) rfl rfl) (fun _ _ _ h => h) (Or.inl ⟨by rfl, ?hy2d⟩) hS0 ?rest2d; (case hy2d => (intro w hSw; (try dsimp only at hSw); go_simp; try with_reducible rfl)); simp only [Act.put, List.setIfInBounds_toArray, List.set_cons_zero, List.set_cons_succ])
            (refine AnyX.take' (i := 6) (v := ?v6d) (some 80) rfl rfl (by kernel_rfl) (by kernel_rfl) (by kernel_rfl) (by kernel_rfl) (waits (k := 6) (r := []) (by kernel_rfl) rfl rfl) (fun _ _ _ h => h) (Or.inl ⟨by rfl, ?hy6d⟩) hS0 ?rest6d; (case hy6d => (intro w hSw; (try dsimp only at hSw); go_simp; try with_reducible rfl)); simp only [Act.put, List.setIfInBounds_toArray, List.set_cons_zero, List.set_cons_succ])
            (refine AnyX.take' (i := 7) (v := ?v7d) (some 81) rfl rfl (by kernel_rfl) (by kernel_rfl) (by kernel_rfl) (by kernel_rfl) (waits (k := 7) (r := []) (by kernel_rfl) rfl rfl) (fun _ _ _ h => h) (Or.inl ⟨by rfl, ?hy7d⟩) hS0 ?rest7d; (case hy7d => (intro w hSw; (try dsimp only at hSw); go_simp; try with_reducible rfl)); simp only [Act.put, List.setIfInBounds_toArray, List.set_cons_zero, List.set_cons_succ])
            (refine AnyX.take' (i := 8) (v := ?v8d) (some 82) rfl rfl (by kernel_rfl) (by kernel_rfl) (by kernel_rfl) (by kernel_rfl) (waits (k := 8) (r := []) (by kernel_rfl) rfl rfl) (fun _ _ _ h => h) (Or.inl ⟨by rfl, ?hy8d⟩) hS0 ?rest8d; (case hy8d => (intro w hSw; (try dsimp only at hSw); go_simp; try with_reducible rfl)); simp only [Act.put, List.setIfInBounds_toArray, List.set_cons_zero, List.set_cons_succ])
            refine AnyX.one (i := 3) (by kernel_rfl) rfl (fun K' hK => ?_)
            refine step_callG (R := fun v w' => Below wr.heap.size wr w' ∧ Sl (fun b => wr.heap.size ≤ b) w' (IntV .i32) v yk) 9 #[.tmp 75, .tmp 76] #[37, 3] #[.agg #[.int .i64 hkb, .int .i64 hvb, .int .i64 t, .int .i64 d, .int .i64 hly, .int .i64 hhd', .int .i64 hix, .slice A9 kg.length c9, .slice A10 vg.length c10], .int .i64 j] rfl rfl rfl (by kernel_rfl) ((HKY.out _ hD).mono fun e w' h => by obtain ⟨hb, v, he, hs⟩ := h; exact ⟨v, he, hD.trans (hb.mono (Nat.le_refl _)), hs⟩) ?_
            rintro v3 w3 ⟨hb3, hs3⟩
            obtain ⟨A11, c11, rfl, _, _⟩ := hs3.form
            have hr3 := hrj.below hb3
            have hT3 := HTj.below hb3
            refine hK _ _ (.inr (hSall _ hr3.2.1)) ?_
            simp only [Act.put, List.setIfInBounds_toArray, List.set_cons_zero, List.set_cons_succ]
            refine AnyX.one (i := 4) (by kernel_rfl) rfl (fun K' hK => ?_)
            go_simp
            refine hK _ _ (.inr (hSall _ (blk_old hr3.2.1))) ?_
            try simp only [Act.put, List.setIfInBounds_toArray, List.set_cons_zero, List.set_cons_succ]
            refine AnyX.one (i := 5) (by kernel_rfl) rfl (fun K' hK => ?_)
            obtain ⟨⟨xs5, ho5, hl5, hx5⟩, hV3, hd3⟩ := id hT3
            have hn5 : xs5.length + 1 ≤ 1099511627776 := by
              have hm := (mk_small (fun x hx => (HTOK.out x hx).2) k).1
              have hl5' := hl5
              rw [List.length_append, List.length_map, List.length_range] at hl5'
              omega
            refine step_app (w0 := wr) w1.heap.size 1 (.tmp 74) (.tmp 78) 25 22 (.slice none 0 0) 24 rfl rfl Try.underlying25 info_sl32 rfl (by decide) u5 xs5.length xs5 #[.slice A11 yk.length c11] w3.heap.size rfl rfl rfl rfl (by simp [Value.oneCell']) ho5 (hb3.mono yw) (Nat.le_trans yw hb3.size) hn5 (by decide) ?_
            intro va w4 HO4 HB4 HG4 HA4
            have hT4 : Two w4 w1.heap.size va u6 ((mkL (pg.take k) ++ (List.range j).map (keyL kg)) ++ [yk]) (mvL (pg.take k) ++ (vg.take j).map backL) :=
              Two.app hV3 hd3 hl5 hx5 (by rw [List.length_append]; exact HO4) HG4 HA4 rfl (fun i u x g1 g2 => by
                have hi0 : i = 0 := by
                  have := (List.getElem?_eq_some_iff.1 g2).1
                  simp at this; omega
                subst hi0
                simp at g1 g2
                subst g1 g2
                exact Sl.keep hs3 (fun _ _ _ => rfl) (fun b _ hf => ⟨Nat.zero_le _, fun hm => by
                  have hf' : wr.heap.size ≤ b := hf
                  simp at hm
                  rcases hm with hm | hm
                  · have := HTj.lt5 b hm.symm; omega
                  · have := HTj.lt6 b hm.symm; omega⟩) (fun _ _ _ h => h))
            have hr4 := hr3.grow HG4 (.inr (by simp)) (fx_two (v6 := u6) HA4)
            refine hK _ _ (.inr (hSall _ hr4.2.1)) ?_
            simp only [Act.put, List.setIfInBounds_toArray, List.set_cons_zero, List.set_cons_succ]
            refine AnyX.one (i := 9) (by kernel_rfl) rfl (fun K' hK => ?_)
            refine step_callG (R := fun v w' => Below w4.heap.size w4 w' ∧ Sl (fun b => w4.heap.size ≤ b) w' (IntV .i32) v yv) 10 #[.tmp 81, .tmp 82] #[37, 3] #[.agg #[.int .i64 hkb, .int .i64 hvb, .int .i64 t, .int .i64 d, .int .i64 hly, .int .i64 hhd', .int .i64 hix, .slice A9 kg.length c9, .slice A10 vg.length c10], .int .i64 j] rfl rfl rfl (by kernel_rfl) ((HVY.out _ _ hr4).mono fun e w' h => by obtain ⟨hb, v, he, hs⟩ := h; exact ⟨v, he, hb, hs⟩) ?_
            rintro v5 w5 ⟨hb5, hs5⟩
            obtain ⟨A12, c12, rfl, _, _⟩ := hs5.form
            have hr5 := hr4.below hb5
            have hT5 := (hT4.below hb5).swap
            refine hK _ _ (.inr (hSall _ hr5.2.1)) ?_
            simp only [Act.put, List.setIfInBounds_toArray, List.set_cons_zero, List.set_cons_succ]
            refine AnyX.one (i := 10) (by kernel_rfl) rfl (fun K' hK => ?_)
            go_simp
            refine hK _ _ (.inr (hSall _ (blk_old hr5.2.1))) ?_
            try simp only [Act.put, List.setIfInBounds_toArray, List.set_cons_zero, List.set_cons_succ]
            refine AnyX.one (i := 11) (by kernel_rfl) rfl (fun K' hK => ?_)
            obtain ⟨⟨xs6, ho6, hl6, hx6⟩, hV5, hd5⟩ := id hT5
            have hn6 : xs6.length + 1 ≤ 1099511627776 := by
              have hm := (mk_small (fun x hx => (HTOK.out x hx).2) k).2
              have hl6' := hl6
              rw [List.length_append, List.length_map, List.length_take] at hl6'
              omega
            have hb45 : Below w1.heap.size wr w5 := HB4.trans (hb5.mono (Nat.le_trans yw HB4.size))
            refine step_app (w0 := wr) w1.heap.size 1 (.tmp 80) (.tmp 84) 25 22 (.slice none 0 0) 24 rfl rfl Try.underlying25 info_sl32 rfl (by decide) u6 xs6.length xs6 #[.slice A12 yv.length c12] w5.heap.size rfl rfl rfl rfl (by simp [Value.oneCell']) ho6 hb45 (Nat.le_trans yw hb45.size) hn6 (by decide) ?_
            intro vb w6 HO6 HB6 HG6 HA6
            have hT6 : Two w6 w1.heap.size vb va ((mvL (pg.take k) ++ (vg.take j).map backL) ++ [yv]) ((mkL (pg.take k) ++ (List.range j).map (keyL kg)) ++ [yk]) :=
              Two.app hV5 hd5 hl6 hx6 (by rw [List.length_append]; exact HO6) HG6 HA6 rfl (fun i u x g1 g2 => by
                have hi0 : i = 0 := by
                  have := (List.getElem?_eq_some_iff.1 g2).1
                  simp at this; omega
                subst hi0
                simp at g1 g2
                subst g1 g2
                exact Sl.keep hs5 (fun _ _ _ => rfl) (fun b _ hf => ⟨Nat.zero_le _, fun hm => by
                  have hf' : w4.heap.size ≤ b := hf
                  simp at hm
                  rcases hm with hm | hm
                  · have := hT4.lt6 b hm.symm; omega
                  · have := hT4.lt5 b hm.symm; omega⟩) (fun _ _ _ h => h))
            have hr6 := (hr5.keep (G := Fx 0 [u6.ownBlock, va.ownBlock]) (fun _ _ _ => rfl) (fun _ _ h => fx_swap h) (Nat.le_refl _)).grow HG6 (.inr (by simp)) (fx_two (v6 := va) HA6)
            have hr7 := hr6.keep (G := Fx 0 [va.ownBlock, vb.ownBlock]) (fun _ _ _ => rfl) (fun _ _ h => fx_swap h) (Nat.le_refl _)
            refine hK _ _ (.inr (hSall _ hr6.2.1)) ?_
            simp only [Act.put, List.setIfInBounds_toArray, List.set_cons_zero, List.set_cons_succ]
            have hS6 := hSall _ hr6.2.1
            (refine AnyX.take' (i := 12) (v := ?v12d) (some 5) rfl rfl (by kernel_rfl) (by kernel_rfl) (by kernel_rfl) (by kernel_rfl) (waits (k := 12) (r := []) (by kernel_rfl) rfl rfl) (fun _ _ _ h => h) (Or.inl ⟨by rfl, ?hy12d⟩) hS6 ?rest12d; (case hy12d => (intro w hSw; (try dsimp only at hSw); go_simp; try with_reducible rfl)); simp only [Act.put, List.setIfInBounds_toArray, List.set_cons_zero, List.set_cons_succ])
            (refine AnyX.last (i := 13) (fuel := 0) (o := ?ood) ?gad ?gbd ?gcd rfl ?gdd; (case gbd => rfl); (case gad => kernel_rfl); (case gcd => kernel_rfl); intro K' hK; go_simp; refine hK _ _ ?_)
            go_wp2_with fail
            go_roundg (t - (j + 1))
            case rel => exact ⟨j + 1, by omega, by go_num, by omega, by rw [HTS.out.1, HTS.out.2, ← List.append_assoc, ← List.append_assoc]; exact hT6.swap, hr7, HBj.trans HB6⟩
            case measure => rw [HG2.out]; omega
          · obtain rfl : j = t := by omega
            obtain ⟨_, _, _, gvl⟩ := HGI.out
            have hvt : vg.take j = vg := List.take_of_length_le (by omega)
            rw [hvt] at HTj
            have HTJ := Lib.hid HTj
            clear HTj hvt gvl
            go_wp2
            go_roundg (pg.length - (k + 1))
            case rel => exact ⟨k + 1, by omega, by go_num, by omega, by rw [HTK.out.1, HTK.out.2]; exact HTJ.out, HBj⟩
            case measure => rw [HG.out]; omega
    · obtain rfl : k = pg.length := by omega
      rw [List.take_length] at HT
      go_upto_region 17 with fail
      have y1 := hb01.size
      have q4 := (cells_of kbr).1 4
      have q5 := (cells_of kbr).1 5
      simp only [List.getElem?_toArray, List.getElem?_cons_succ, List.getElem?_cons_zero] at q4 q5
      have hSall : ∀ W, Below w1.heap.size wr W → (fun W : World => W.cell? ⟨w.heap.size, 4, none⟩ = some (.slice A4 z.ks.length c4) ∧ W.cell? ⟨w.heap.size, 5, none⟩ = some (.slice A5 z.vs.length c5)) W := fun W hW => ⟨cell_base hW hsz1 q4, cell_base hW hsz1 q5⟩
      have hD : Below wr.heap.size wr { wr with drawn := wr.drawn + 1 } := Below.drew (Below.refl _ _)
      have yw := HB.size
      obtain ⟨⟨xs5, ho5, hl5, hx5⟩, hV3, hd3⟩ := id HT
      obtain ⟨newk, nk1, nk2, nk3, nk4⟩ := Rows.news (Rows.below (Rows.small h.ks) (hb0r.trans (hD.mono hb0r.size)))
      have hms := mk_small (pg := pg) (fun x hx => (HTOK.out x hx).2) pg.length
      rw [List.take_length] at hms
      have hn5 : xs5.length + z.ks.length ≤ 1099511627776 := by have := HLK.out.1; omega
      refine AnyX.begin (z := 9) (S := (fun W : World => W.cell? ⟨w.heap.size, 4, none⟩ = some (.slice A4 z.ks.length c4) ∧ W.cell? ⟨w.heap.size, 5, none⟩ = some (.slice A5 z.vs.length c5))) (by kernel_rfl) ?_
      have hS0 := hSall { wr with drawn := wr.drawn + 1 } (hD.mono yw)
      clear q4 q5
      (refine AnyX.take' (i := 0) (v := ?v0e) (some 88) rfl rfl (by kernel_rfl) (by kernel_rfl) (by kernel_rfl) (by kernel_rfl) (waits (k := 0) (r := []) (by kernel_rfl) rfl rfl) (fun _ _ _ h => h) (Or.inl ⟨by rfl, ?hy0e⟩) hS0 ?rest0e; (case hy0e => (intro w hSw; (try dsimp only at hSw); go_simp; try with_reducible rfl)); simp only [Act.put, List.setIfInBounds_toArray, List.set_cons_zero, List.set_cons_succ])
      (refine AnyX.take' (i := 1) (v := ?v1e) (some 89) rfl rfl (by kernel_rfl) (by kernel_rfl) (by kernel_rfl) (by kernel_rfl) (waits (k := 1) (r := []) (by kernel_rfl) rfl rfl) (fun _ _ _ h => h) (Or.inl ⟨by rfl, ?hy1e⟩) hS0 ?rest1e; (case hy1e => (intro w hSw; (try dsimp only at hSw); go_simp; try with_reducible rfl)); simp only [Act.put, List.setIfInBounds_toArray, List.set_cons_zero, List.set_cons_succ])
      (refine AnyX.take' (i := 2) (v := ?v2e) (some 90) rfl rfl (by kernel_rfl) (by kernel_rfl) (by kernel_rfl) (by kernel_rfl) (waits (k := 2) (r := []) (by kernel_rfl) rfl rfl) (fun _ _ _ h => h) (Or.inl ⟨by rfl, ?hy2e⟩) hS0 ?rest2e; (case hy2e => (intro w hSw; (try dsimp only at hSw); go_simp; try with_reducible rfl)); simp only [Act.put, List.setIfInBounds_toArray, List.set_cons_zero, List.set_cons_succ])
      (refine AnyX.take' (i := 4) (v := ?v4e) (some 92) rfl rfl (by kernel_rfl) (by kernel_rfl) (by kernel_rfl) (by kernel_rfl) (waits (k := 4) (r := []) (by kernel_rfl) rfl rfl) (fun _ _ _ h => h) (Or.inl ⟨by rfl, ?hy4e⟩) hS0 ?rest4e; (case hy4e => (intro w hSw; (try dsimp only at hSw); go_simp; try with_reducible rfl)); simp only [Act.put, List.setIfInBounds_toArray, List.set_cons_zero, List.set_cons_succ])
      (refine AnyX.take' (i := 5) (v := ?v5e) (some 93) rfl rfl (by kernel_rfl) (by kernel_rfl) (by kernel_rfl) (by kernel_rfl) (waits (k := 5) (r := []) (by kernel_rfl) rfl rfl) (fun _ _ _ h => h) (Or.inl ⟨by rfl, ?hy5e⟩) hS0 ?rest5e; (case hy5e => (intro w hSw; (try dsimp only at hSw); go_simp; try with_reducible rfl)); simp only [Act.put, List.setIfInBounds_toArray, List.set_cons_zero, List.set_cons_succ])
      (refine AnyX.take' (i := 6) (v := ?v6e) (some 94) rfl rfl (by kernel_rfl) (by kernel_rfl) (by kernel_rfl) (by kernel_rfl) (waits (k := 6) (r := []) (by kernel_rfl) rfl rfl) (fun _ _ _ h => h) (Or.inl ⟨by rfl, ?hy6e⟩) hS0 ?rest6e; (case hy6e => (intro w hSw; (try dsimp only at hSw); go_simp; try with_reducible rfl)); simp only [Act.put, List.setIfInBounds_toArray, List.set_cons_zero, List.set_cons_succ])
      refine AnyX.one (i := 3) (by kernel_rfl) rfl (fun K' hK => ?_)
      refine step_appS (w0 := wr) w1.heap.size (.tmp 88) (.tmp 90) 25 22 (.slice none 0 0) 24 rfl rfl Try.underlying25 info_sl32 rfl u5 xs5 A4 z.ks.length c4 newk rfl rfl HKN.out nk1 nk2 nk3 ho5 (hD.mono yw) yw hn5 (by decide) ?_
      intro va w4 HO4 HB4 HG4 HA4
      have hb04 : Below w.heap.size w w4 := hb0r.trans (HB4.mono y1)
      have hT4 : Two w4 w1.heap.size va u6 (mkL pg ++ z.ks) (mvL pg) :=
        Two.app (W := { wr with drawn := wr.drawn + 1 }) hV3 hd3 hl5 hx5 HO4 HG4 HA4 nk1 (fun i u x g1 g2 => Sl.keep (nk4 i u x g1 g2) (fun _ _ _ => rfl) (fun b _ hf => HT.apart (.inl (Nat.lt_of_lt_of_le hf y1))) (fun _ _ _ h => h))
      refine hK _ _ (.inr (hSall _ HB4)) ?_
      simp only [Act.put, List.setIfInBounds_toArray, List.set_cons_zero, List.set_cons_succ]
      refine AnyX.one (i := 7) (by kernel_rfl) rfl (fun K' hK => ?_)
      obtain ⟨⟨xs6, ho6, hl6, hx6⟩, hV5, hd5⟩ := id hT4.swap
      obtain ⟨newv, nv1, nv2, nv3, nv4⟩ := Rows.news (Rows.below (Rows.small h.vs) hb04)
      have hn6 : xs6.length + z.vs.length ≤ 1099511627776 := by have := HLK.out.2; omega
      refine step_appS (w0 := wr) w1.heap.size (.tmp 92) (.tmp 94) 25 22 (.slice none 0 0) 24 rfl rfl Try.underlying25 info_sl32 rfl u6 xs6 A5 z.vs.length c5 newv rfl rfl HVN.out nv1 nv2 nv3 ho6 HB4 (Nat.le_trans yw HB4.size) hn6 (by decide) ?_
      intro vb w6 HO6 HB6 HG6 HA6
      have hT6 : Two w6 w1.heap.size vb va (mvL pg ++ z.vs) (mkL pg ++ z.ks) :=
        Two.app hV5 hd5 hl6 hx6 HO6 HG6 HA6 nv1 (fun i u x g1 g2 => Sl.keep (nv4 i u x g1 g2) (fun _ _ _ => rfl) (fun b _ hf => hT4.swap.apart (.inl (Nat.lt_of_lt_of_le hf y1))) (fun _ _ _ h => h))
      refine hK _ _ (.inr (hSall _ HB6)) ?_
      simp only [Act.put, List.setIfInBounds_toArray, List.set_cons_zero, List.set_cons_succ]
      have hS6 := hSall _ HB6
      (refine AnyX.take' (i := 8) (v := ?v8e) (some 5) rfl rfl (by kernel_rfl) (by kernel_rfl) (by kernel_rfl) (by kernel_rfl) (waits (k := 8) (r := []) (by kernel_rfl) rfl rfl) (fun _ _ _ h => h) (Or.inl ⟨by rfl, ?hy8e⟩) hS6 ?rest8e; (case hy8e => (intro w hSw; (try dsimp only at hSw); go_simp; try with_reducible rfl)); simp only [Act.put, List.setIfInBounds_toArray, List.set_cons_zero, List.set_cons_succ])
      (refine AnyX.last (i := 9) (fuel := 0) (o := ?ooe) ?gae ?gbe ?gce rfl ?gde; (case gbe => rfl); (case gae => kernel_rfl); (case gce => kernel_rfl); intro K' hK; go_simp; refine hK _ _ ?_)
      obtain ⟨hrv, hrk⟩ := hT6.rows
      have hb16 : Below w1.heap.size w1 w6 := HB.trans HB6
      have hb06 : Below w.heap.size w w6 := hb01.trans (hb16.mono y1)
      have kb6 := blk_below (W := w1) hb16 kb1
      obtain ⟨p1, p2, _⟩ := cells_of kb6
      clear ho5 hl5 hx5 hV3 hd3 nk1 nk2 nk3 nk4 ho6 hl6 hx6 hV5 hd5 nv1 nv2 nv3 nv4 HO4 HG4 HA4 HO6 HG6 HA6 hT4 hT6 HT hS0 hS6 hSall hn5 hn6 hms HB4 HB6 kbr
      have htok : tokN pg z.ks pg.length ≤ 1000000 := by
        rw [← tok_mean]
        have hms := mk_small (pg := pg) (fun x hx => (HTOK.out x hx).2) pg.length
        rw [List.take_length] at hms
        have := HLK.out.1
        unfold tokN
        simp
        omega
      have hlr : ∀ W, Below w6.heap.size w6 W → Calls Try.prog 12 #[.slice A0 z.q.length c0, va, vb] W (Ret W (.int .i64 (rightI z.q.length pg z.ks z.vs))) := fun W hW => by
        have := r14_Right ((h.q.below hb06).below hW) (hrk.below hW) (hrv.below hW)
        rwa [right_mean _ (fun x hx => (HTOK.out x hx).1)] at this
      by_cases hr : rightI z.q.length pg z.ks z.vs = 0
      · have hfu := attn_Fused (h.q.below hb06) (pgs_below hsl hb16) (h.ks.below hb06) (h.vs.below hb06) htok (by omega) hr
        obtain ⟨_, _, f3, f4, _, _, f7, f8⟩ := right_facts hr
        rw [keys_mean f3 f7, vals_mean f3 f4.symm f8] at hfu
        have hrm : rightI z.q.length [] (mkL pg ++ z.ks) (mvL pg ++ z.vs) = 0 := by rw [right_mean _ (fun x hx => (HTOK.out x hx).1)]; exact hr
        have hfit := fits_of hrm
        have hga := fun W hW => attn_Gather (w := W) ((h.q.below hb06).below hW) (hrk.below hW) (hrv.below hW) (by have := hfit.2.1; omega) hrm
        have hrg := fun W hW => r14_Gather (w := W) ((h.q.below hb06).below hW) (hrk.below hW) (hrv.below hW) hfit
        rw [hr] at hlr
        generalize gatherI z.q (mkL pg ++ z.ks) (mvL pg ++ z.vs) = gl at *
        have HFU := Lib.hid hfu
        have HGA := Lib.hid hga
        have HRG := Lib.hid hrg
        have HLR := Lib.hid hlr
        clear hfu hga hrg hlr hr hrm hfit f3 f4 f7 f8 htok hrk hrv
        go_wp2_with (first
          | (go_at_call 11; refine (HFU.out).mono ?_; rintro e w7 ⟨hb7, v7, rfl, hs7⟩; obtain ⟨A11, c11, rfl, _, _⟩ := hs7.form; obtain ⟨x1, x2, _⟩ := cells_of (blk_below hb7 kb6))
          | (go_at_call 12; refine (HLR.out _ hb7).mono ?_; rintro e w' ⟨rfl, nq7, rfl⟩)
          | (go_at_call 13; refine (HGA.out _ (below_drewN hb7 _)).mono ?_; rintro e w8 ⟨hb8, v8, rfl, hs8⟩; have hb68 := (below_drewN hb7 nq7).trans (hb8.mono hb7.size); have hs78 := hs7.below ((drewN_below w7 nq7).trans hb8); obtain ⟨A12, c12, rfl, _, _⟩ := hs8.form; obtain ⟨y1, y2, _⟩ := cells_of (blk_below hb68 kb6)))
        have hsame : ∀ (W : World) (F G : Nat → Prop) (v v' : Value), Sl F W (IntV .i32) v gl → Sl G W (IntV .i32) v' gl → Calls Try.prog 14 #[v, v'] W (Ret W (.bool true)) := fun W F G v v' h1 h2 => by
          have := r03_Same h1 h2
          rwa [decide_eq_true rfl] at this
        have HSM := Lib.hid hsame
        clear hsame
        refine (HSM.out _ _ _ _ _ hs78 hs8).mono ?_
        rintro e w' ⟨rfl, nq8, rfl⟩
        go_wp2_with fail
        refine (HRG.out _ (below_drewN hb68 _)).mono ?_
        rintro e w9 ⟨hb9, v9, rfl, hs9⟩
        obtain ⟨A13, c13, rfl, _, _⟩ := hs9.form
        go_wp2_with fail
        refine (HSM.out _ _ _ _ _ (hs78.below ((drewN_below w8 nq8).trans hb9)) hs9).mono ?_
        rintro e w' ⟨rfl, nq9, rfl⟩
        go_wp2_with (go_at_call 6; refine (HAW.out _).mono ?_; rintro e w10 ⟨rfl, hb10⟩)
        go_ret
        have hb08 : Below w.heap.size w w8 := hb06.trans (hb68.mono hb06.size)
        have hb09 : Below w.heap.size w w9 := (below_drewN hb08 nq8).trans (hb9.mono hb08.size)
        exact ⟨by first | rfl | simp, (below_drewN hb09 nq9).trans (hb10.mono hb09.size)⟩
      · have hfu := attn_Fused_err (h.q.below hb06) (pgs_below hsl hb16) (h.ks.below hb06) (h.vs.below hb06) htok hr
        generalize rightI z.q.length pg z.ks z.vs = r at *
        have hr' : (r != 0) = true := by simpa using hr
        have HFU := Lib.hid hfu
        have HLR := Lib.hid hlr
        clear hfu hlr hr htok hrk hrv
        go_wp2_with (first
          | (go_at_call 11; refine (HFU.out).mono ?_; rintro e w7 ⟨hb7, rfl⟩; obtain ⟨x1, x2, _⟩ := cells_of (blk_below hb7 kb6))
          | (go_at_call 12; refine (HLR.out _ hb7).mono ?_; rintro e w' ⟨rfl, nq7, rfl⟩)
          | (go_at_call 6; refine (HAW.out _).mono ?_; rintro e w8 ⟨rfl, hb8⟩))
        go_ret
        have hb07 : Below w.heap.size w w7 := hb06.trans (hb7.mono hb06.size)
        exact ⟨by first | rfl | simp, (below_drewN hb07 nq7).trans (hb8.mono hb07.size)⟩
end Go.Proofs.Ytkepgkjbhdgbiaa
