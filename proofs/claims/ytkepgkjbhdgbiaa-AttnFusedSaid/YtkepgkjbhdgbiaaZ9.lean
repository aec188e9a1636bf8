/- Contracts of functions of the program, and what they need (Gath2, Fused). -/
import Derived.Test.YtkepgkjbhdgbiaaZ7
import Derived.Test.YtkepgkjbhdgbiaaZ8

namespace Go.Proofs.Ytkepgkjbhdgbiaa
open Go.RowKit

theorem step_call1 {P : Program} {ops : Array Oper} {o : Oper} {a : Act} {K : Act → World → Prop} {Q : Exit → Act → World → Prop} {E : Prop} {w : World} {f : FuncId} {ta : Operand} {ty : TypeId} {x v : Value}
    (hgd : o.guard = none) (ho : o.op = .call { callee := .value (.func f), args := #[ta], argTypes := #[ty] }) (hx : a.eval ta = x)
    (hf : (callFunc f #[x]).run P w = .ok (.enter f #[x]) w) (hc : Calls P f #[x] w (Ret w v)) (hn : ∀ nq, K (a.put o.dst v) (w.drewN nq)) :
    if Region.wanted o (yielded ops a.tmps) = true then Oper.wp P o a w K Q else E := by
  have hwn : Region.wanted o (yielded ops a.tmps) = true := by simp [Region.wanted, hgd]
  rw [if_pos hwn]
  have hrun : (execOp a.eval o).run P w = .ok (.enter f #[x]) w := by
    unfold execOp
    rw [ho]
    have hargs : (#[ta] : Array Operand).map a.eval = #[x] := by simp [hx]
    have hfn : a.eval (.func f) = .func (Fn.func f) #[] #[] := rfl
    simp only [resolve, invoke, hfn, hargs, Sem.run_bind]
    exact hf
  unfold Oper.wp
  rw [hrun, Oper.upon_enter]
  refine hc.mono ?_
  rintro e w' ⟨rfl, nq, rfl⟩
  exact hn nq

theorem at_inv {P : Program} {ops : Array Oper} {dst : Option Tmp} {r : Operand} {name : String} {ags : Array Operand} {ats : Array TypeId} {ty : TypeId} {pos : String} {af : Array Edge} {gd : Option (Nat × Bool)} {a : Act} {w : World} {K : Act → World → Prop} {Q : Exit → Act → World → Prop} {E : Prop}
    (h : if Region.wanted ⟨dst, .call ⟨.invoke r name, ags, ats⟩, ty, pos, af, gd⟩ (yielded ops a.tmps) = true then Oper.wp P ⟨dst, .call ⟨.invoke r name, ags, ats⟩, ty, pos, af, gd⟩ a w K Q else E) :
    if Region.wanted ⟨dst, .call ⟨.invoke r name, ags, ats⟩, ty, pos, af, gd⟩ (yielded ops a.tmps) = true then Oper.wp P ⟨dst, .call ⟨.invoke r name, ags, ats⟩, ty, pos, af, gd⟩ a w K Q else E := h

theorem below_undrew {B : Nat} {w w' : World} (h : Below B w.drew w') : Below B w w' := ⟨h.os, h.tape, h.output, h.size, h.block⟩

theorem offs_le (all : List Src) (k : Nat) : offs all k ≤ (all.map Src.count).sum := by
  unfold offs; rw [List.map_take]; exact sum_take_le _ _

set_option maxRecDepth 100000 in
set_option maxHeartbeats 8000000 in
theorem attn_gather {F G : Nat → Prop} {w : World} {v u : Value} {ws : List Int} {all : List Src} (d : Nat) (h : Sl F w (IntV .i64) v ws) (ha : Sl G w (SrcV G w) u all) (hd : ∀ s ∈ all, s.wide d) (h1 : 1 ≤ d) (h2 : d ≤ 16)
    (hc : (all.map Src.count).sum ≤ 1024) (hlen : ws.length = (all.map Src.count).sum) (hw : ∀ x ∈ ws, 0 ≤ x ∧ x ≤ 65536) (hs : 0 < sumL ws) : Calls Try.prog 25 #[v, u, .int .i64 d] w (RetSl w (fun _ => IntV .i32) (mixL ws (valsL all d) d)) := by
  obtain ⟨A, c, rfl, hc1, hm1⟩ := h.form
  obtain ⟨A2, c2, rfl, hc2, hm2⟩ := Sl.form ha
  have hs2 : sumL ws ≤ 67108864 := (sum_bd hw (k := ws.length) (by omega)).2
  have HC := Lib.hid hc
  have HL := Lib.hid hlen
  have hwl : ws.length ≤ 1024 := by omega
  clear hc hlen
  have hmk := make_run 101 2 (.int .i64 0) 8 Try.underlying101 info_int64 rfl d (by omega) (by omega)
  go_enter Try.func25, Try.ntmps25
  go_upto_region 3 with fail
  clear hmk
  go_loopg [8, 20] all.length (fun g v8 v20 wr => ∃ k : Nat, k ≤ all.length ∧ v20 = .int .i64 k ∧ g = all.length - k ∧ v8 = .int .i64 (offs all k : Nat) ∧
    wr.ownsRow w.heap.size 2 1 (.slice (some ⟨w.heap.size, 0, none⟩) d d) d (nums .i64 (sumRow ws (valsL all d) d (offs all k) 0)) ∧ Below w.heap.size w wr)
  case atStart => exact ⟨0, Nat.zero_le _, rfl, by omega, rfl, by rw [show offs all 0 = 0 by rfl, sumRow_zero, ← nums_repl]; exact own_made w _ _ _ _ (Nat.le_refl _) (by omega), (Below.refl _ _).alloc (Nat.le_refl _) _⟩
  case round =>
    obtain ⟨k, hk, rfl, hg, rfl, HO, HB⟩ := hrel
    have HG := Lib.hid hg
    clear hg
    obtain ⟨wo, hwo⟩ : ∃ wo : World, wo = wr := ⟨_, rfl⟩
    subst hwo
    by_cases hlt : k < all.length
    · obtain ⟨ad, us, rfl, _, hus0, hsv⟩ := Sl.at_ ha rfl hlt
      have hus := cell_below HB hus0
      clear hus0
      have hwide := hd _ (List.getElem_mem hlt)
      have hcnt := count_take all hlt
      have hoff := offs_succ hlt
      have hvg := fun t i (ht : t < all[k].count) (hi : i < d) => vals_get (all := all) hlt ht hi
      change offs all k + _ ≤ _ at hcnt
      generalize all[k] = s at *
      have HOF := Lib.hid hoff
      have HV := Lib.hid hvg
      have HCN := Lib.hid hcnt
      clear hoff hvg hcnt
      generalize offs all k = n0 at *
      go_upto_region 6 with (with_reducible change wpList _ _ _ (_ :: _) _ _; refine inv_count (hsv.below HB) (.tmp 24) rfl rfl rfl ?_; intro w1 hb1)
      have HB1 : Below w.heap.size w w1 := HB.trans (hb1.mono HB.size)
      have HO1 := own_below HO hb1
      clear hus HO HB hb1
      go_loopg [8, 26] s.count (fun g v8 v26 wr => ∃ t N : Nat, t ≤ s.count ∧ v26 = .int .i64 t ∧ g = s.count - t ∧ N = n0 + t ∧ v8 = .int .i64 N ∧
        wr.ownsRow w.heap.size 2 1 (.slice (some ⟨w.heap.size, 0, none⟩) d d) d (nums .i64 (sumRow ws (valsL all d) d N 0)) ∧ Below w.heap.size w wr)
      case atStart => exact ⟨0, n0, Nat.zero_le _, rfl, by omega, rfl, rfl, HO1, HB1⟩
      case round =>
        obtain ⟨t, N, ht, rfl, hg, hN, rfl, HO, HB⟩ := hrel
        have HG2 := Lib.hid hg
        have HN := Lib.hid hN
        clear hg hN HO1 HB1
        obtain ⟨wt, hwt⟩ : ∃ wt : World, wt = wr := ⟨_, rfl⟩
        subst hwt
        by_cases hlt2 : t < s.count
        · have hct : s.count ≤ 1024 := by have := HCN.out; have := HL.out; omega
          have hnt : N < ws.length := by have := HCN.out; have := HL.out; have := HN.out; omega
          go_upto_region 9 with fail
          go_loopg [31] d (fun g v31 wr => ∃ i : Nat, i ≤ d ∧ v31 = .int .i64 i ∧ g = d - i ∧
            wr.ownsRow w.heap.size 2 1 (.slice (some ⟨w.heap.size, 0, none⟩) d d) d (nums .i64 (sumRow ws (valsL all d) d N i)) ∧ Below w.heap.size w wr)
          case atStart => exact ⟨0, Nat.zero_le _, rfl, by omega, HO, HB⟩
          case round =>
            obtain ⟨i, hi, rfl, hg, HO, HB⟩ := hrel
            have HG3 := Lib.hid hg
            clear hg
            by_cases hlt3 : i < d
            · obtain ⟨ad4, u4, rfl, _, hu4, rfl, hx1, hx2⟩ := (h.below HB).at_ rfl hnt
              obtain ⟨hl2, hcell, hfz⟩ := own_get HO hlt3
              have hold : (nums .i64 (sumRow ws (valsL all d) d N i))[i]'hl2 = .int .i64 (sumAt ws (valsL all d) i N) := by
                simp only [nums, List.getElem_map]; rw [sumRow_get ws _ hlt3, if_neg (by omega)]
              rw [hold] at hcell
              obtain ⟨s1, s2⟩ := mix_sum (i := i) hw (vals_nar all d) (k := N) (by omega)
              have hp := mix_term (i := i) (k := N) hw (vals_nar all d)
              have e1 := HV.out t i hlt2 hlt3
              rw [← HN.out] at e1
              rw [getD_at hnt, e1] at hp
              have hset := sumRow_set ws (valsL all d) (n := N) hlt3
              have hs : sumAt ws (valsL all d) i (N + 1) = sumAt ws (valsL all d) i N + ws[N] * narrowI (s.val t i) := by rw [← getD_at hnt, ← e1]; rfl
              rw [hs] at hset
              change -562949953421312 ≤ sumAt ws (valsL all d) i N at s1
              change sumAt ws (valsL all d) i N ≤ 562949953421312 at s2
              obtain ⟨_, k1, k2⟩ := inv_key_in hsv hwide t i hlt2 hlt3
              generalize sumAt ws (valsL all d) i N = sm at *
              generalize ws[N] = x at *
              obtain ⟨p1, p2⟩ := hp
              have HSE := Lib.hid hset
              have hsw := hsv.below HB
              have hn := narrow_bd (s.val t i)
              obtain ⟨n1, n2⟩ := hn
              clear hset hs e1 hold hl2 HG2
              have hbr : Below wr.heap.size wr wr := Below.refl _ _
              have c1 : ∀ W, Below wr.heap.size wr W → W.cell? ⟨w.heap.size, i, none⟩ = some (.int .i64 sm) := fun W hW => cell_below hW hcell
              have c2 : ∀ W, Below wr.heap.size wr W → W.frozen? ⟨w.heap.size, i, none⟩ = false := fun W hW => (hW.frozen (p := ⟨w.heap.size, i, none⟩) (World.block_lt_of_cell? _ _ hcell)).trans hfz
              have c3 : ∀ W, Below wr.heap.size wr W → W.cell? (ad4.add N) = some (.int .i64 x) := fun W hW => cell_below hW hu4
              clear hcell hfz hu4
              have q1 : IntKind.i64.wrap (x * narrowI (s.val t i)) = x * narrowI (s.val t i) := IntWalk.i64_in _ (by omega)
              have q2 : IntKind.i64.wrap (sm + x * narrowI (s.val t i)) = sm + x * narrowI (s.val t i) := IntWalk.i64_in _ (by omega)
              go_upto_block 5 with fail
              go_cut [12] from 33 to 49 (fun _ wx => ∃ w2 nq, Below wr.heap.size wr w2 ∧ wx = (World.drewN w2 nq).setCell ⟨w.heap.size, i, none⟩ (.int .i64 (sm + x * narrowI (s.val t i))))
              case first =>
                go_upto_region 11 with fail
                clear HC HL hs2 hwl HCN HOF HV HN HG HG3 HSE hm1 hm2 hc1 hc2 ha hd hw hs
                refine AnyX.begin (z := 16) (S := fun W => W.cell? ⟨w.heap.size, i, none⟩ = some (.int .i64 sm) ∧ W.frozen? ⟨w.heap.size, i, none⟩ = false ∧ W.cell? (ad4.add N) = some (.int .i64 x) ∧ Below wr.heap.size wr W) (by kernel_rfl) ?_
                have hS0 : (fun W : World => W.cell? ⟨w.heap.size, i, none⟩ = some (.int .i64 sm) ∧ W.frozen? ⟨w.heap.size, i, none⟩ = false ∧ W.cell? (ad4.add N) = some (.int .i64 x) ∧ Below wr.heap.size wr W) { wr with drawn := wr.drawn + 1 } := ⟨c1 _ (Below.drew hbr), c2 _ (Below.drew hbr), c3 _ (Below.drew hbr), Below.drew hbr⟩
                refine AnyX.take' (i := 0) (v := ?v0) (some 34) rfl rfl (by kernel_rfl) (by kernel_rfl) (by kernel_rfl) (by kernel_rfl) (waits (k := 0) (r := []) (by kernel_rfl) rfl rfl) (fun _ _ _ h => h) (Or.inl ⟨by rfl, ?hy0⟩) hS0 ?rest0
                case hy0 => (intro w hSw; (try dsimp only at hSw); go_simp; try with_reducible rfl)
                simp only [Act.put, List.setIfInBounds_toArray, List.set_cons_zero, List.set_cons_succ]
                refine AnyX.take' (i := 1) (v := ?v1) (some 35) rfl rfl (by kernel_rfl) (by kernel_rfl) (by kernel_rfl) (by kernel_rfl) (waits (k := 1) (r := []) (by kernel_rfl) rfl rfl) (fun _ _ _ h => h) (Or.inl ⟨by rfl, ?hy1⟩) hS0 ?rest1
                case hy1 => (intro w hSw; (try dsimp only at hSw); go_simp; try with_reducible rfl)
                simp only [Act.put, List.setIfInBounds_toArray, List.set_cons_zero, List.set_cons_succ]
                refine AnyX.take' (i := 2) (v := ?v2) (some 36) rfl rfl (by kernel_rfl) (by kernel_rfl) (by kernel_rfl) (by kernel_rfl) (waits (k := 2) (r := []) (by kernel_rfl) rfl rfl) (fun _ _ _ h => h) (Or.inl ⟨by rfl, ?hy2⟩) hS0 ?rest2
                case hy2 => (intro w hSw; (try dsimp only at hSw); go_simp; try with_reducible rfl)
                simp only [Act.put, List.setIfInBounds_toArray, List.set_cons_zero, List.set_cons_succ]
                refine AnyX.take' (i := 3) (v := ?v3) (some 37) rfl rfl (by kernel_rfl) (by kernel_rfl) (by kernel_rfl) (by kernel_rfl) (waits (k := 3) (r := []) (by kernel_rfl) rfl rfl) (fun _ _ _ h => h) (Or.inl ⟨by rfl, ?hy3⟩) hS0 ?rest3
                case hy3 => (intro w hSw; (try dsimp only at hSw); go_simp; try with_reducible rfl)
                simp only [Act.put, List.setIfInBounds_toArray, List.set_cons_zero, List.set_cons_succ]
                refine AnyX.take' (i := 4) (v := ?v4) (some 38) rfl rfl (by kernel_rfl) (by kernel_rfl) (by kernel_rfl) (by kernel_rfl) (waits (k := 4) (r := []) (by kernel_rfl) rfl rfl) (fun _ _ _ h => h) (Or.inl ⟨by rfl, ?hy4⟩) hS0 ?rest4
                case hy4 => (intro w hSw; (try dsimp only at hSw); go_simp; try with_reducible rfl)
                simp only [Act.put, List.setIfInBounds_toArray, List.set_cons_zero, List.set_cons_succ]
                refine AnyX.take' (i := 5) (v := ?v5) (some 39) rfl rfl (by kernel_rfl) (by kernel_rfl) (by kernel_rfl) (by kernel_rfl) (waits (k := 5) (r := []) (by kernel_rfl) rfl rfl) (fun _ _ _ h => h) (Or.inl ⟨by rfl, ?hy5⟩) hS0 ?rest5
                case hy5 => (intro w hSw; (try dsimp only at hSw); go_simp; try with_reducible rfl)
                simp only [Act.put, List.setIfInBounds_toArray, List.set_cons_zero, List.set_cons_succ]
                refine AnyX.take' (i := 6) (v := ?v6) (some 40) rfl rfl (by kernel_rfl) (by kernel_rfl) (by kernel_rfl) (by kernel_rfl) (waits (k := 6) (r := []) (by kernel_rfl) rfl rfl) (fun _ _ _ h => h) (Or.inl ⟨by rfl, ?hy6⟩) hS0 ?rest6
                case hy6 => (intro w hSw; (try dsimp only at hSw); go_simp; try with_reducible rfl)
                simp only [Act.put, List.setIfInBounds_toArray, List.set_cons_zero, List.set_cons_succ]
                refine AnyX.take' (i := 7) (v := ?v7) (some 41) rfl rfl (by kernel_rfl) (by kernel_rfl) (by kernel_rfl) (by kernel_rfl) (waits (k := 7) (r := []) (by kernel_rfl) rfl rfl) (fun _ _ _ h => h) (Or.inl ⟨by rfl, ?hy7⟩) hS0 ?rest7
                case hy7 => (intro w hSw; (try dsimp only at hSw); go_simp; try with_reducible rfl)
                simp only [Act.put, List.setIfInBounds_toArray, List.set_cons_zero, List.set_cons_succ]
                refine AnyX.take' (i := 8) (v := ?v8) (some 42) rfl rfl (by kernel_rfl) (by kernel_rfl) (by kernel_rfl) (by kernel_rfl) (waits (k := 8) (r := []) (by kernel_rfl) rfl rfl) (fun _ _ _ h => h) (Or.inl ⟨by rfl, ?hy8⟩) hS0 ?rest8
                case hy8 => (intro w hSw; (try dsimp only at hSw); go_simp; try with_reducible rfl)
                simp only [Act.put, List.setIfInBounds_toArray, List.set_cons_zero, List.set_cons_succ]
                refine AnyX.take' (i := 9) (v := ?v9) (some 43) rfl rfl (by kernel_rfl) (by kernel_rfl) (by kernel_rfl) (by kernel_rfl) (waits (k := 9) (r := []) (by kernel_rfl) rfl rfl) (fun _ _ _ h => h) (Or.inl ⟨by rfl, ?hy9⟩) hS0 ?rest9
                case hy9 => (intro w hSw; (try dsimp only at hSw); go_simp; try with_reducible rfl)
                simp only [Act.put, List.setIfInBounds_toArray, List.set_cons_zero, List.set_cons_succ]
                refine AnyX.take' (i := 10) (v := ?v10) (some 44) rfl rfl (by kernel_rfl) (by kernel_rfl) (by kernel_rfl) (by kernel_rfl) (waits (k := 10) (r := []) (by kernel_rfl) rfl rfl) (fun _ _ _ h => h) (Or.inl ⟨by rfl, ?hy10⟩) hS0 ?rest10
                case hy10 => (intro w hSw; (try dsimp only at hSw); go_simp; try with_reducible rfl)
                simp only [Act.put, List.setIfInBounds_toArray, List.set_cons_zero, List.set_cons_succ]
                refine AnyX.one (i := 11) (by kernel_rfl) rfl (fun K' hK => ?_)
                have hsw2 : SrcV G { wr with drawn := wr.drawn + 1 } us s := hsw.below (Below.drew hbr)
                refine step_value hsw2 hwide t i hlt2 hlt3 (.tmp 42) (.tmp 43) (.tmp 44) ?g1 ?g2 ?g3 ?g4 ?g5 ?_
                case g1 => rfl
                case g2 => rfl
                case g3 => rfl
                case g4 => rfl
                case g5 => rfl
                intro w2 hb2
                replace hb2 : Below wr.heap.size wr w2 := below_undrew hb2
                refine hK _ _ (.inr ⟨c1 _ hb2, c2 _ hb2, c3 _ hb2, hb2⟩) ?_
                simp only [Act.put, List.setIfInBounds_toArray, List.set_cons_zero, List.set_cons_succ]
                refine AnyX.one (i := 12) (by kernel_rfl) rfl (fun K' hK => ?_)
                refine step_call1 (f := 45) (ta := .tmp 45) (ty := 21) (x := .int .i32 (s.val t i)) ?g6 ?g7 ?g8 ?g9 (attn_narrow _ _ k1 k2) ?_
                case g6 => rfl
                case g7 => rfl
                case g8 => rfl
                case g9 => kernel_rfl
                intro nq
                have hS1 : (fun W : World => W.cell? ⟨w.heap.size, i, none⟩ = some (.int .i64 sm) ∧ W.frozen? ⟨w.heap.size, i, none⟩ = false ∧ W.cell? (ad4.add N) = some (.int .i64 x) ∧ Below wr.heap.size wr W) (w2.drewN nq) := ⟨c1 _ (below_drewN hb2 _), c2 _ (below_drewN hb2 _), c3 _ (below_drewN hb2 _), below_drewN hb2 _⟩
                refine hK _ _ (.inr hS1) ?_
                simp only [Act.put, List.setIfInBounds_toArray, List.set_cons_zero, List.set_cons_succ]
                refine AnyX.take' (i := 13) (v := ?v13) (some 47) rfl rfl (by kernel_rfl) (by kernel_rfl) (by kernel_rfl) (by kernel_rfl) (waits (k := 13) (r := []) (by kernel_rfl) rfl rfl) (fun _ _ _ h => h) (Or.inl ⟨by rfl, ?hy13⟩) hS1 ?rest13
                case hy13 => (intro w hSw; (try dsimp only at hSw); go_simp; try with_reducible rfl)
                simp only [Act.put, List.setIfInBounds_toArray, List.set_cons_zero, List.set_cons_succ]
                refine AnyX.take' (i := 14) (v := .int .i64 (sm + x * narrowI (s.val t i))) (some 48) rfl rfl (by kernel_rfl) (by kernel_rfl) (by kernel_rfl) (by kernel_rfl) (waits (k := 14) (r := []) (by kernel_rfl) rfl rfl) (fun _ _ _ h => h) (Or.inl ⟨by rfl, ?hy14⟩) hS1 ?rest14
                case hy14 => (intro w hSw; clear q1; generalize x * narrowI (s.val t i) = pr at *; (try dsimp only at hSw); go_simp; try with_reducible rfl)
                simp only [Act.put, List.setIfInBounds_toArray, List.set_cons_zero, List.set_cons_succ]
                refine AnyX.take' (i := 15) (v := ?v15) (some 49) rfl rfl (by kernel_rfl) (by kernel_rfl) (by kernel_rfl) (by kernel_rfl) (waits (k := 15) (r := []) (by kernel_rfl) rfl rfl) (fun _ _ _ h => h) (Or.inl ⟨by rfl, ?hy15⟩) hS1 ?rest15
                case hy15 => (intro w hSw; (try dsimp only at hSw); go_simp; try with_reducible rfl)
                simp only [Act.put, List.setIfInBounds_toArray, List.set_cons_zero, List.set_cons_succ]
                obtain ⟨d1, d2, _, _⟩ := hS1
                refine AnyX.last (i := 16) (fuel := 0) (o := ?oo) ?ga ?gb ?gc rfl ?gd
                case gb => rfl
                case ga => kernel_rfl
                case gc => kernel_rfl
                case gd =>
                  intro K' hK
                  go_simp
                  refine hK _ _ ?_
                  go_wp2_with fail
                  go_meet
                  exact ⟨w2, nq, hb2, rfl⟩
              case rest =>
                obtain ⟨w2, nq, hb2, rfl⟩ := hcut
                clear q1 q2 c1 c2 c3
                go_wp2
                go_roundg (d - (i + 1))
                case rel => exact ⟨i + 1, by omega, by go_num, by omega, by rw [← HSE.out, ← nums_set]; exact ((own_drewN (own_below HO hb2) nq).stored i _).1, (below_drewN (HB.trans (hb2.mono HB.size)) _).setCell (p := ⟨w.heap.size, i, none⟩) (Nat.le_refl _) _⟩
                case measure => rw [HG3.out]; omega
            · obtain rfl : i = d := by omega
              rw [sumRow_all] at HO
              go_wp2
              go_roundg (s.count - (t + 1))
              case rel => exact ⟨t + 1, N + 1, by omega, by go_num, by omega, by have := HN.out; omega, by go_num, HO, HB⟩
              case measure => rw [HG2.out]; omega
        · obtain rfl : t = s.count := by omega
          go_wp2
          go_roundg (all.length - (k + 1))
          case rel => exact ⟨k + 1, by omega, by go_num, by omega, by rw [HN.out, HOF.out], by rw [HOF.out, ← HN.out]; exact HO, HB⟩
          case measure => rw [HG.out]; omega
    · obtain rfl : k = all.length := by omega
      have hof : offs all all.length = ws.length := by rw [HL.out]; unfold offs; rw [List.take_length]
      rw [hof] at HO
      clear hof
      have hmk2 := make_run 22 21 (.int .i32 0) 4 Try.underlying22 info_i32 rfl d (by omega) (by omega)
      have hoo := offs_le all all.length
      have hso : offs all all.length ≤ 1024 := by have := HC.out; omega
      go_upto_region 18 with fail
      clear hmk2 hoo
      have HB0 := HB
      go_loopg [59] d (fun g v59 wx => ∃ i : Nat, i ≤ d ∧ v59 = .int .i64 i ∧ g = d - i ∧
        wx.ownsRow w.heap.size 2 1 (.slice (some ⟨w.heap.size, 0, none⟩) d d) d (nums .i64 (sumRow ws (valsL all d) d ws.length 0)) ∧
        wx.ownsRow wo.heap.size 21 1 (.slice (some ⟨wo.heap.size, 0, none⟩) d d) d (nums .i32 ((List.range i).map (mixAt ws (valsL all d)) ++ List.replicate (d - i) 0)) ∧ Below w.heap.size w wx)
      case atStart => exact ⟨0, Nat.zero_le _, rfl, by omega, HO.alloc _, by simpa [← nums_repl] using own_made wo _ _ _ _ (Nat.le_refl _) (by omega), HB.alloc HB.size _⟩
      case round =>
        obtain ⟨i, hi, rfl, hg, HS1, HO1, HBx⟩ := hrel
        have HG := Lib.hid hg
        clear hg
        by_cases hlt : i < d
        · obtain ⟨hl2, hcell, hfz⟩ := own_get HS1 hlt
          obtain ⟨hl3, hcell3, hfz3⟩ := own_get HO1 hlt
          have hvl : (valsL all d).length = ws.length := by unfold valsL; rw [List.length_map, flat_len]; exact HL.out.symm
          have hold : (nums .i64 (sumRow ws (valsL all d) d ws.length 0))[i]'hl2 = .int .i64 (sumAt ws (valsL all d) i ws.length) := by
            simp only [nums, List.getElem_map]; rw [sumRow_get ws _ hlt, if_neg (by omega)]
          rw [hold] at hcell
          have hnew : nums .i32 ((List.range (i + 1)).map (mixAt ws (valsL all d)) ++ List.replicate (d - (i + 1)) 0) = (nums .i32 ((List.range i).map (mixAt ws (valsL all d)) ++ List.replicate (d - i) 0)).set i (.int .i32 (narrowI (ratioI (sumAt ws (valsL all d) i ws.length) (sumL ws)))) := by
            rw [nums_set, List.set_append_right _ _ (by simp), show d - i = (d - (i + 1)) + 1 by omega, List.replicate_succ]
            simp [List.range_succ, mixAt, sumAt, hvl]
          obtain ⟨s1, s2⟩ := mix_sum (i := i) hw (vals_nar all d) (k := ws.length) (by omega)
          change -562949953421312 ≤ sumAt ws (valsL all d) i ws.length at s1
          change sumAt ws (valsL all d) i ws.length ≤ 562949953421312 at s2
          have hsumc := fun W hW => soft_Sum (w := W) (h.below hW) hwl hw
          have HSC := Lib.hid hsumc
          have hne : w.heap.size ≠ wo.heap.size := by
            have := own_lt HO w.heap.size rfl
            omega
          generalize sumAt ws (valsL all d) i ws.length = sm at *
          generalize (nums .i32 ((List.range i).map (mixAt ws (valsL all d)) ++ List.replicate (d - i) 0))[i] = old at hcell3
          have HN := Lib.hid hnew
          have HNE := Lib.hid hne
          clear hnew hold hl2 hl3 hsumc hne hvl
          generalize sumL ws = den at *
          go_wp2_with (first
            | (go_at_call 48; refine (HSC.out _ HBx).mono ?_; rintro e w' ⟨rfl, nq, rfl⟩)
            | (go_at_call 47; refine (fix_Ratio _ _ _ ⟨by omega, by omega⟩ hs (by omega)).mono ?_; rintro e w' ⟨rfl, nq, rfl⟩)
            | (go_at_call 46; refine (fix_Narrow _ _).mono ?_; rintro e w' ⟨rfl, nq, rfl⟩))
          go_roundg (d - (i + 1))
          case rel =>
            refine ⟨i + 1, by omega, by go_num, by omega, ?_, ?_, ?_⟩
            · refine (own_drewN HS1 _).kept (row := some wo.heap.size) ((own_drewN HO1 _).stored i _).2 (.inr ?_)
              simp only [Value.ownBlock]
              intro e
              injection e with e
              exact HNE.out e
            · rw [HN.out]; exact ((own_drewN HO1 _).stored i _).1
            · exact (below_drewN HBx _).setCell (p := ⟨wo.heap.size, i, none⟩) (Nat.le_trans HB0.size (Nat.le_refl _)) _
          case measure => rw [HG.out]; omega
        · obtain rfl : i = d := by omega
          rw [Nat.sub_self, List.replicate_zero, List.append_nil] at HO1
          go_wp2
          go_ret
          exact ⟨HBx, _, rfl, (Sl.ints HO1 (mixL_in ws _ _)).keep (fun _ _ _ => rfl) (fun b _ h => Nat.le_trans HB0.size h) (fun _ _ _ h => h)⟩
end Go.Proofs.Ytkepgkjbhdgbiaa

namespace Go.Proofs.Ytkepgkjbhdgbiaa
open Go.RowKit

theorem attn_sized (n : Nat) (w : World) : Calls Try.prog 34 #[.int .i64 n] w (Ret w (.bool (decide (1 ≤ n ∧ n ≤ 16)))) := by
  by_cases h1 : 1 ≤ n
  · by_cases h2 : n ≤ 16
    · rw [decide_eq_true ⟨h1, h2⟩]
      have e1 : (1 : Int) ≤ n := by omega
      have e2 : (n : Int) ≤ 16 := by omega
      clear h1 h2
      go_enter Try.func34, Try.ntmps34
      go_wp2
      go_ret
      exact ⟨by simp only [*]; rfl, 0, rfl⟩
    · rw [decide_eq_false (fun h => h2 h.2)]
      have e1 : (1 : Int) ≤ n := by omega
      have e2 : ¬ (n : Int) ≤ 16 := by omega
      clear h1 h2
      go_enter Try.func34, Try.ntmps34
      go_wp2
      go_ret
      exact ⟨by simp only [*]; rfl, 0, rfl⟩
  · rw [decide_eq_false (fun h => h1 h.1)]
    have e1 : ¬ (1 : Int) ≤ n := by omega
    clear h1
    go_enter Try.func34, Try.ntmps34
    go_wp2
    go_ret
    exact ⟨rfl, 0, rfl⟩

/-- Are all lists of so many numbers? -/
def allLen (ll : List (List Int)) (n : Nat) : Bool := ll.all fun l => l.length == n
theorem attn_shaped {F : Nat → Prop} {w : World} {v : Value} {ll : List (List Int)} (h : Rows F w v ll) (n : Nat) : Calls Try.prog 41 #[v, .int .i64 n] w (Ret w (.bool (allLen ll n))) := by
  obtain ⟨A, c, rfl, hc, hm⟩ := Sl.form h
  go_enter Try.func41, Try.ntmps41
  go_wp2
  go_loopg [9] ll.length (fun g v9 wr => ∃ k : Nat, k ≤ ll.length ∧ v9 = .int .i64 k ∧ g = ll.length - k ∧ (∀ j (hj : j < k) (hl : j < ll.length), ll[j].length = n) ∧ ∃ nd, wr = w.drewN nd)
  case atStart => exact ⟨0, Nat.zero_le _, rfl, by omega, fun j hj => by omega, 0, rfl⟩
  case round =>
    obtain ⟨k, hk, rfl, hg, he, nd, rfl⟩ := hrel
    have HG := Lib.hid hg
    have HE := Lib.hid he
    clear hg he
    by_cases hlt : k < ll.length
    · obtain ⟨ad, A', c', rfl, hu, hr, _, _⟩ := h.row hlt
      generalize hx : ll[k].length = m at hu hr
      have HX := Lib.hid hx
      clear hx hr
      by_cases hmn : m = n
      · subst hmn
        go_wp2
        go_roundg (ll.length - (k + 1))
        case rel => exact ⟨k + 1, by omega, by go_num, by omega, fun j hj hl => by
          rcases Nat.lt_or_ge j k with h | h
          · exact HE.out j h hl
          · obtain rfl : j = k := by omega
            exact HX.out, (by first | exact ⟨_, rfl⟩ | exact ⟨_, World.drewN_drewN ..⟩ | exact ⟨_, (World.drewN_drewN ..).trans (World.drewN_drewN ..)⟩)⟩
        case measure => rw [HG.out]; omega
      · have hmn' : ((m : Int) != (n : Int)) = true := by simp; omega
        have hf : allLen ll n = false := by
          unfold allLen
          rw [List.all_eq_false]
          exact ⟨ll[k], List.getElem_mem hlt, by simp; rw [HX.out]; exact hmn⟩
        have HF := Lib.hid hf
        clear hf hmn
        go_wp2
        go_ret
        rw [HF.out]
        exact ⟨rfl, (by first | exact ⟨_, rfl⟩ | exact ⟨_, World.drewN_drewN ..⟩ | exact ⟨_, (World.drewN_drewN ..).trans (World.drewN_drewN ..)⟩)⟩
    · obtain rfl : k = ll.length := by omega
      have ht : allLen ll n = true := by
        unfold allLen
        rw [List.all_eq_true]
        intro x hx
        obtain ⟨j, hj, rfl⟩ := List.getElem_of_mem hx
        simpa using HE.out j hj hj
      have HT := Lib.hid ht
      clear ht
      go_wp2
      go_ret
      rw [HT.out]
      exact ⟨rfl, (by first | exact ⟨_, rfl⟩ | exact ⟨_, World.drewN_drewN ..⟩ | exact ⟨_, (World.drewN_drewN ..).trans (World.drewN_drewN ..)⟩)⟩
end Go.Proofs.Ytkepgkjbhdgbiaa
