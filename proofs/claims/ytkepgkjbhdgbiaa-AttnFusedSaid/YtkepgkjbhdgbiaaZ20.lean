/- Contracts of functions of the program, and what they need (QRefP, QRefK). -/
import Derived.Test.YtkepgkjbhdgbiaaZ19

namespace Go.Proofs.Ytkepgkjbhdgbiaa
open Go.RowKit

theorem info_rg : (Try.prog.info? 58).map (fun i => (i.zero, i.size, i.bytes)) = some (some (.agg #[.int .i32 0, .int .u32 0, .slice none 0 0]), 3, 32) := by kernel_rfl

theorem OwnN.set {w : World} {B : Nat} {e : TypeId} {v : Value} {l : List Gr} {X : List (Option Nat)} {a : Addr} (h : OwnN w B e 3 (GrR (Fx B X) w) v l) (ha : a.block < B) (u : Value) : OwnN (w.setCell a u) B e 3 (GrR (Fx B X) (w.setCell a u)) v l := by
  obtain ⟨xs, h1, h2, h3⟩ := h
  exact ⟨xs, ownsRow_setCell_below h1 ha u, h2, fun j x hj => (h3 j x hj).keep (fun b _ hf => Below.heap_setCell _ _ _ _ (by have := hf.1; omega)) (fun _ _ h => h)⟩

/-- A page as the document has it. -/
def RpgV (F : Nat → Prop) (w : World) (u : Value) (h : Hd) (ks vs : List Gr) : Prop :=
  ∃ kv vv, u = .agg #[.int .i64 h.kb, .int .i64 h.vb, .int .i64 h.tokens, .int .i64 h.dim, .int .i64 h.layer, .int .i64 h.head, .int .i64 h.index, kv, vv] ∧ SlN F w 3 (GrR F w) kv ks ∧ SlN F w 3 (GrR F w) vv vs

def hd9 (kb vb t d ly hd ix : Int) (k v : Value) : Array Value := #[.int .i64 kb, .int .i64 vb, .int .i64 t, .int .i64 d, .int .i64 ly, .int .i64 hd, .int .i64 ix, k, v]

set_option maxRecDepth 100000 in
set_option maxHeartbeats 4000000 in
theorem r08_Quantize {F G : Nat → Prop} {w : World} {v1 v2 : Value} {ks vs : List (List Int)} (kb vb t d : Nat) (ly hd ix : Int) (h1 : Rows F w v1 ks) (h2 : Rows G w v2 vs)
    (ho : HdOk ⟨kb, vb, t, d, ly, hd, ix⟩) (hk : numB ks t d = true) (hv : numB vs t d = true) :
    Calls Try.prog 7 #[.agg (hdCells ⟨kb, vb, t, d, ly, hd, ix⟩), v1, v2] w (fun e w' => Below w.heap.size w w' ∧ ∃ u, e = .returned u ∧ RpgV (fun b => w.heap.size ≤ b) w' u ⟨kb, vb, t, d, ly, hd, ix⟩ ((List.range d).map fun i => quantG kb (colL ks i)) (vs.map (quantG vb))) := by
  obtain ⟨A1, c1, rfl, _, _⟩ := Sl.form h1
  obtain ⟨A2, c2, rfl, _, _⟩ := Sl.form h2
  obtain ⟨b1, b2, ⟨t1, t2⟩, ⟨d1, d2⟩, _⟩ := ho
  dsimp only at b1 b2 t1 t2 d1 d2
  have hkb : BitsN kb := by unfold BitsN; omega
  have hvb : BitsN vb := by unfold BitsN; omega
  have hnum : ∀ {ll : List (List Int)}, numB ll t d = true → ll.length = t ∧ ∀ l ∈ ll, l.length = d := by
    intro ll h
    unfold numB allLen at h
    rw [Bool.and_eq_true, List.all_eq_true] at h
    exact ⟨by simpa using h.2, fun l hl => by simpa using h.1 l hl⟩
  have HKN := Lib.hid (hnum hk)
  have HVN := Lib.hid (hnum hv)
  have HIK := Lib.hid h1.inK
  have HIV := Lib.hid h2.inK
  clear hk hv hnum b1 b2
  unfold hdCells at *
  go_enter Try.func7, Try.ntmps7
  go_wp2
  go_loopg [8] d (fun g v8 wr => ∃ (k : Nat) (kv : Value), k ≤ d ∧ v8 = .int .i64 k ∧ g = d - k ∧
    wr.heap[w.heap.size]? = some (.cells #[.int .i64 kb, .int .i64 vb, .int .i64 t, .int .i64 d, .int .i64 ly, .int .i64 hd, .int .i64 ix] 34 (0, 0)) ∧
    wr.heap[w.heap.size + 1]? = some (.cells (hd9 0 0 0 0 0 0 0 (.slice none 0 0) (.slice none 0 0)) 37 (0, 0)) ∧
    wr.heap[w.heap.size + 2]? = some (.cells (hd9 kb vb t d ly hd ix kv (.slice none 0 0)) 37 (0, 0)) ∧
    OwnN wr (w.heap.size + 3) 58 3 (GrR (Fx (w.heap.size + 3) [kv.ownBlock]) wr) kv ((List.range k).map fun i => quantG kb (colL ks i)) ∧ Below w.heap.size w wr)
  case atStart => exact ⟨0, .slice none 0 0, Nat.zero_le _, rfl, by omega, blk_old (blk_old (blk_new rfl)), blk_old (blk_new (by simp)), blk_new (by simp), OwnN.nil, (((Below.refl _ _).alloc (Nat.le_refl _) _).alloc (by simp) _).alloc (by simp; omega) _⟩
  case round =>
    obtain ⟨k, kv, hk, rfl, hg, hk0, hk1, hk2, HN, HB⟩ := hrel
    have HG := Lib.hid hg
    clear hg
    obtain ⟨wo, hwo⟩ : ∃ wo : World, wo = wr := ⟨_, rfl⟩
    subst hwo
    have y0 := HB.size
    obtain ⟨e0, _, _⟩ := cells_of hk0
    have e03 := e0 3
    simp only [List.getElem?_toArray, List.getElem?_cons_succ, List.getElem?_cons_zero] at e03
    by_cases hlt : k < d
    · go_wp2
      go_loopg [9, 10] ks.length (fun g v9 v10 wx => ∃ j : Nat, j ≤ ks.length ∧ v10 = .int .i64 j ∧ g = ks.length - j ∧
        wx.ownsRow wo.heap.size 21 1 v9 (nums .i32 ((ks.take j).map fun l => l.getD k 0)).length (nums .i32 ((ks.take j).map fun l => l.getD k 0)) ∧ Below wo.heap.size wo wx)
      case atStart => exact ⟨0, Nat.zero_le _, rfl, by omega, World.ownsRow_nil _ _ _ _, Below.refl _ _⟩
      case round =>
        obtain ⟨j, hj, rfl, hg, HO, HBx⟩ := hrel
        have HG2 := Lib.hid hg
        clear hg e0 e03
        by_cases hlt2 : j < ks.length
        · obtain ⟨ad, A', c', rfl, hu, hrw, _, _⟩ := (h1.below (HB.trans (HBx.mono y0))).row hlt2
          have hd1 : ks[j].length = d := HKN.out.2 _ (List.getElem_mem hlt2)
          have hlt3 : k < ks[j].length := by omega
          obtain ⟨ad', u', rfl, _, hu', rfl, hx1, hx2⟩ := hrw.at_ rfl hlt3
          have hn' : (nums .i32 ((ks.take j).map fun l => l.getD k 0)).length + 1 ≤ 2199023255552 := by simp [nums]; have := HKN.out.1; omega
          have hs : nums .i32 ((ks.take (j + 1)).map fun l => l.getD k 0) = nums .i32 ((ks.take j).map fun l => l.getD k 0) ++ [.int .i32 ks[j][k]] := by
            rw [take_succ_map _ _ hlt2]; simp [nums, hlt3]
          rw [hd1] at hu
          generalize ks[j][k] = x at *
          have HS := Lib.hid hs
          clear hs hd1 hlt3 hrw
          generalize nums .i32 ((ks.take j).map fun l => l.getD k 0) = acc at *
          go_wp2_with (at_builtin; refine app1 _ (.tmp 26) (.tmp 34) 22 21 (.int .i32 0) 4 rfl rfl Try.underlying22 info_i32 rfl _ _ _ rfl rfl rfl HO (by first | exact HBx | exact below_drewN HBx _) (HBx).size hn' (by decide) ?_; intro v1 w1 HO1 HB1 HG1 HA1)
          go_roundg (ks.length - (j + 1))
          case rel => exact ⟨j + 1, by omega, by go_num, by omega, by rw [HS.out]; exact HO1, HB1⟩
          case measure => rw [HG2.out]; omega
        · obtain rfl : j = ks.length := by omega
          rw [List.take_length] at HO
          have hcin : ∀ x ∈ colL ks k, InK .i32 x := by
            intro x hx
            obtain ⟨l, hl, rfl⟩ := List.mem_map.1 hx
            have hkl : k < l.length := by have := HKN.out.2 l hl; omega
            rw [getD_at hkl]
            exact HIK.out l hl _ (List.getElem_mem hkl)
          have hcol : Sl (fun b => wo.heap.size ≤ b) wr (IntV .i32) u9 (colL ks k) := Sl.ints HO hcin
          have hcl : (colL ks k).length = t := by unfold colL; rw [List.length_map]; exact HKN.out.1
          have hof := fun W hW => r07_Of (w := W) kb hkb (hcol.below hW) (by omega) (by omega)
          have hzin : InK .i32 (quantG kb (colL ks k)).zero := (min_max (x := colL ks k) (by omega) hcin).1
          have hts : ((List.range (k + 1)).map fun i => quantG kb (colL ks i)) = ((List.range k).map fun i => quantG kb (colL ks i)) ++ [quantG kb (colL ks k)] := by rw [List.range_succ, List.map_append]; rfl
          obtain ⟨xs, hox, hxl, hxr⟩ := HN
          have hgl : ((List.range k).map fun i => quantG kb (colL ks i)).length = k := by simp
          generalize quantG kb (colL ks k) = gq at *
          generalize ((List.range k).map fun i => quantG kb (colL ks i)) = gl at *
          obtain ⟨z, sc, cds⟩ := gq
          obtain ⟨A8, n8, c8, rfl⟩ := own_slice hox
          have HTS := Lib.hid hts
          have HOF := Lib.hid hof
          have HXL := Lib.hid hxl
          have HXR := Lib.hid hxr
          have HGL := Lib.hid hgl
          have hk0x := blk_below HBx hk0
          have hk1x := blk_below HBx hk1
          have hk2x := blk_below HBx hk2
          have e00 := (cells_of hk0x).1 0
          have p7 := (cells_of hk2x).1 7
          have q2 := (cells_of hk2x).2.1
          have hsz2 := (cells_of hk2x).2.2
          unfold hd9 at p7
          simp only [List.getElem?_toArray, List.getElem?_cons_succ, List.getElem?_cons_zero] at e00 p7
          have hk' : gl.length + 1 ≤ 1099511627776 := by omega
          clear hts hof hxl hxr hgl hcl HO hcol hcin
          go_upto_region 10 with fail
          have hSall : ∀ W, Below (w.heap.size + 3) wr W → (fun W : World => W.cell? ⟨w.heap.size + 2, 7, none⟩ = some (.slice A8 n8 c8) ∧ W.cell? ⟨w.heap.size, 0, none⟩ = some (.int .i64 kb) ∧ W.frozen? ⟨w.heap.size + 2, 7, none⟩ = false) W :=
            fun W hW => ⟨cell_base hW (by simp) p7, cell_base hW (by simp) e00, (hW.frozen (p := ⟨w.heap.size + 2, 7, none⟩) (by simp)).trans (q2 7)⟩
          refine AnyX.begin (z := 9) (S := (fun W : World => W.cell? ⟨w.heap.size + 2, 7, none⟩ = some (.slice A8 n8 c8) ∧ W.cell? ⟨w.heap.size, 0, none⟩ = some (.int .i64 kb) ∧ W.frozen? ⟨w.heap.size + 2, 7, none⟩ = false)) (by kernel_rfl) ?_
          have hS0 := hSall { wr with drawn := wr.drawn + 1 } (Below.drew (Below.refl _ _))
          clear e00 p7 q2
          (refine AnyX.take' (i := 0) (v := ?v0a) (some 36) rfl rfl (by kernel_rfl) (by kernel_rfl) (by kernel_rfl) (by kernel_rfl) (waits (k := 0) (r := []) (by kernel_rfl) rfl rfl) (fun _ _ _ h => h) (Or.inl ⟨by rfl, ?hy0a⟩) hS0 ?rest0a; (case hy0a => (intro w hSw; (try dsimp only at hSw); go_simp; try with_reducible rfl)); simp only [Act.put, List.setIfInBounds_toArray, List.set_cons_zero, List.set_cons_succ])
          (refine AnyX.take' (i := 1) (v := ?v1a) (some 37) rfl rfl (by kernel_rfl) (by kernel_rfl) (by kernel_rfl) (by kernel_rfl) (waits (k := 1) (r := []) (by kernel_rfl) rfl rfl) (fun _ _ _ h => h) (Or.inl ⟨by rfl, ?hy1a⟩) hS0 ?rest1a; (case hy1a => (intro w hSw; (try dsimp only at hSw); go_simp; try with_reducible rfl)); simp only [Act.put, List.setIfInBounds_toArray, List.set_cons_zero, List.set_cons_succ])
          (refine AnyX.take' (i := 2) (v := ?v2a) (some 38) rfl rfl (by kernel_rfl) (by kernel_rfl) (by kernel_rfl) (by kernel_rfl) (waits (k := 2) (r := []) (by kernel_rfl) rfl rfl) (fun _ _ _ h => h) (Or.inl ⟨by rfl, ?hy2a⟩) hS0 ?rest2a; (case hy2a => (intro w hSw; (try dsimp only at hSw); go_simp; try with_reducible rfl)); simp only [Act.put, List.setIfInBounds_toArray, List.set_cons_zero, List.set_cons_succ])
          (refine AnyX.take' (i := 3) (v := ?v3a) (some 39) rfl rfl (by kernel_rfl) (by kernel_rfl) (by kernel_rfl) (by kernel_rfl) (waits (k := 3) (r := []) (by kernel_rfl) rfl rfl) (fun _ _ _ h => h) (Or.inl ⟨by rfl, ?hy3a⟩) hS0 ?rest3a; (case hy3a => (intro w hSw; (try dsimp only at hSw); go_simp; try with_reducible rfl)); simp only [Act.put, List.setIfInBounds_toArray, List.set_cons_zero, List.set_cons_succ])
          (refine AnyX.take' (i := 4) (v := ?v4a) (some 40) rfl rfl (by kernel_rfl) (by kernel_rfl) (by kernel_rfl) (by kernel_rfl) (waits (k := 4) (r := []) (by kernel_rfl) rfl rfl) (fun _ _ _ h => h) (Or.inl ⟨by rfl, ?hy4a⟩) hS0 ?rest4a; (case hy4a => (intro w hSw; (try dsimp only at hSw); go_simp; try with_reducible rfl)); simp only [Act.put, List.setIfInBounds_toArray, List.set_cons_zero, List.set_cons_succ])
          refine AnyX.one (i := 5) (by kernel_rfl) rfl (fun K' hK => ?_)
          refine step_callG (R := fun v w' => ∃ cv, v = .agg #[.int .i32 z, .int .u32 sc, cv] ∧ Below wr.heap.size wr w' ∧ Sl (fun b => wr.heap.size ≤ b) w' (IntV .i64) cv cds) 18 #[.tmp 38, .tmp 40] #[22, 3] #[u9, .int .i64 kb] rfl rfl rfl (by kernel_rfl) ((HOF.out _ (Below.drew (Below.refl _ _))).mono fun e w' h => by obtain ⟨hb, cv, he, hs⟩ := h; exact ⟨_, he, cv, rfl, (Below.drew (Below.refl _ _)).trans (hb.mono (Nat.le_refl _)), hs⟩) ?_
          rintro v5 w5 ⟨cv, rfl, hb5, hcs⟩
          obtain ⟨A5, c5, rfl, _, _⟩ := hcs.form
          have hb5' : Below (w.heap.size + 3) wr w5 := hb5.mono (by omega)
          have y5 : w.heap.size + 3 ≤ w5.heap.size := Nat.le_trans hsz2 hb5.size
          have hbo5 : Below wo.heap.size wo w5 := HBx.trans (hb5.mono HBx.size)
          refine hK _ _ (.inr (hSall _ hb5')) ?_
          simp only [Act.put, List.setIfInBounds_toArray, List.set_cons_zero, List.set_cons_succ]
          refine AnyX.one (i := 6) (by kernel_rfl) rfl (fun K' hK => ?_)
          go_simp
          refine hK _ _ (.inr (hSall _ (hb5'.alloc y5 _))) ?_
          try simp only [Act.put, List.setIfInBounds_toArray, List.set_cons_zero, List.set_cons_succ]
          refine AnyX.one (i := 7) (by kernel_rfl) rfl (fun K' hK => ?_)
          refine step_app (w0 := wr) (w.heap.size + 3) 3 (.tmp 37) (.tmp 42) 35 58 (.agg #[.int .i32 0, .int .u32 0, .slice none 0 0]) 32 rfl rfl Try.underlying35 info_rg rfl (by decide) (.slice A8 n8 c8) gl.length xs #[.int .i32 z, .int .u32 sc, .slice A5 cds.length c5] w5.heap.size rfl rfl rfl rfl (by simp [Value.oneCell']) (own_below hox hbo5) hb5' y5 hk' (by decide) ?_
          intro v1 w1 HO1 HB1 HG1 HA1
          refine hK _ _ (.inr (hSall _ HB1)) ?_
          simp only [Act.put, List.setIfInBounds_toArray, List.set_cons_zero, List.set_cons_succ]
          have hS1 := hSall w1 HB1
          (refine AnyX.take' (i := 8) (v := ?v8a) (some 44) rfl rfl (by kernel_rfl) (by kernel_rfl) (by kernel_rfl) (by kernel_rfl) (waits (k := 8) (r := []) (by kernel_rfl) rfl rfl) (fun _ _ _ h => h) (Or.inl ⟨by rfl, ?hy8a⟩) hS1 ?rest8a; (case hy8a => (intro w hSw; (try dsimp only at hSw); go_simp; try with_reducible rfl)); simp only [Act.put, List.setIfInBounds_toArray, List.set_cons_zero, List.set_cons_succ])
          obtain ⟨A9, n9, c9, rfl⟩ := own_slice HO1
          obtain ⟨d1, d2, d3⟩ := hS1
          (refine AnyX.last (i := 9) (fuel := 0) (o := ?ooa) ?gaa ?gba ?gca rfl ?gda; (case gba => rfl); (case gaa => kernel_rfl); (case gca => kernel_rfl); intro K' hK; go_simp; refine hK _ _ ?_)
          go_wp2_with fail
          go_roundg (d - (k + 1))
          case rel =>
            have k2 := heap_setCell_same w1 (w.heap.size + 2) 7 _ _ (.slice A9 n9 c9) ((HB1.block (w.heap.size + 2) (by omega)).trans hk2x)
            unfold hd9 at k2
            simp only [List.setIfInBounds_toArray, List.set_cons_zero, List.set_cons_succ] at k2
            refine ⟨k + 1, .slice A9 n9 c9, by omega, by go_num, by omega, blk_set ((HB1.block w.heap.size (by omega)).trans hk0x) (by simp; omega), blk_set ((HB1.block (w.heap.size + 1) (by omega)).trans hk1x) (by simp), k2, ?_, ((HB.trans (HBx.mono y0)).trans (HB1.mono (by omega))).setCell (p := ⟨w.heap.size + 2, 7, none⟩) (by simp) _⟩
            rw [HTS.out]
            refine OwnN.set (grs_snoc hox HXL.out HXR.out hbo5 ?_ HG1 HA1 HO1 hzin ?_ rfl) (by simp) _
            · exact (cells_of hk2).2.2
            · exact Sl.keep hcs (fun _ _ _ => rfl) (fun b _ hf => Nat.le_trans HBx.size hf) (fun _ _ _ h => h)
          case measure => rw [HG.out]; omega
    · obtain rfl : k = d := by omega
      have hk2b := hk2
      obtain ⟨xk, hok, hxlk, hxrk⟩ := HN
      obtain ⟨A7, n7, c7, rfl⟩ := own_slice hok
      have HNK : OwnN wo (w.heap.size + 3) 58 3 (GrR (Fx (w.heap.size + 3) [(Value.slice A7 n7 c7).ownBlock]) wo) (.slice A7 n7 c7) ((List.range k).map fun i => quantG kb (colL ks i)) := ⟨xk, hok, hxlk, hxrk⟩
      have hg1 : SlN (fun b => w.heap.size + 3 ≤ b) wo 3 (GrR (fun b => w.heap.size + 3 ≤ b) wo) (.slice A7 n7 c7) ((List.range k).map fun i => quantG kb (colL ks i)) :=
        SlN.keep (HNK.sl (GrR.loc _ _)) (fun _ _ _ => rfl) (fun _ _ h => h) (Nat.le_refl _) (fun _ _ _ h => h.keep (fun _ _ _ => rfl) (fun _ _ h => h.1))
      have HGK := Lib.hid hg1
      have hsz3 := (cells_of hk2).2.2
      clear hg1 HNK hok hxlk hxrk e0
      go_wp2
      clear e03
      go_loopg [11] vs.length (fun g v11 wx => ∃ (j : Nat) (vv : Value), j ≤ vs.length ∧ v11 = .int .i64 j ∧ g = vs.length - j ∧
        wx.heap[w.heap.size]? = some (.cells #[.int .i64 kb, .int .i64 vb, .int .i64 t, .int .i64 k, .int .i64 ly, .int .i64 hd, .int .i64 ix] 34 (0, 0)) ∧
        wx.heap[w.heap.size + 1]? = some (.cells (hd9 0 0 0 0 0 0 0 (.slice none 0 0) (.slice none 0 0)) 37 (0, 0)) ∧
        wx.heap[w.heap.size + 2]? = some (.cells (hd9 kb vb t k ly hd ix (.slice A7 n7 c7) vv) 37 (0, 0)) ∧
        (∀ b, w.heap.size + 3 ≤ b → b < wo.heap.size → wx.heap[b]? = wo.heap[b]?) ∧ wo.heap.size ≤ wx.heap.size ∧
        OwnN wx wo.heap.size 58 3 (GrR (Fx wo.heap.size [vv.ownBlock]) wx) vv ((vs.take j).map (quantG vb)) ∧ Below w.heap.size w wx)
      case atStart => exact ⟨0, .slice none 0 0, Nat.zero_le _, rfl, by omega, hk0, hk1, hk2, fun _ _ _ => rfl, Nat.le_refl _, OwnN.nil, HB⟩
      case round =>
        obtain ⟨j, vv, hj, rfl, hg, hk0x, hk1x, hk2x, hmid, hmz, HN2, HBx⟩ := hrel
        have HG2 := Lib.hid hg
        have HMID := Lib.hid hmid
        clear hg hmid
        obtain ⟨xs, hox, hxl, hxr⟩ := HN2
        obtain ⟨A8, n8, c8, rfl⟩ := own_slice hox
        by_cases hlt2 : j < vs.length
        · obtain ⟨ad, A', c', rfl, hu, hrw, _, _⟩ := (h2.below HBx).row hlt2
          have hab : (ad.add j).block < wr.heap.size := World.block_lt_of_cell? wr _ hu
          have hd1 : vs[j].length = k := HVN.out.2 _ (List.getElem_mem hlt2)
          have hof := fun W hW => r07_Of (w := W) vb hvb (hrw.below hW) (by omega) (by omega)
          have hzin : InK .i32 (quantG vb vs[j]).zero := (min_max (x := vs[j]) (by omega) (HIV.out _ (List.getElem_mem hlt2))).1
          have hts : ((vs.take (j + 1)).map (quantG vb)) = ((vs.take j).map (quantG vb)) ++ [quantG vb vs[j]] := by rw [List.take_succ_eq_append_getElem hlt2, List.map_append]; rfl
          rw [hd1] at hof hu
          have hgl : ((vs.take j).map (quantG vb)).length = j := by simp; omega
          generalize quantG vb vs[j] = gq at *
          generalize ((vs.take j).map (quantG vb)) = gl at *
          obtain ⟨z, sc, cds⟩ := gq
          have HTS := Lib.hid hts
          have HOF := Lib.hid hof
          have HXL := Lib.hid hxl
          have HXR := Lib.hid hxr
          have e00 := (cells_of hk0x).1 1
          have p7 := (cells_of hk2x).1 8
          have q2 := (cells_of hk2x).2.1
          have hsz2 := (cells_of hk2x).2.2
          have hvl : vs.length ≤ 16 := by have := HVN.out.1; omega
          unfold hd9 at p7
          simp only [List.getElem?_toArray, List.getElem?_cons_succ, List.getElem?_cons_zero] at e00 p7
          have hk' : gl.length + 1 ≤ 1099511627776 := by omega
          have habr : ad.block < w.heap.size := by
            obtain ⟨ad2, A2', c2', had2, hu2, _⟩ := h2.row hlt2
            injection had2 with had2
            subst had2
            have := World.block_lt_of_cell? w _ hu2
            rwa [block_add] at this
          clear hts hof hxl hxr hgl hrw hd1
          go_upto_region 14 with fail
          have hSall : ∀ W, Below wo.heap.size wr W → (fun W : World => W.cell? ⟨w.heap.size + 2, 8, none⟩ = some (.slice A8 n8 c8) ∧ W.cell? ⟨w.heap.size, 1, none⟩ = some (.int .i64 vb) ∧ W.frozen? ⟨w.heap.size + 2, 8, none⟩ = false ∧ W.cell? (ad.add j) = some (.slice A' k c')) W :=
            fun W hW => ⟨cell_base hW hsz3 p7, cell_base hW (by simp; omega) e00, (hW.frozen (p := ⟨w.heap.size + 2, 8, none⟩) hsz3).trans (q2 8), cell_base hW (by rw [block_add]; omega) hu⟩
          refine AnyX.begin (z := 12) (S := (fun W : World => W.cell? ⟨w.heap.size + 2, 8, none⟩ = some (.slice A8 n8 c8) ∧ W.cell? ⟨w.heap.size, 1, none⟩ = some (.int .i64 vb) ∧ W.frozen? ⟨w.heap.size + 2, 8, none⟩ = false ∧ W.cell? (ad.add j) = some (.slice A' k c'))) (by kernel_rfl) ?_
          have hS0 := hSall { wr with drawn := wr.drawn + 1 } (Below.drew (Below.refl _ _))
          clear e00 p7 q2
          (refine AnyX.take' (i := 0) (v := ?v0b) (some 51) rfl rfl (by kernel_rfl) (by kernel_rfl) (by kernel_rfl) (by kernel_rfl) (waits (k := 0) (r := []) (by kernel_rfl) rfl rfl) (fun _ _ _ h => h) (Or.inl ⟨by rfl, ?hy0b⟩) hS0 ?rest0b; (case hy0b => (intro w hSw; (try dsimp only at hSw); go_simp; try with_reducible rfl)); simp only [Act.put, List.setIfInBounds_toArray, List.set_cons_zero, List.set_cons_succ])
          (refine AnyX.take' (i := 1) (v := ?v1b) (some 52) rfl rfl (by kernel_rfl) (by kernel_rfl) (by kernel_rfl) (by kernel_rfl) (waits (k := 1) (r := []) (by kernel_rfl) rfl rfl) (fun _ _ _ h => h) (Or.inl ⟨by rfl, ?hy1b⟩) hS0 ?rest1b; (case hy1b => (intro w hSw; (try dsimp only at hSw); go_simp; try with_reducible rfl)); simp only [Act.put, List.setIfInBounds_toArray, List.set_cons_zero, List.set_cons_succ])
          (refine AnyX.take' (i := 2) (v := ?v2b) (some 53) rfl rfl (by kernel_rfl) (by kernel_rfl) (by kernel_rfl) (by kernel_rfl) (waits (k := 2) (r := []) (by kernel_rfl) rfl rfl) (fun _ _ _ h => h) (Or.inl ⟨by rfl, ?hy2b⟩) hS0 ?rest2b; (case hy2b => (intro w hSw; (try dsimp only at hSw); go_simp; try with_reducible rfl)); simp only [Act.put, List.setIfInBounds_toArray, List.set_cons_zero, List.set_cons_succ])
          (refine AnyX.take' (i := 3) (v := ?v3b) (some 54) rfl rfl (by kernel_rfl) (by kernel_rfl) (by kernel_rfl) (by kernel_rfl) (waits (k := 3) (r := []) (by kernel_rfl) rfl rfl) (fun _ _ _ h => h) (Or.inl ⟨by rfl, ?hy3b⟩) hS0 ?rest3b; (case hy3b => (intro w hSw; (try dsimp only at hSw); go_simp; try with_reducible rfl)); simp only [Act.put, List.setIfInBounds_toArray, List.set_cons_zero, List.set_cons_succ])
          (refine AnyX.take' (i := 4) (v := ?v4b) (some 55) rfl rfl (by kernel_rfl) (by kernel_rfl) (by kernel_rfl) (by kernel_rfl) (waits (k := 4) (r := []) (by kernel_rfl) rfl rfl) (fun _ _ _ h => h) (Or.inl ⟨by rfl, ?hy4b⟩) hS0 ?rest4b; (case hy4b => (intro w hSw; (try dsimp only at hSw); go_simp; try with_reducible rfl)); simp only [Act.put, List.setIfInBounds_toArray, List.set_cons_zero, List.set_cons_succ])
          (refine AnyX.take' (i := 5) (v := ?v5b) (some 56) rfl rfl (by kernel_rfl) (by kernel_rfl) (by kernel_rfl) (by kernel_rfl) (waits (k := 5) (r := []) (by kernel_rfl) rfl rfl) (fun _ _ _ h => h) (Or.inl ⟨by rfl, ?hy5b⟩) hS0 ?rest5b; (case hy5b => (intro w hSw; (try dsimp only at hSw); go_simp; try with_reducible rfl)); simp only [Act.put, List.setIfInBounds_toArray, List.set_cons_zero, List.set_cons_succ])
          (refine AnyX.take' (i := 6) (v := ?v6b) (some 57) rfl rfl (by kernel_rfl) (by kernel_rfl) (by kernel_rfl) (by kernel_rfl) (waits (k := 6) (r := []) (by kernel_rfl) rfl rfl) (fun _ _ _ h => h) (Or.inl ⟨by rfl, ?hy6b⟩) hS0 ?rest6b; (case hy6b => (intro w hSw; (try dsimp only at hSw); go_simp; try with_reducible rfl)); simp only [Act.put, List.setIfInBounds_toArray, List.set_cons_zero, List.set_cons_succ])
          (refine AnyX.take' (i := 7) (v := ?v7b) (some 58) rfl rfl (by kernel_rfl) (by kernel_rfl) (by kernel_rfl) (by kernel_rfl) (waits (k := 7) (r := []) (by kernel_rfl) rfl rfl) (fun _ _ _ h => h) (Or.inl ⟨by rfl, ?hy7b⟩) hS0 ?rest7b; (case hy7b => (intro w hSw; (try dsimp only at hSw); go_simp; try with_reducible rfl)); simp only [Act.put, List.setIfInBounds_toArray, List.set_cons_zero, List.set_cons_succ])
          refine AnyX.one (i := 8) (by kernel_rfl) rfl (fun K' hK => ?_)
          refine step_callG (R := fun v w' => ∃ cv, v = .agg #[.int .i32 z, .int .u32 sc, cv] ∧ Below wr.heap.size wr w' ∧ Sl (fun b => wr.heap.size ≤ b) w' (IntV .i64) cv cds) 18 #[.tmp 56, .tmp 58] #[22, 3] #[.slice A' k c', .int .i64 vb] rfl rfl rfl (by kernel_rfl) ((HOF.out _ (Below.drew (Below.refl _ _))).mono fun e w' h => by obtain ⟨hb, cv, he, hs⟩ := h; exact ⟨_, he, cv, rfl, (Below.drew (Below.refl _ _)).trans (hb.mono (Nat.le_refl _)), hs⟩) ?_
          rintro v5 w5 ⟨cv, rfl, hb5, hcs⟩
          obtain ⟨A5, c5, rfl, _, _⟩ := hcs.form
          have hb5' : Below wo.heap.size wr w5 := hb5.mono hmz
          have y5 : wo.heap.size ≤ w5.heap.size := Nat.le_trans hmz hb5.size
          refine hK _ _ (.inr (hSall _ hb5')) ?_
          simp only [Act.put, List.setIfInBounds_toArray, List.set_cons_zero, List.set_cons_succ]
          refine AnyX.one (i := 9) (by kernel_rfl) rfl (fun K' hK => ?_)
          go_simp
          refine hK _ _ (.inr (hSall _ (hb5'.alloc y5 _))) ?_
          try simp only [Act.put, List.setIfInBounds_toArray, List.set_cons_zero, List.set_cons_succ]
          refine AnyX.one (i := 10) (by kernel_rfl) rfl (fun K' hK => ?_)
          refine step_app (w0 := wr) wo.heap.size 3 (.tmp 52) (.tmp 60) 35 58 (.agg #[.int .i32 0, .int .u32 0, .slice none 0 0]) 32 rfl rfl Try.underlying35 info_rg rfl (by decide) (.slice A8 n8 c8) gl.length xs #[.int .i32 z, .int .u32 sc, .slice A5 cds.length c5] w5.heap.size rfl rfl rfl rfl (by simp [Value.oneCell']) (own_below hox hb5) hb5' y5 hk' (by decide) ?_
          intro v1 w1 HO1 HB1 HG1 HA1
          refine hK _ _ (.inr (hSall _ HB1)) ?_
          simp only [Act.put, List.setIfInBounds_toArray, List.set_cons_zero, List.set_cons_succ]
          have hS1 := hSall w1 HB1
          (refine AnyX.take' (i := 11) (v := ?v11b) (some 62) rfl rfl (by kernel_rfl) (by kernel_rfl) (by kernel_rfl) (by kernel_rfl) (waits (k := 11) (r := []) (by kernel_rfl) rfl rfl) (fun _ _ _ h => h) (Or.inl ⟨by rfl, ?hy11b⟩) hS1 ?rest11b; (case hy11b => (intro w hSw; (try dsimp only at hSw); go_simp; try with_reducible rfl)); simp only [Act.put, List.setIfInBounds_toArray, List.set_cons_zero, List.set_cons_succ])
          obtain ⟨A9, n9, c9, rfl⟩ := own_slice HO1
          obtain ⟨d1, d2, d3, _⟩ := hS1
          (refine AnyX.last (i := 12) (fuel := 0) (o := ?oob) ?gab ?gbb ?gcb rfl ?gdb; (case gbb => rfl); (case gab => kernel_rfl); (case gcb => kernel_rfl); intro K' hK; go_simp; refine hK _ _ ?_)
          go_wp2_with fail
          go_roundg (vs.length - (j + 1))
          case rel =>
            have k2 := heap_setCell_same w1 (w.heap.size + 2) 8 _ _ (.slice A9 n9 c9) ((HB1.block (w.heap.size + 2) (by omega)).trans hk2x)
            unfold hd9 at k2
            simp only [List.setIfInBounds_toArray, List.set_cons_zero, List.set_cons_succ] at k2
            refine ⟨j + 1, .slice A9 n9 c9, by omega, by go_num, by omega, blk_set ((HB1.block w.heap.size (by omega)).trans hk0x) (by simp; omega), blk_set ((HB1.block (w.heap.size + 1) (by omega)).trans hk1x) (by simp), k2, fun b hb1 hb2 => ?_, ?_, ?_, (HBx.trans (HB1.mono (by omega))).setCell (p := ⟨w.heap.size + 2, 8, none⟩) (by simp) _⟩
            · rw [Below.heap_setCell _ _ _ _ (by simp; omega)]; exact (HB1.block b hb2).trans (HMID.out b hb1 hb2)
            · simp; exact Nat.le_trans hmz HB1.size
            · rw [HTS.out]
              exact OwnN.set (grs_snoc hox HXL.out HXR.out hb5 hmz HG1 HA1 HO1 hzin hcs rfl) (by simp; omega) _
          case measure => rw [HG2.out]; omega
        · obtain rfl : j = vs.length := by omega
          rw [List.take_length] at hxl hxr hox
          have HNV : OwnN wr wo.heap.size 58 3 (GrR (Fx wo.heap.size [(Value.slice A8 n8 c8).ownBlock]) wr) (.slice A8 n8 c8) (vs.map (quantG vb)) := ⟨xs, hox, hxl, hxr⟩
          have hg2 : SlN (fun b => wo.heap.size ≤ b) wr 3 (GrR (fun b => wo.heap.size ≤ b) wr) (.slice A8 n8 c8) (vs.map (quantG vb)) :=
            SlN.keep (HNV.sl (GrR.loc _ _)) (fun _ _ _ => rfl) (fun _ _ h => h) (Nat.le_refl _) (fun _ _ _ h => h.keep (fun _ _ _ => rfl) (fun _ _ h => h.1))
          obtain ⟨p1, p2, _⟩ := cells_of hk1x
          obtain ⟨q1, q2, _⟩ := cells_of hk2x
          unfold hd9 at p1 q1
          clear HNV hxl hxr hox
          go_wp2
          unfold hd9 at hk1x
          have k1 := heap_setCell_same wr (w.heap.size + 1) 0 _ _ (.int .i64 kb) hk1x
          have k2 := heap_setCell_same _ (w.heap.size + 1) 1 _ _ (.int .i64 vb) k1
          have k3 := heap_setCell_same _ (w.heap.size + 1) 2 _ _ (.int .i64 t) k2
          have k4 := heap_setCell_same _ (w.heap.size + 1) 3 _ _ (.int .i64 k) k3
          have k5 := heap_setCell_same _ (w.heap.size + 1) 4 _ _ (.int .i64 ly) k4
          have k6 := heap_setCell_same _ (w.heap.size + 1) 5 _ _ (.int .i64 hd) k5
          have k7 := heap_setCell_same _ (w.heap.size + 1) 6 _ _ (.int .i64 ix) k6
          have k8 := heap_setCell_same _ (w.heap.size + 1) 7 _ _ (.slice A7 n7 c7) k7
          have k9 := heap_setCell_same _ (w.heap.size + 1) 8 _ _ (.slice A8 n8 c8) k8
          simp only [List.setIfInBounds_toArray, List.set_cons_zero, List.set_cons_succ] at k9
          obtain ⟨e9, _, _⟩ := cells_of k9
          have e90 := e9 0
          have e91 := e9 1
          have e92 := e9 2
          have e93 := e9 3
          have e94 := e9 4
          have e95 := e9 5
          have e96 := e9 6
          have e97 := e9 7
          have e98 := e9 8
          simp only [List.getElem?_toArray, List.getElem?_cons_succ, List.getElem?_cons_zero] at e90 e91 e92 e93 e94 e95 e96 e97 e98
          clear p1 q1 e9 k1 k2 k3 k4 k5 k6 k7 k8 k9
          refine bodyPost_ret (v := .agg #[.int .i64 kb, .int .i64 vb, .int .i64 t, .int .i64 k, .int .i64 ly, .int .i64 hd, .int .i64 ix, .slice A7 n7 c7, .slice A8 n8 c8]) (by simp [results, Try.results7, go_sem, e90, e91, e92, e93, e94, e95, e96, e97, e98]) rfl ⟨(((((((((HBx.setCell (p := ⟨w.heap.size + 1, 0, none⟩) (by simp) _).setCell (p := ⟨w.heap.size + 1, 1, none⟩) (by simp) _).setCell (p := ⟨w.heap.size + 1, 2, none⟩) (by simp) _).setCell (p := ⟨w.heap.size + 1, 3, none⟩) (by simp) _).setCell (p := ⟨w.heap.size + 1, 4, none⟩) (by simp) _).setCell (p := ⟨w.heap.size + 1, 5, none⟩) (by simp) _).setCell (p := ⟨w.heap.size + 1, 6, none⟩) (by simp) _).setCell (p := ⟨w.heap.size + 1, 7, none⟩) (by simp) _).setCell (p := ⟨w.heap.size + 1, 8, none⟩) (by simp) _), _, rfl, _, _, rfl, ?_, ?_⟩
          · refine SlN.keep HGK.out (fun b hb hf => ?_) (fun b _ h => by omega) (by simpa using hmz) (fun _ _ _ h => h.keep (fun b hb hf => ?_) (fun b _ h => by omega))
            all_goals
              repeat rw [Below.heap_setCell _ _ _ _ (by simp; omega)]
              exact HMID.out b hf hb
          · refine SlN.keep hg2 (fun b hb hf => ?_) (fun b _ h => by omega) (by simp) (fun _ _ _ h => h.keep (fun b hb hf => ?_) (fun b _ h => by omega))
            all_goals
              repeat rw [Below.heap_setCell _ _ _ _ (by simp; omega)]
end Go.Proofs.Ytkepgkjbhdgbiaa

namespace Go.Proofs.Ytkepgkjbhdgbiaa
open Go.RowKit

/-- What a token's key is. -/
def keyL (gs : List Gr) (t : Nat) : List Int := gs.map fun g => oneI g.zero g.scale (g.codes.getD t 0)
theorem keyL_in (gs : List Gr) (t : Nat) : ∀ x ∈ keyL gs t, InK .i32 x := by
  intro x hx
  obtain ⟨g, _, rfl⟩ := List.mem_map.1 hx
  exact wide_bd _
/-- Groups whose codes can be told. -/
def GrsIn (n : Nat) (gs : List Gr) : Prop := ∀ g ∈ gs, g.codes.length = n ∧ InK .u32 g.scale ∧ ∀ c ∈ g.codes, 0 ≤ c ∧ c ≤ 255

set_option maxRecDepth 100000 in
set_option maxHeartbeats 2000000 in
theorem r08_Key {F : Nat → Prop} {w : World} {u : Value} {h : Hd} {ks vs : List Gr} (n t : Nat) (hp : RpgV F w u h ks vs) (hk : GrsIn n ks) (ht : t < n) (hl : ks.length ≤ 256) :
    Calls Try.prog 9 #[u, .int .i64 t] w (RetSl w (fun _ => IntV .i32) (keyL ks t)) := by
  obtain ⟨kv, vv, rfl, h1, h2⟩ := hp
  obtain ⟨A, c, rfl, hc, hm⟩ := h1.form
  obtain ⟨A2, c2, rfl, _, _⟩ := h2.form
  obtain ⟨kb, vb, tk, dm, ly, hd, ix⟩ := h
  dsimp only at *
  have hbk : ∀ k (hk : k < ks.length), nums .i32 ((ks.take (k + 1)).map fun g => oneI g.zero g.scale (g.codes.getD t 0)) = nums .i32 ((ks.take k).map fun g => oneI g.zero g.scale (g.codes.getD t 0)) ++ [.int .i32 (oneI ks[k].zero ks[k].scale (ks[k].codes.getD t 0))] := fun k hk => by
    rw [take_succ_map _ ks hk]; simp [nums]
  have HBK := Lib.hid hbk
  have HK := Lib.hid hk
  clear hbk hk
  go_enter Try.func9, Try.ntmps9
  go_wp2
  go_loopg [5, 6] ks.length (fun g v3 v4 wr => ∃ k : Nat, k ≤ ks.length ∧ v4 = .int .i64 k ∧ g = ks.length - k ∧
    wr.heap[w.heap.size]? = some (.cells (hd9 kb vb tk dm ly hd ix (.slice A ks.length c) (.slice A2 vs.length c2)) 37 (0, 0)) ∧
    wr.ownsRow (w.heap.size + 1) 21 1 v3 (nums .i32 ((ks.take k).map fun g => oneI g.zero g.scale (g.codes.getD t 0))).length (nums .i32 ((ks.take k).map fun g => oneI g.zero g.scale (g.codes.getD t 0))) ∧ Below w.heap.size w wr)
  case atStart => exact ⟨0, Nat.zero_le _, rfl, by omega, blk_new rfl, World.ownsRow_nil _ _ _ _, (Below.refl _ _).alloc (Nat.le_refl _) _⟩
  case round =>
    obtain ⟨k, hk, rfl, hg, hk0, HO, HB⟩ := hrel
    have HG := Lib.hid hg
    clear hg
    obtain ⟨e0, _, hsz⟩ := cells_of hk0
    have e07 := e0 7
    unfold hd9 at e07
    simp only [List.getElem?_toArray, List.getElem?_cons_succ, List.getElem?_cons_zero] at e07
    clear e0
    by_cases hlt : k < ks.length
    · obtain ⟨gb, rfl, _, hgl, cv, g0, g1, g2, hz, hs⟩ := h1.at_ rfl hlt
      obtain ⟨A', c', rfl, _, _⟩ := hs.form
      obtain ⟨hcn, hsc, hcd⟩ := HK.out _ (List.getElem_mem hlt)
      have ht' : t < ks[k].codes.length := by omega
      obtain ⟨ad, u, rfl, _, hu0, rfl, _, _⟩ := hs.at_ rfl ht'
      have hab : (ad.add t).block < w.heap.size := World.block_lt_of_cell? w _ hu0
      have hu := cell_below HB hu0
      have d0 := cell_below HB g0
      have d1 := cell_below HB g1
      have d2 := cell_below HB g2
      have hgt : ks[k].codes.getD t 0 = ks[k].codes[t] := getD_at ht'
      have h255 := hcd _ (List.getElem_mem ht')
      have hss := HBK.out k hlt
      rw [hgt] at hss
      rw [hcn] at d2
      have hn' : (nums .i32 ((ks.take k).map fun g => oneI g.zero g.scale (g.codes.getD t 0))).length + 1 ≤ 1099511627776 := by simp [nums]; omega
      generalize nums .i32 ((ks.take k).map fun g => oneI g.zero g.scale (g.codes.getD t 0)) = acc at *
      generalize ks[k].codes[t] = cd at *
      generalize ks[k].zero = z at *
      generalize ks[k].scale = sc at *
      rw [Nat.add_zero] at d0
      have HS := Lib.hid hss
      have H255 := Lib.hid h255
      have HZ := Lib.hid (And.intro hz hsc)
      have HOW := HO
      clear hss h255 hu0 g0 g1 g2 hs hcn hcd hgt hz hsc ht'
      go_upto_region 5 with fail
      have hSall : ∀ W, Below (w.heap.size + 1) wr W → (fun W : World => W.cell? ⟨w.heap.size, 7, none⟩ = some (.slice (some ⟨gb, 0, none⟩) ks.length c) ∧ W.cell? ⟨gb, k * 3, none⟩ = some (.int .i32 z) ∧ W.cell? ⟨gb, k * 3 + 1, none⟩ = some (.int .u32 sc) ∧ W.cell? ⟨gb, k * 3 + 2, none⟩ = some (.slice (some ad) n c') ∧ W.cell? (ad.add t) = some (.int .i64 cd)) W :=
        fun W hW => ⟨cell_base hW (by simp) e07, cell_base hW (by simp; omega) d0, cell_base hW (by simp; omega) d1, cell_base hW (by simp; omega) d2, cell_base hW (by omega) hu⟩
      refine AnyX.begin (z := 18) (S := (fun W : World => W.cell? ⟨w.heap.size, 7, none⟩ = some (.slice (some ⟨gb, 0, none⟩) ks.length c) ∧ W.cell? ⟨gb, k * 3, none⟩ = some (.int .i32 z) ∧ W.cell? ⟨gb, k * 3 + 1, none⟩ = some (.int .u32 sc) ∧ W.cell? ⟨gb, k * 3 + 2, none⟩ = some (.slice (some ad) n c') ∧ W.cell? (ad.add t) = some (.int .i64 cd))) (by kernel_rfl) ?_
      have hS0 := hSall { wr with drawn := wr.drawn + 1 } (Below.drew (Below.refl _ _))
      clear e07 d0 d1 d2 hu
      (refine AnyX.take' (i := 0) (v := ?v0a) (some 14) rfl rfl (by kernel_rfl) (by kernel_rfl) (by kernel_rfl) (by kernel_rfl) (waits (k := 0) (r := []) (by kernel_rfl) rfl rfl) (fun _ _ _ h => h) (Or.inl ⟨by rfl, ?hy0a⟩) hS0 ?rest0a; (case hy0a => (intro w hSw; (try dsimp only at hSw); go_simp; try with_reducible rfl)); simp only [Act.put, List.setIfInBounds_toArray, List.set_cons_zero, List.set_cons_succ])
      (refine AnyX.take' (i := 1) (v := ?v1a) (some 15) rfl rfl (by kernel_rfl) (by kernel_rfl) (by kernel_rfl) (by kernel_rfl) (waits (k := 1) (r := []) (by kernel_rfl) rfl rfl) (fun _ _ _ h => h) (Or.inl ⟨by rfl, ?hy1a⟩) hS0 ?rest1a; (case hy1a => (intro w hSw; (try dsimp only at hSw); go_simp; try with_reducible rfl)); simp only [Act.put, List.setIfInBounds_toArray, List.set_cons_zero, List.set_cons_succ])
      (refine AnyX.take' (i := 2) (v := ?v2a) (some 16) rfl rfl (by kernel_rfl) (by kernel_rfl) (by kernel_rfl) (by kernel_rfl) (waits (k := 2) (r := []) (by kernel_rfl) rfl rfl) (fun _ _ _ h => h) (Or.inl ⟨by rfl, ?hy2a⟩) hS0 ?rest2a; (case hy2a => (intro w hSw; (try dsimp only at hSw); go_simp; try with_reducible rfl)); simp only [Act.put, List.setIfInBounds_toArray, List.set_cons_zero, List.set_cons_succ])
      (refine AnyX.take' (i := 3) (v := ?v3a) (some 17) rfl rfl (by kernel_rfl) (by kernel_rfl) (by kernel_rfl) (by kernel_rfl) (waits (k := 3) (r := []) (by kernel_rfl) rfl rfl) (fun _ _ _ h => h) (Or.inl ⟨by rfl, ?hy3a⟩) hS0 ?rest3a; (case hy3a => (intro w hSw; (try dsimp only at hSw); go_simp; try with_reducible rfl)); simp only [Act.put, List.setIfInBounds_toArray, List.set_cons_zero, List.set_cons_succ])
      (refine AnyX.take' (i := 4) (v := ?v4a) (some 18) rfl rfl (by kernel_rfl) (by kernel_rfl) (by kernel_rfl) (by kernel_rfl) (waits (k := 4) (r := []) (by kernel_rfl) rfl rfl) (fun _ _ _ h => h) (Or.inl ⟨by rfl, ?hy4a⟩) hS0 ?rest4a; (case hy4a => (intro w hSw; (try dsimp only at hSw); go_simp; try with_reducible rfl)); simp only [Act.put, List.setIfInBounds_toArray, List.set_cons_zero, List.set_cons_succ])
      (refine AnyX.take' (i := 5) (v := ?v5a) (some 19) rfl rfl (by kernel_rfl) (by kernel_rfl) (by kernel_rfl) (by kernel_rfl) (waits (k := 5) (r := []) (by kernel_rfl) rfl rfl) (fun _ _ _ h => h) (Or.inl ⟨by rfl, ?hy5a⟩) hS0 ?rest5a; (case hy5a => (intro w hSw; (try dsimp only at hSw); go_simp; try with_reducible rfl)); simp only [Act.put, List.setIfInBounds_toArray, List.set_cons_zero, List.set_cons_succ])
      (refine AnyX.take' (i := 6) (v := ?v6a) (some 20) rfl rfl (by kernel_rfl) (by kernel_rfl) (by kernel_rfl) (by kernel_rfl) (waits (k := 6) (r := []) (by kernel_rfl) rfl rfl) (fun _ _ _ h => h) (Or.inl ⟨by rfl, ?hy6a⟩) hS0 ?rest6a; (case hy6a => (intro w hSw; (try dsimp only at hSw); go_simp; try with_reducible rfl)); simp only [Act.put, List.setIfInBounds_toArray, List.set_cons_zero, List.set_cons_succ])
      (refine AnyX.take' (i := 7) (v := ?v7a) (some 21) rfl rfl (by kernel_rfl) (by kernel_rfl) (by kernel_rfl) (by kernel_rfl) (waits (k := 7) (r := []) (by kernel_rfl) rfl rfl) (fun _ _ _ h => h) (Or.inl ⟨by rfl, ?hy7a⟩) hS0 ?rest7a; (case hy7a => (intro w hSw; (try dsimp only at hSw); go_simp; try with_reducible rfl)); simp only [Act.put, List.setIfInBounds_toArray, List.set_cons_zero, List.set_cons_succ])
      (refine AnyX.take' (i := 8) (v := ?v8a) (some 22) rfl rfl (by kernel_rfl) (by kernel_rfl) (by kernel_rfl) (by kernel_rfl) (waits (k := 8) (r := []) (by kernel_rfl) rfl rfl) (fun _ _ _ h => h) (Or.inl ⟨by rfl, ?hy8a⟩) hS0 ?rest8a; (case hy8a => (intro w hSw; (try dsimp only at hSw); go_simp; try with_reducible rfl)); simp only [Act.put, List.setIfInBounds_toArray, List.set_cons_zero, List.set_cons_succ])
      (refine AnyX.take' (i := 9) (v := ?v9a) (some 23) rfl rfl (by kernel_rfl) (by kernel_rfl) (by kernel_rfl) (by kernel_rfl) (waits (k := 9) (r := []) (by kernel_rfl) rfl rfl) (fun _ _ _ h => h) (Or.inl ⟨by rfl, ?hy9a⟩) hS0 ?rest9a; (case hy9a => (intro w hSw; (try dsimp only at hSw); go_simp; try with_reducible rfl)); simp only [Act.put, List.setIfInBounds_toArray, List.set_cons_zero, List.set_cons_succ])
      (refine AnyX.take' (i := 10) (v := ?v10a) (some 24) rfl rfl (by kernel_rfl) (by kernel_rfl) (by kernel_rfl) (by kernel_rfl) (waits (k := 10) (r := []) (by kernel_rfl) rfl rfl) (fun _ _ _ h => h) (Or.inl ⟨by rfl, ?hy10a⟩) hS0 ?rest10a; (case hy10a => (intro w hSw; (try dsimp only at hSw); go_simp; try with_reducible rfl)); simp only [Act.put, List.setIfInBounds_toArray, List.set_cons_zero, List.set_cons_succ])
      (refine AnyX.take' (i := 11) (v := ?v11a) (some 25) rfl rfl (by kernel_rfl) (by kernel_rfl) (by kernel_rfl) (by kernel_rfl) (waits (k := 11) (r := []) (by kernel_rfl) rfl rfl) (fun _ _ _ h => h) (Or.inl ⟨by rfl, ?hy11a⟩) hS0 ?rest11a; (case hy11a => (intro w hSw; (try dsimp only at hSw); go_simp; try with_reducible rfl)); simp only [Act.put, List.setIfInBounds_toArray, List.set_cons_zero, List.set_cons_succ])
      (refine AnyX.take' (i := 12) (v := ?v12a) (some 26) rfl rfl (by kernel_rfl) (by kernel_rfl) (by kernel_rfl) (by kernel_rfl) (waits (k := 12) (r := []) (by kernel_rfl) rfl rfl) (fun _ _ _ h => h) (Or.inl ⟨by rfl, ?hy12a⟩) hS0 ?rest12a; (case hy12a => (intro w hSw; (try dsimp only at hSw); go_simp; try with_reducible rfl)); simp only [Act.put, List.setIfInBounds_toArray, List.set_cons_zero, List.set_cons_succ])
      (refine AnyX.take' (i := 13) (v := ?v13a) (some 27) rfl rfl (by kernel_rfl) (by kernel_rfl) (by kernel_rfl) (by kernel_rfl) (waits (k := 13) (r := []) (by kernel_rfl) rfl rfl) (fun _ _ _ h => h) (Or.inl ⟨by rfl, ?hy13a⟩) hS0 ?rest13a; (case hy13a => (intro w hSw; (try dsimp only at hSw); go_simp; try with_reducible rfl)); simp only [Act.put, List.setIfInBounds_toArray, List.set_cons_zero, List.set_cons_succ])
      (refine AnyX.take' (i := 14) (v := ?v14a) (some 28) rfl rfl (by kernel_rfl) (by kernel_rfl) (by kernel_rfl) (by kernel_rfl) (waits (k := 14) (r := []) (by kernel_rfl) rfl rfl) (fun _ _ _ h => h) (Or.inl ⟨by rfl, ?hy14a⟩) hS0 ?rest14a; (case hy14a => (intro w hSw; (try dsimp only at hSw); go_simp; try with_reducible rfl)); simp only [Act.put, List.setIfInBounds_toArray, List.set_cons_zero, List.set_cons_succ])
      refine AnyX.one (i := 15) (by kernel_rfl) rfl (fun K' hK => ?_)
      refine step_callG (R := fun v w' => v = .int .i32 (oneI z sc cd) ∧ Below wr.heap.size wr w') 19 #[.tmp 19, .tmp 28] #[58, 3] #[.agg #[.int .i32 z, .int .u32 sc, .slice (some ad) n c'], .int .i64 cd] rfl rfl rfl (by kernel_rfl) ((r07_One z sc cd _ _ HZ.out.1 HZ.out.2 H255.out.1 H255.out.2).mono fun e w' h => ⟨_, h.1, rfl, (Below.drew (Below.refl _ _)).trans (h.2.mono (Nat.le_refl _))⟩) ?_
      rintro v2 w2 ⟨rfl, hb2⟩
      have hb2' : Below (w.heap.size + 1) wr w2 := hb2.mono (by omega)
      refine hK _ _ (.inr (hSall _ hb2')) ?_
      simp only [Act.put, List.setIfInBounds_toArray, List.set_cons_zero, List.set_cons_succ]
      refine AnyX.one (i := 16) (by kernel_rfl) rfl (fun K' hK => ?_)
      go_simp
      refine hK _ _ (.inr (hSall _ (hb2'.alloc (Nat.le_trans hsz hb2.size) _))) ?_
      try simp only [Act.put, List.setIfInBounds_toArray, List.set_cons_zero, List.set_cons_succ]
      refine AnyX.one (i := 17) (by kernel_rfl) rfl (fun K' hK => ?_)
      refine step_app (w0 := wr) (w.heap.size + 1) 1 (.tmp 14) (.tmp 30) 22 21 (.int .i32 0) 4 rfl rfl Try.underlying22 info_i32 rfl (by decide) u5 acc.length acc #[.int .i32 (oneI z sc cd)] w2.heap.size rfl rfl rfl rfl (by simp [Value.oneCell']) (own_below HOW hb2) hb2' (Nat.le_trans hsz hb2'.size) hn' (by decide) ?_
      intro v1 w1 HO1 HB1 HG1 HA1
      refine hK _ _ (.inr (hSall _ HB1)) ?_
      simp only [Act.put, List.setIfInBounds_toArray, List.set_cons_zero, List.set_cons_succ]
      (refine AnyX.last (i := 18) (fuel := 0) (o := ?ooa) ?gaa ?gba ?gca rfl ?gda; (case gba => rfl); (case gaa => kernel_rfl); (case gca => kernel_rfl); intro K' hK; go_simp; refine hK _ _ ?_)
      go_wp2_with fail
      go_roundg (ks.length - (k + 1))
      case rel => exact ⟨k + 1, by omega, by go_num, by omega, (HB1.block w.heap.size (by omega)).trans hk0, by rw [HS.out]; simpa using HO1, HB.trans (HB1.mono (by omega))⟩
      case measure => rw [HG.out]; omega
    · obtain rfl : k = ks.length := by omega
      rw [List.take_length] at HO
      go_wp2
      go_ret
      refine ⟨HB, _, rfl, (Sl.ints HO ?_).keep (fun _ _ _ => rfl) (fun b _ h => by omega) (fun _ _ _ h => h)⟩
      exact keyL_in ks t

set_option maxRecDepth 100000 in
theorem r08_Value {F : Nat → Prop} {w : World} {u : Value} {h : Hd} {ks vs : List Gr} (n t : Nat) (hp : RpgV F w u h ks vs) (hv : GrsIn n vs) (ht : t < vs.length) (hn : n ≤ 256) :
    Calls Try.prog 10 #[u, .int .i64 t] w (RetSl w (fun _ => IntV .i32) (backL vs[t])) := by
  obtain ⟨kv, vv, rfl, h1, h2⟩ := hp
  obtain ⟨A, c, rfl, hc, hm⟩ := h1.form
  obtain ⟨A2, c2, rfl, _, _⟩ := h2.form
  obtain ⟨kb, vb, tk, dm, ly, hd, ix⟩ := h
  dsimp only at *
  obtain ⟨gb, rfl, _, hgl, cv, g0, g1, g2, hz, hs⟩ := h2.at_ rfl ht
  obtain ⟨A', c', rfl, _, _⟩ := hs.form
  obtain ⟨hcn, hsc, hcd⟩ := hv _ (List.getElem_mem ht)
  have hB1 : ∀ o, Below w.heap.size w (w.alloc o) := fun o => (Below.refl _ _).alloc (Nat.le_refl _) _
  have hbk := fun W hW => r07_Back (w := W) vs[t] (hs.below hW) hz hsc hcd (by omega)
  generalize vs[t] = g at *
  have HBK := Lib.hid hbk
  dsimp only at g0 g1 g2
  rw [Nat.add_zero] at g0
  clear hbk hcn hsc hcd hz hs h1 h2 hv
  go_enter Try.func10, Try.ntmps10
  go_wp2_with (go_at_call 20; refine (HBK.out _ (hB1 _)).mono ?_; rintro e w2 ⟨hb2, v, rfl, hv⟩)
  go_ret
  exact ⟨(hB1 _).trans (hb2.mono (by simp)), v, rfl, hv.keep (fun _ _ _ => rfl) (fun b _ h => by simp at h; omega) (fun _ _ _ h => h)⟩
end Go.Proofs.Ytkepgkjbhdgbiaa
