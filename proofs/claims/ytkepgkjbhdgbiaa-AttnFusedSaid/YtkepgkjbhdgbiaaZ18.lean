/- Contracts of functions of the program, and what they need (QAll, QNew, QQuant, QQuant2). -/
import Derived.Test.YtkepgkjbhdgbiaaZ9
import Derived.Test.YtkepgkjbhdgbiaaZ15

namespace Go.Proofs.Ytkepgkjbhdgbiaa
open Go.RowKit

set_option maxRecDepth 100000 in
theorem page_codes {F : Nat → Prop} {w : World} {v : Value} {gs : List Gr} (n : Nat) (h : SlN F w 3 (GrR F w) v gs) (hn : ∀ g ∈ gs, g.codes.length = n) :
    Calls Try.prog 61 #[v, .int .i64 gs.length, .int .i64 n] w (fun e w' => e = .returned (.bool true) ∧ Below w.heap.size w w') := by
  obtain ⟨A, c, rfl, hc, hm⟩ := h.form
  go_enter Try.func61, Try.ntmps61
  go_wp2
  go_loopg [11] gs.length (fun g v11 wr => ∃ k : Nat, k ≤ gs.length ∧ v11 = .int .i64 k ∧ g = gs.length - k ∧ Below w.heap.size w wr)
  case atStart => exact ⟨0, Nat.zero_le _, rfl, by omega, Below.refl _ _⟩
  case round =>
    obtain ⟨k, hk, rfl, hg, HB⟩ := hrel
    have HG := Lib.hid hg
    clear hg
    by_cases hlt : k < gs.length
    · obtain ⟨gb, rfl, _, hgl, cv, g0, g1, g2, _, hs⟩ := h.at_ rfl hlt
      obtain ⟨A', c', rfl, _, _⟩ := hs.form
      have hcn := hn _ (List.getElem_mem hlt)
      rw [hcn] at g2
      have c0 := cell_below HB g0
      have c1 := cell_below HB g1
      have c2 := cell_below HB g2
      generalize gs[k] = x at *
      rw [Nat.add_zero] at c0
      have hne : ((n : Int) != (n : Int)) = false := by simp
      clear g0 g1 g2 hs hcn
      go_wp2
      go_roundg (gs.length - (k + 1))
      case rel => exact ⟨k + 1, by omega, by go_num, by omega, HB.alloc HB.size _⟩
      case measure => rw [HG.out]; omega
    · obtain rfl : k = gs.length := by omega
      go_wp2
      go_ret
      exact ⟨by simp, HB⟩

set_option maxRecDepth 100000 in
set_option maxHeartbeats 1000000 in
theorem page_packAll {F : Nat → Prop} {w : World} {v : Value} {gs : List Gr} (n b : Nat) (hb : BitsN b) (h : SlN F w 3 (GrR F w) v gs) (hok : ∀ g ∈ gs, GrOk b g.scale g.codes) (hn : ∀ g ∈ gs, g.codes.length = n) (hl : gs.length ≤ 1000000) :
    Calls Try.prog 62 #[v, .int .i64 b] w (fun e w' => Below w.heap.size w w' ∧ ∃ pv, e = .returned (.tuple #[pv, .int .i64 0]) ∧ SlN (fun x => w.heap.size ≤ x) w' 4 (PkR (fun x => w.heap.size ≤ x) w' n b) pv (gs.map (packG b))) := by
  obtain ⟨A, c, rfl, hc, hm⟩ := h.form
  go_enter Try.func62, Try.ntmps62
  go_wp2
  go_loopg [6, 14] gs.length (fun g v6 v14 wr => ∃ k : Nat, k ≤ gs.length ∧ v14 = .int .i64 k ∧ g = gs.length - k ∧
    OwnN wr w.heap.size 129 4 (PkR (Fx w.heap.size [v6.ownBlock]) wr n b) v6 ((gs.take k).map (packG b)) ∧ Below w.heap.size w wr)
  case atStart => exact ⟨0, Nat.zero_le _, rfl, by omega, OwnN.nil, Below.refl _ _⟩
  case round =>
    obtain ⟨k, hk, rfl, hg, HN, HB⟩ := hrel
    have HG := Lib.hid hg
    clear hg
    by_cases hlt : k < gs.length
    · obtain ⟨xs, HO, hxl, hxr⟩ := HN
      have hkl : ((gs.take k).map (packG b)).length = k := by simp; omega
      rw [hkl] at HO hxl
      have HKL := Lib.hid hkl
      have HXL := Lib.hid hxl
      have HXR := Lib.hid hxr
      clear hxl hxr hkl
      obtain ⟨gb, rfl, _, hgl, cv, g0, g1, g2, hz, hs⟩ := h.at_ rfl hlt
      obtain ⟨A', c', rfl, _, _⟩ := hs.form
      have hcn := hn _ (List.getElem_mem hlt)
      have hgo := hok _ (List.getElem_mem hlt)
      have hgw : gs[k].codes.length ≤ 256 := hgo.2.2.2.1
      have hts : (gs.take (k + 1)).map (packG b) = (gs.take k).map (packG b) ++ [packG b gs[k]] := by rw [List.take_succ_eq_append_getElem hlt, List.map_append]; rfl
      have c0 := cell_below HB g0
      have c1 := cell_below HB g1
      have c2 := cell_below HB g2
      have hs2 := hs.below HB
      generalize gs[k] = x at *
      obtain ⟨z, sc, cs⟩ := x
      dsimp only at *
      rw [Nat.add_zero] at c0
      have hBa : ∀ o, Below w.heap.size w (wr.alloc o) := fun o => HB.alloc HB.size o
      have hrr := fun W hW => group_Right (w := W) b hb z sc (hs2.below hW) hgo
      have hpp := fun W hW => pack_Pack (w := W) b hb (hs2.below hW) hgw hgo.2.2.2.2.2
      have HR := Lib.hid hrr
      have HP := Lib.hid hpp
      have HTS := Lib.hid hts
      have HGO := Lib.hid hgo
      have HCN := Lib.hid hcn
      clear g0 g1 g2 hs hrr hpp hts hgo hcn
      go_upto_region 11 with (first
        | (go_at_call 77; (refine (HR.out _ ((Below.refl _ _).alloc (Nat.le_refl _) _)).mono ?_); rintro e w2 ⟨rfl, hb2⟩; obtain ⟨q1, q2⟩ := bcell hb2)
        | (go_at_call 78; (refine (HP.out _ (((Below.refl _ _).alloc (Nat.le_refl _) _).trans (hb2.mono (by simp)))).mono ?_); rintro e w3 ⟨hb3, wv, rfl, hws⟩; obtain ⟨A5, c5, rfl, _, _⟩ := hws.form))
      have d0 : w3.cell? ⟨wr.heap.size, 0, none⟩ = some (.int .i32 z) := cell_below hb3 (cell_below hb2 (by simp))
      have d1 : w3.cell? ⟨wr.heap.size, 1, none⟩ = some (.int .u32 sc) := cell_below hb3 (cell_below hb2 (by simp))
      have HO3 := own_below (own_below (HO.alloc _) hb2) hb3
      have hs23 : wr.heap.size + 1 ≤ w2.heap.size := by simpa using hb2.size
      have hs33 : w2.heap.size ≤ w3.heap.size := hb3.size
      have hbr3 : Below wr.heap.size wr w3 := (((Below.refl _ _).alloc (Nat.le_refl _) _).trans (hb2.mono (by simp))).trans (hb3.mono (by omega))
      have HB3 : Below w.heap.size w w3 := HB.trans (hbr3.mono HB.size)
      have hk' : k + 1 ≤ 1099511627776 := by omega
      have HOW := HO
      clear q1 q2 c0 c1 c2 HO
      go_wp2_with (at_builtin; refine appN _ 4 (.tmp 34) (.tmp 42) 109 129 (.agg #[.int .i32 0, .int .u32 0, .slice none 0 0, .slice none 0 0]) 56 rfl rfl Try.underlying109 info_pk rfl (by decide) _ _ _ _ _ rfl rfl (by simp) rfl (by simp [Value.oneCell']) HO3 HB3 HB3.size hk' (by decide) ?_; intro v1 w1 HO1 HB1 HG1 HA1)
      replace HG1 : w3.grownBy w1 u6.ownBlock := HG1
      replace HA1 : v1.ownBlock = u6.ownBlock ∨ ∃ b, v1.ownBlock = some b ∧ w3.heap.size ≤ b := HA1
      go_roundg (gs.length - (k + 1))
      case rel =>
        refine ⟨k + 1, by omega, by go_num, by omega, ?_, HB1⟩
        rw [HTS.out]
        refine OwnN.snoc HO1 HKL.out.symm (by rw [HKL.out]; exact HXL.out) rfl (PkR.loc _ _ _ _) (fun j x hj => ?_) ⟨.slice A5 (packL cs b).length c5, rfl, rfl, rfl, rfl, hz, (show 0 ≤ sc ∧ sc ≤ 4294967295 from ⟨HGO.out.1, Int.le_trans HGO.out.2.1 (by decide)⟩), ?_, by show (packL cs b).length = _; rw [packL_len]; unfold wordsN; rw [HCN.out]⟩
        · refine ((HXR.out j x hj).keep (fun b hb _ => hbr3.block b hb) (fun _ _ h => h)).keep (fx_keep HG1 (.inr (by simp))) (fx_turn (fx_one HA1))
        · skip
          refine (Sl.keep hws (fun _ _ _ => rfl) (fun b _ hf => fx_new (v := u6) (W := wr) (B := w.heap.size) (fun k hk => own_lt HOW k hk) HB.size b (by have h : w2.heap.size ≤ b := hf; omega)) (fun _ _ _ h => h)).keep (fx_keep HG1 (.inr (by simp))) (fx_turn (fx_one HA1)) (fun _ _ _ h => h)
      case measure => rw [HG.out]; omega
    · obtain rfl : k = gs.length := by omega
      rw [List.take_length] at HN
      have hsl := HN.sl (PkR.loc _ _ _ _)
      go_wp2
      go_ret2
      exact ⟨HB, _, rfl, SlN.keep hsl (fun _ _ _ => rfl) (fun _ _ h => h) (Nat.le_refl _) (fun _ _ _ h => h.keep (fun _ _ _ => rfl) (fun _ _ h => h.1))⟩
end Go.Proofs.Ytkepgkjbhdgbiaa

namespace Go.Proofs.Ytkepgkjbhdgbiaa
open Go.RowKit

/-- It returns a page. -/
def RetPg (w : World) (p : Pg) (e : Ending) (w' : World) : Prop :=
  Below w.heap.size w w' ∧ ∃ g, e = .returned (.tuple #[.pointer (some ⟨g, 0, none⟩), .int .i64 0]) ∧ PageAt (fun b => w.heap.size ≤ b) w' g p
/-- Groups of so many codes that may be. -/
def GrsOk (n b : Nat) (gs : List Gr) : Prop := (∀ g ∈ gs, GrOk b g.scale g.codes) ∧ ∀ g ∈ gs, g.codes.length = n

theorem SlN.below {F : Nat → Prop} {w w' : World} {v : Value} {gs : List Gr} (h : SlN F w 3 (GrR F w) v gs) (hb : Below w.heap.size w w') : SlN F w' 3 (GrR F w') v gs :=
  SlN.keep h (fun b hb' _ => hb.block b hb') (fun _ _ h => h) hb.size (fun _ _ _ h => h.keep (fun b hb' _ => hb.block b hb') (fun _ _ h => h))

set_option maxRecDepth 100000 in
set_option maxHeartbeats 1000000 in
theorem page_New {F : Nat → Prop} {w : World} {v1 v2 : Value} {ks vs : List Gr} (kb vb t d : Nat) (ly hd ix : Int) (h1 : SlN F w 3 (GrR F w) v1 ks) (h2 : SlN F w 3 (GrR F w) v2 vs)
    (ho : HdOk ⟨kb, vb, t, d, ly, hd, ix⟩) (hk : ks.length = d) (hv : vs.length = t) (hko : GrsOk t kb ks) (hvo : GrsOk d vb vs) :
    Calls Try.prog 33 #[.agg (hdCells ⟨kb, vb, t, d, ly, hd, ix⟩), v1, v2] w (RetPg w ⟨⟨kb, vb, t, d, ly, hd, ix⟩, ks.map (packG kb), vs.map (packG vb)⟩) := by
  have hr := fun W => page_Right ⟨kb, vb, t, d, ly, hd, ix⟩ W
  rw [(hdB_iff _).2 ho] at hr
  have hO := ho
  obtain ⟨b1, b2, ⟨t1, t2⟩, ⟨d1, d2⟩, _⟩ := ho
  dsimp only at b1 b2 t1 t2 d1 d2
  have hkb : BitsN kb := by unfold BitsN; omega
  have hvb : BitsN vb := by unfold BitsN; omega
  have hB1 : Below w.heap.size w (w.alloc (.cells #[.int .i64 kb, .int .i64 vb, .int .i64 t, .int .i64 d, .int .i64 ly, .int .i64 hd, .int .i64 ix] 41)) := (Below.refl _ _).alloc (Nat.le_refl _) _
  have hc1 := fun W hW => page_codes (w := W) t (h1.below hW) hko.2
  have hc2 := fun W hW => page_codes (w := W) d (h2.below hW) hvo.2
  rw [hk] at hc1
  rw [hv] at hc2
  have hp1 := fun W hW => page_packAll (w := W) t kb hkb (h1.below hW) hko.1 hko.2 (by omega)
  have hp2 := fun W hW => page_packAll (w := W) d vb hvb (h2.below hW) hvo.1 hvo.2 (by omega)
  have HR := Lib.hid hr
  have HC1 := Lib.hid hc1
  have HC2 := Lib.hid hc2
  have HP1 := Lib.hid hp1
  have HP2 := Lib.hid hp2
  have HK := Lib.hid hk
  have HV := Lib.hid hv
  clear hr hc1 hc2 hp1 hp2 hk hv
  unfold hdCells at *
  go_enter Try.func33, Try.ntmps33
  go_upto_region 6 with (first
    | (go_at_call 30; refine (HR.out _).mono ?_; rintro e w2 ⟨rfl, hb2⟩; have k2 := blk_below hb2 (blk_new rfl); obtain ⟨p1, p2, _⟩ := cells_of k2; have z2 := hb2.size; simp only [World.size_alloc] at z2)
    | (go_at_call 61; (with_reducible refine (HC1.out _ (hB1.trans (hb2.mono (by simp)))).mono ?_); rintro e w3 ⟨rfl, hb3⟩; have k3 := blk_below hb3 k2; obtain ⟨q1, q2, _⟩ := cells_of k3; have z3 := hb3.size)
    | (go_at_call 61; (with_reducible refine (HC2.out _ ((hB1.trans (hb2.mono (by simp))).trans (hb3.mono (by omega)))).mono ?_); rintro e w4 ⟨rfl, hb4⟩; have k4 := blk_below hb4 k3; obtain ⟨r1, r2, _⟩ := cells_of k4; have z4 := hb4.size))
  have hb04 : Below w.heap.size w w4 := ((hB1.trans (hb2.mono (by simp))).trans (hb3.mono (by omega))).trans (hb4.mono (by omega))
  have y4 := hb04.size
  clear p1 p2 q1 q2 k2 k3 z2 z3 z4 hb2 hb3 hb4
  go_upto_region 12 with (first
    | (go_at_call 62; (with_reducible refine (HP1.out _ hb04).mono ?_); rintro e w5 ⟨hb5, pv1, rfl, hs1⟩; obtain ⟨A1, c1, rfl, _, _⟩ := hs1.form; have k5 := blk_below hb5 k4; obtain ⟨s1, s2, _⟩ := cells_of k5; have z5 := hb5.size)
    | (go_at_call 62; (with_reducible refine (HP2.out _ (hb04.trans (hb5.mono y4))).mono ?_); rintro e w6 ⟨hb6, pv2, rfl, hs2⟩; obtain ⟨A2, c2, rfl, _, _⟩ := hs2.form; have k6 := blk_below hb6 k5; obtain ⟨t1, t2, _⟩ := cells_of k6; have z6 := hb6.size))
  clear r1 r2 s1 s2 k4 k5
  go_wp2
  go_ret2
  have hb06 : Below w.heap.size w w6 := (hb04.trans (hb5.mono y4)).trans (hb6.mono (by omega))
  have hkeep : ∀ {n b : Nat} {v : Value} {l : List Pk} {B : Nat} {W : World}, w.heap.size ≤ B → (∀ i, i < W.heap.size → w6.heap[i]? = W.heap[i]?) → W.heap.size ≤ w6.heap.size → ∀ o, SlN (fun x => B ≤ x) W 4 (PkR (fun x => B ≤ x) W n b) v l → SlN (fun x => w.heap.size ≤ x) (w6.alloc o) 4 (PkR (fun x => w.heap.size ≤ x) (w6.alloc o) n b) v l := by
    intro n b v l B W hB hW hs o h
    have hW2 : ∀ i, i < W.heap.size → (w6.alloc o).heap[i]? = W.heap[i]? := fun i hi => (((Below.refl w6.heap.size w6).alloc (Nat.le_refl _) o).block i (by omega)).trans (hW i hi)
    exact SlN.keep h (fun i hi _ => hW2 i hi) (fun _ _ h => Nat.le_trans hB h) (by simp; omega) (fun _ _ _ h => h.keep (fun i hi _ => hW2 i hi) (fun _ _ h => Nat.le_trans hB h))
  refine ⟨hb06.alloc hb06.size _, w6.heap.size, rfl, hb06.size, hO, by simp [HK.out], by simp [HV.out], _, _, blk_new rfl, hkeep y4 (fun i hi => hb6.block i hi) z6 _ ?_, hkeep (B := w5.heap.size) (W := w6) (by omega) (fun _ _ => rfl) (Nat.le_refl _) _ ?_⟩
  · simpa using hs1
  · simpa using hs2
end Go.Proofs.Ytkepgkjbhdgbiaa

namespace Go.Proofs.Ytkepgkjbhdgbiaa
open Go.RowKit

def numB (ll : List (List Int)) (n each : Nat) : Bool := allLen ll each && ll.length == n
theorem page_numbers {F : Nat → Prop} {w : World} {v : Value} {ll : List (List Int)} (h : Rows F w v ll) (m n : Nat) : Calls Try.prog 31 #[v, .int .i64 m, .int .i64 n] w (Ret w (.bool (numB ll m n))) := by
  obtain ⟨A, c, rfl, hc, hm⟩ := Sl.form h
  go_enter Try.func31, Try.ntmps31
  go_wp2
  go_loopg [11] ll.length (fun g v9 wr => ∃ k : Nat, k ≤ ll.length ∧ v9 = .int .i64 k ∧ g = ll.length - k ∧ (∀ j (hj : j < k) (hl : j < ll.length), ll[j].length = n) ∧ ∃ nd, wr = w.drewN nd)
  case atStart => exact ⟨0, Nat.zero_le _, rfl, by omega, fun j hj => by omega, 0, rfl⟩
  case round =>
    obtain ⟨k, hk, rfl, hg, he, nd, rfl⟩ := hrel
    have HG := Lib.hid hg
    have HE := Lib.hid he
    clear hg he
    by_cases hlt : k < ll.length
    · obtain ⟨ad, A', c', rfl, hu, hr, _, _⟩ := h.row hlt
      generalize hx : ll[k].length = q at hu hr
      have HX := Lib.hid hx
      clear hx hr
      by_cases hmn : q = n
      · subst hmn
        go_wp2
        go_roundg (ll.length - (k + 1))
        case rel => exact ⟨k + 1, by omega, by go_num, by omega, fun j hj hl => by
          rcases Nat.lt_or_ge j k with h | h
          · exact HE.out j h hl
          · obtain rfl : j = k := by omega
            exact HX.out, (by first | exact ⟨_, rfl⟩ | exact ⟨_, World.drewN_drewN ..⟩ | exact ⟨_, (World.drewN_drewN ..).trans (World.drewN_drewN ..)⟩)⟩
        case measure => rw [HG.out]; omega
      · have hmn' : ((q : Int) != (n : Int)) = true := by simp; omega
        have hf : numB ll m n = false := by
          unfold numB allLen
          rw [Bool.and_eq_false_iff]
          refine .inl ?_
          rw [List.all_eq_false]
          exact ⟨ll[k], List.getElem_mem hlt, by rw [HX.out]; simpa using hmn⟩
        have HF := Lib.hid hf
        clear hf hmn
        go_wp2
        go_ret
        rw [HF.out]
        exact ⟨rfl, (by first | exact ⟨_, rfl⟩ | exact ⟨_, World.drewN_drewN ..⟩ | exact ⟨_, (World.drewN_drewN ..).trans (World.drewN_drewN ..)⟩)⟩
    · obtain rfl : k = ll.length := by omega
      have ha : allLen ll n = true := by
        unfold allLen
        rw [List.all_eq_true]
        intro x hx
        obtain ⟨j, hj, rfl⟩ := List.getElem_of_mem hx
        simpa using HE.out j hj hj
      have HA := Lib.hid ha
      clear ha HE
      go_wp2
      go_ret
      refine ⟨?_, (by first | exact ⟨_, rfl⟩ | exact ⟨_, World.drewN_drewN ..⟩ | exact ⟨_, (World.drewN_drewN ..).trans (World.drewN_drewN ..)⟩)⟩
      unfold numB
      rw [HA.out, Bool.true_and]
      have : ((ll.length : Int) == (m : Int)) = (ll.length == m) := by rw [Bool.eq_iff_iff]; simp; omega
      first | exact congrArg (fun b => Ending.returned (Value.bool b)) this | simp

/-! A page of numbers. -/
def colL (ks : List (List Int)) (i : Nat) : List Int := ks.map fun l => l.getD i 0
def quantG (b : Nat) (l : List Int) : Gr := ⟨minL l, gscaleI l b, l.map (codeI l b)⟩
def quantP (h : Hd) (ks vs : List (List Int)) : Pg :=
  ⟨h, ((List.range h.dim.toNat).map fun i => quantG h.kb.toNat (colL ks i)).map (packG h.kb.toNat), (vs.map (quantG h.vb.toNat)).map (packG h.vb.toNat)⟩
/-- Can they be one? -/
def qokB (h : Hd) (ks vs : List (List Int)) : Bool := hdB h && numB ks h.tokens.toNat h.dim.toNat && numB vs h.tokens.toNat h.dim.toNat

theorem quant_ok {b : Nat} (hb : BitsN b) {l : List Int} (h0 : 0 < l.length) (h1 : l.length ≤ 256) (hl : ∀ x ∈ l, InK .i32 x) : GrOk b (quantG b l).scale (quantG b l).codes := by
  obtain ⟨s1, s2, _, _⟩ := scale_bd hb h0 hl
  refine ⟨s1, s2, by simpa [quantG] using h0, by simpa [quantG] using h1, fun hz c hc => ?_, fun c hc => ?_⟩
  · obtain ⟨x, hx, rfl⟩ := List.mem_map.1 hc
    exact code_flat (by have : gscaleI l b = 0 := hz; omega) _
  · obtain ⟨x, hx, rfl⟩ := List.mem_map.1 hc
    exact code_bd hb hl hx

/-- It returns no page, and an error. -/
def RetNoPg (w : World) (e : Ending) (w' : World) : Prop := Below w.heap.size w w' ∧ ∃ n : Int, n ≠ 0 ∧ InK .i64 n ∧ e = .returned (.tuple #[.pointer none, .int .i64 n])

theorem Rows.inK {F : Nat → Prop} {w : World} {v : Value} {ll : List (List Int)} (h : Rows F w v ll) : ∀ l ∈ ll, ∀ x ∈ l, InK .i32 x := by
  intro l hl
  obtain ⟨j, hj, rfl⟩ := List.getElem_of_mem hl
  obtain ⟨_, _, _, _, _, h⟩ := h
  obtain ⟨_, _, _, _, _, hr⟩ := h j _ (List.getElem?_eq_getElem hj)
  exact Sl.inK hr

theorem page_Quantize_err {F G : Nat → Prop} {w : World} {v1 v2 : Value} {ks vs : List (List Int)} (h : Hd) (h1 : Rows F w v1 ks) (h2 : Rows G w v2 vs) (hq : qokB h ks vs = false) :
    Calls Try.prog 16 #[.agg (hdCells h), v1, v2] w (RetNoPg w) := by
  have hr := fun W => page_Right h W
  obtain ⟨A1, c1, rfl, _, _⟩ := Sl.form h1
  obtain ⟨A2, c2, rfl, _, _⟩ := Sl.form h2
  cases hh : hdB h with
  | false =>
    rw [hh] at hr
    have HR := Lib.hid hr
    clear hr hh hq
    unfold hdCells at *
    obtain ⟨kb, vb, tk, dm, ly, hd, ix⟩ := h
    dsimp only at *
    go_enter Try.func16, Try.ntmps16
    go_wp2_with (go_at_call 30; refine (HR.out _).mono ?_; rintro e w2 ⟨rfl, hb2⟩)
    go_ret2
    exact ⟨((Below.refl _ _).alloc (Nat.le_refl _) _).trans (hb2.mono (by simp)), 11, by decide, ⟨by decide, by decide⟩, rfl⟩
  | true =>
    rw [hh] at hr
    have ho := (hdB_iff h).1 hh
    unfold hdCells at *
    obtain ⟨kb, vb, tk, dm, ly, hd, ix⟩ := h
    obtain ⟨_, _, ⟨t1, t2⟩, ⟨d1, d2⟩, _⟩ := ho
    dsimp only at *
    obtain ⟨t, rfl⟩ := Int.eq_ofNat_of_zero_le (show 0 ≤ tk by omega)
    obtain ⟨d, rfl⟩ := Int.eq_ofNat_of_zero_le (show 0 ≤ dm by omega)
    have hB1 : ∀ o, Below w.heap.size w (w.alloc o) := fun o => (Below.refl _ _).alloc (Nat.le_refl _) _
    have hn1 := fun W hW => page_numbers (w := W) (h1.below hW) t d
    have hn2 := fun W hW => page_numbers (w := W) (h2.below hW) t d
    simp only [qokB, hh, Bool.true_and, Int.toNat_natCast] at hq
    clear hh
    have HR := Lib.hid hr
    cases e1 : numB ks t d with
    | false =>
      rw [e1] at hn1
      have HN := Lib.hid hn1
      clear hn1 hn2 hr hq e1
      go_enter Try.func16, Try.ntmps16
      go_wp2_with (first
        | (go_at_call 30; refine (HR.out _).mono ?_; rintro e w2 ⟨rfl, hb2⟩; obtain ⟨p1, p2, _⟩ := cells_of (blk_below hb2 (blk_new rfl)))
        | (go_at_call 31; (with_reducible refine (HN.out _ ((hB1 _).trans (hb2.mono (by simp)))).mono ?_); rintro e w' ⟨rfl, nq, rfl⟩))
      go_ret2
      exact ⟨below_drewN ((hB1 _).trans (hb2.mono (by simp))) _, 25, by decide, ⟨by decide, by decide⟩, rfl⟩
    | true =>
      rw [e1] at hn1
      rw [e1, Bool.true_and] at hq
      rw [hq] at hn2
      have HN := Lib.hid hn1
      have HN2 := Lib.hid hn2
      clear hn1 hn2 hr hq e1
      go_enter Try.func16, Try.ntmps16
      go_wp2_with (first
        | (go_at_call 30; refine (HR.out _).mono ?_; rintro e w2 ⟨rfl, hb2⟩; obtain ⟨p1, p2, _⟩ := cells_of (blk_below hb2 (blk_new rfl)))
        | (go_at_call 31; (with_reducible refine (HN.out _ ((hB1 _).trans (hb2.mono (by simp)))).mono ?_); rintro e w' ⟨rfl, nq, rfl⟩)
        | (go_at_call 31; (with_reducible refine (HN2.out _ (below_drewN ((hB1 _).trans (hb2.mono (by simp))) _)).mono ?_); rintro e w' ⟨rfl, nq2, rfl⟩))
      go_ret2
      exact ⟨below_drewN ((hB1 _).trans (hb2.mono (by simp))) _, 25, by decide, ⟨by decide, by decide⟩, rfl⟩
end Go.Proofs.Ytkepgkjbhdgbiaa

namespace Go.Proofs.Ytkepgkjbhdgbiaa
open Go.RowKit

theorem GrR.grow {w w1 : World} {B : Nat} {X X' : List (Option Nat)} {row : Option Nat} {get : Nat → Option Value} {g : Gr} (h : GrR (Fx B X) w get g) (hg : w.grownBy w1 row) (hrow : row = none ∨ row ∈ X) (hX : ∀ o ∈ X', o ∈ X ∨ ∃ b, o = some b ∧ w.heap.size ≤ b) : GrR (Fx B X') w1 get g :=
  h.keep (fx_keep hg hrow) (fx_turn hX)
theorem OwnN.below {w w' : World} {B : Nat} {F : Nat → Prop} {e : TypeId} {v : Value} {l : List Gr} (h : OwnN w B e 3 (GrR F w) v l) (hb : Below w.heap.size w w') : OwnN w' B e 3 (GrR F w') v l := by
  obtain ⟨xs, h1, h2, h3⟩ := h
  exact ⟨xs, own_below h1 hb, h2, fun j x hj => (h3 j x hj).keep (fun b hb' _ => hb.block b hb') (fun _ _ h => h)⟩

/-- One group more. -/
theorem grs_snoc {wo w2 w1 : World} {B : Nat} {v8 v1 v : Value} {l : List Gr} {xs : List Value} {z sc : Int} {cs : List Int} {e : TypeId} {x : Gr}
    (ho : wo.ownsRow B e 3 v8 l.length xs) (hl : xs.length = l.length * 3) (hr : ∀ (j : Nat) x, l[j]? = some x → GrR (Fx B [v8.ownBlock]) wo (fun i => xs[j * 3 + i]?) x)
    (hb : Below wo.heap.size wo w2) (hB : B ≤ wo.heap.size) (hg : w2.grownBy w1 v8.ownBlock) (ha : v1.ownBlock = v8.ownBlock ∨ ∃ b, v1.ownBlock = some b ∧ w2.heap.size ≤ b)
    (h1 : w1.ownsRow B e 3 v1 (l.length + 1) (xs ++ [.int .i32 z, .int .u32 sc, v])) (hz : InK .i32 z) (hs : Sl (fun b => wo.heap.size ≤ b) w2 (IntV .i64) v cs) (hx : x = ⟨z, sc, cs⟩) :
    OwnN w1 B e 3 (GrR (Fx B [v1.ownBlock]) w1) v1 (l ++ [x]) := by
  subst hx
  refine OwnN.snoc h1 rfl hl rfl (GrR.loc _ _) (fun j x hj => ?_) ⟨v, rfl, rfl, rfl, hz, ?_⟩
  · exact ((hr j x hj).keep (fun b hb' _ => hb.block b hb') (fun _ _ h => h)).grow hg (.inr (by simp)) (fx_one ha)
  · exact (Sl.keep hs (fun _ _ _ => rfl) (fun b _ hf => fx_new (v := v8) (W := wo) (B := B) (fun k hk => own_lt ho k hk) hB b hf) (fun _ _ _ h => h)).keep (fx_keep hg (.inr (by simp))) (fx_turn (fx_one ha)) (fun _ _ _ h => h)

theorem Grs.sl {w : World} {B : Nat} {e : TypeId} {v : Value} {l : List Gr} {X : List (Option Nat)} (h : OwnN w B e 3 (GrR (Fx B X) w) v l) : SlN (fun b => B ≤ b) w 3 (GrR (fun b => B ≤ b) w) v l :=
  SlN.keep (h.sl (GrR.loc _ _)) (fun _ _ _ => rfl) (fun _ _ h => h) (Nat.le_refl _) (fun _ _ _ h => h.keep (fun _ _ _ => rfl) (fun _ _ h => h.1))

set_option maxRecDepth 100000 in
set_option maxHeartbeats 2000000 in
theorem page_Quantize {F G : Nat → Prop} {w : World} {v1 v2 : Value} {ks vs : List (List Int)} (kb vb t d : Nat) (ly hd ix : Int) (h1 : Rows F w v1 ks) (h2 : Rows G w v2 vs)
    (ho : HdOk ⟨kb, vb, t, d, ly, hd, ix⟩) (hk : numB ks t d = true) (hv : numB vs t d = true) :
    Calls Try.prog 16 #[.agg (hdCells ⟨kb, vb, t, d, ly, hd, ix⟩), v1, v2] w (RetPg w (quantP ⟨kb, vb, t, d, ly, hd, ix⟩ ks vs)) := by
  have hr := fun W => page_Right ⟨kb, vb, t, d, ly, hd, ix⟩ W
  rw [(hdB_iff _).2 ho] at hr
  have hO := Lib.hid ho
  obtain ⟨A1, c1, rfl, _, _⟩ := Sl.form h1
  obtain ⟨A2, c2, rfl, _, _⟩ := Sl.form h2
  obtain ⟨b1, b2, ⟨t1, t2⟩, ⟨d1, d2⟩, _⟩ := ho
  dsimp only at b1 b2 t1 t2 d1 d2
  have hkb : BitsN kb := by unfold BitsN; omega
  have hvb : BitsN vb := by unfold BitsN; omega
  have hB1 : ∀ o, Below w.heap.size w (w.alloc o) := fun o => (Below.refl _ _).alloc (Nat.le_refl _) _
  have hn1 := fun W hW => page_numbers (w := W) (h1.below hW) t d
  have hn2 := fun W hW => page_numbers (w := W) (h2.below hW) t d
  rw [hk] at hn1
  rw [hv] at hn2
  have hnum : ∀ {ll : List (List Int)}, numB ll t d = true → ll.length = t ∧ ∀ l ∈ ll, l.length = d := by
    intro ll h
    unfold numB allLen at h
    rw [Bool.and_eq_true, List.all_eq_true] at h
    exact ⟨by simpa using h.2, fun l hl => by simpa using h.1 l hl⟩
  have HKN := Lib.hid (hnum hk)
  have HVN := Lib.hid (hnum hv)
  have HR := Lib.hid hr
  have HN1 := Lib.hid hn1
  have HN2 := Lib.hid hn2
  have HIK := Lib.hid h1.inK
  have HIV := Lib.hid h2.inK
  clear hr hn1 hn2 hk hv hnum b1 b2
  unfold hdCells at *
  go_enter Try.func16, Try.ntmps16
  go_upto_region 7 with (first
    | (go_at_call 30; refine (HR.out _).mono ?_; rintro e w2 ⟨rfl, hb2⟩; have k2 := blk_below hb2 (blk_new rfl); obtain ⟨p1, p2, _⟩ := cells_of k2)
    | (go_at_call 31; (with_reducible refine (HN1.out _ ((hB1 _).trans (hb2.mono (by simp)))).mono ?_); rintro e w' ⟨rfl, nq, rfl⟩)
    | (go_at_call 31; (with_reducible refine (HN2.out _ (below_drewN ((hB1 _).trans (hb2.mono (by simp))) _)).mono ?_); rintro e w' ⟨rfl, nq2, rfl⟩))
  have hb02 : Below w.heap.size w w2 := (hB1 _).trans (hb2.mono (by simp))
  have y2 := hb02.size
  clear HR HN1 HN2 hb2
  go_wp2
  go_loopg [8, 41] d (fun g v8 v41 wr => ∃ k : Nat, k ≤ d ∧ v41 = .int .i64 k ∧ g = d - k ∧
    OwnN wr w2.heap.size 79 3 (GrR (Fx w2.heap.size [v8.ownBlock]) wr) v8 ((List.range k).map fun i => quantG kb (colL ks i)) ∧ Below w2.heap.size w2 wr)
  case atStart => exact ⟨0, Nat.zero_le _, rfl, by omega, OwnN.nil, drewN_below _ _⟩
  case round =>
    obtain ⟨k, hk, rfl, hg, HN, HB⟩ := hrel
    have HG := Lib.hid hg
    clear hg p1 p2
    obtain ⟨wo, hwo⟩ : ∃ wo : World, wo = wr := ⟨_, rfl⟩
    subst hwo
    have hb0o : Below w.heap.size w wo := hb02.trans (HB.mono y2)
    by_cases hlt : k < d
    · go_wp2
      go_loopg [11, 46] ks.length (fun g v11 v46 wx => ∃ j : Nat, j ≤ ks.length ∧ v46 = .int .i64 j ∧ g = ks.length - j ∧
        wx.ownsRow wo.heap.size 21 1 v11 (nums .i32 ((ks.take j).map fun l => l.getD k 0)).length (nums .i32 ((ks.take j).map fun l => l.getD k 0)) ∧ Below wo.heap.size wo wx)
      case atStart => exact ⟨0, Nat.zero_le _, rfl, by omega, World.ownsRow_nil _ _ _ _, Below.refl _ _⟩
      case round =>
        obtain ⟨j, hj, rfl, hg, HO, HBx⟩ := hrel
        have HG2 := Lib.hid hg
        clear hg
        by_cases hlt2 : j < ks.length
        · obtain ⟨ad, A', c', rfl, hu, hrw, _, _⟩ := (h1.below (hb0o.trans (HBx.mono hb0o.size))).row hlt2
          have hd1 : ks[j].length = d := HKN.out.2 _ (List.getElem_mem hlt2)
          have hlt3 : k < ks[j].length := by omega
          obtain ⟨ad', u', rfl, _, hu', rfl, hx1, hx2⟩ := hrw.at_ rfl hlt3
          have hn' : (nums .i32 ((ks.take j).map fun l => l.getD k 0)).length + 1 ≤ 2199023255552 := by simp [nums]; have := HKN.out.1; omega
          have hs : nums .i32 ((ks.take (j + 1)).map fun l => l.getD k 0) = nums .i32 ((ks.take j).map fun l => l.getD k 0) ++ [.int .i32 ks[j][k]] := by
            rw [take_succ_map _ _ hlt2]; simp [nums, hlt3]
          rw [hd1] at hu
          generalize ks[j][k] = x at *
          have HS := Lib.hid hs
          clear hs hd1 hlt3 hrw
          generalize nums .i32 ((ks.take j).map fun l => l.getD k 0) = acc at *
          go_wp2_with (at_builtin; refine app1 _ (.tmp 50) (.tmp 55) 22 21 (.int .i32 0) 4 rfl rfl Try.underlying22 info_i32 rfl _ _ _ rfl rfl rfl HO (by first | exact HBx | exact below_drewN HBx _) (HBx).size hn' (by decide) ?_; intro v1 w1 HO1 HB1 HG1 HA1)
          go_roundg (ks.length - (j + 1))
          case rel => exact ⟨j + 1, by omega, by go_num, by omega, by rw [HS.out]; exact HO1, HB1⟩
          case measure => rw [HG2.out]; omega
        · obtain rfl : j = ks.length := by omega
          rw [List.take_length] at HO
          have hcin : ∀ x ∈ colL ks k, InK .i32 x := by
            intro x hx
            obtain ⟨l, hl, rfl⟩ := List.mem_map.1 hx
            have hkl : k < l.length := by have := HKN.out.2 l hl; omega
            rw [getD_at hkl]
            exact HIK.out l hl _ (List.getElem_mem hkl)
          have hcol : Sl (fun b => wo.heap.size ≤ b) wr (IntV .i32) u11 (colL ks k) := Sl.ints HO hcin
          have hcl : (colL ks k).length = t := by unfold colL; rw [List.length_map]; exact HKN.out.1
          have hof := group_Of kb hkb hcol (by omega) (by omega)
          have hzin := min_max (x := colL ks k) (by omega) hcin
          have hts : ((List.range (k + 1)).map fun i => quantG kb (colL ks i)) = ((List.range k).map fun i => quantG kb (colL ks i)) ++ [quantG kb (colL ks k)] := by rw [List.range_succ, List.map_append]; rfl
          have hqg : quantG kb (colL ks k) = ⟨minL (colL ks k), gscaleI (colL ks k) kb, (colL ks k).map (codeI (colL ks k) kb)⟩ := rfl
          generalize minL (colL ks k) = z at *
          generalize gscaleI (colL ks k) kb = sc at *
          generalize (colL ks k).map (codeI (colL ks k) kb) = cds at *
          obtain ⟨xs, hox, hxl, hxr⟩ := HN
          have hgl : ((List.range k).map fun i => quantG kb (colL ks i)).length = k := by simp
          generalize ((List.range k).map fun i => quantG kb (colL ks i)) = gl at *
          have HTS := Lib.hid (And.intro hts hqg)
          have HOF := Lib.hid hof
          have HXL := Lib.hid hxl
          have HXR := Lib.hid hxr
          have HGL := Lib.hid hgl
          have HCL := Lib.hid hcl
          have kx := blk_below (HBx) (blk_below (W := w2) HB k2)
          obtain ⟨p1, p2, _⟩ := cells_of kx
          clear hts hqg hof hxl hxr hgl hcl HO hcol hcin
          go_upto_region 17 with (go_at_call 32; refine (HOF.out).mono ?_; rintro e w3 ⟨hb3, cv, rfl, hcs⟩; obtain ⟨A5, c5, rfl, _, _⟩ := hcs.form)
          have hbo3 : Below wo.heap.size wo w3 := HBx.trans (hb3.mono HBx.size)
          have HO3 := (own_below hox hbo3).alloc (.cells #[.int .i32 z, .int .u32 sc, .slice A5 cds.length c5] 79)
          have HB3 : Below w2.heap.size w2 (w3.alloc (.cells #[.int .i32 z, .int .u32 sc, .slice A5 cds.length c5] 79)) := (HB.trans (hbo3.mono HB.size)).alloc (Nat.le_trans HB.size hbo3.size) _
          have hk' : gl.length + 1 ≤ 1099511627776 := by have := HGL.out; omega
          go_wp2_with (at_builtin; refine appN _ 3 (.tmp 65) (.tmp 67) 78 79 (.agg #[.int .i32 0, .int .u32 0, .slice none 0 0]) 32 rfl rfl Try.underlying78 info_gr rfl (by decide) _ _ _ _ _ rfl rfl (by simp) rfl (by simp [Value.oneCell']) HO3 HB3 HB3.size hk' (by decide) ?_; intro v1 w1 HO1 HB1 HG1 HA1)
          replace HG1 : (w3.alloc (.cells #[.int .i32 z, .int .u32 sc, .slice A5 cds.length c5] 79)).grownBy w1 u8.ownBlock := HG1
          replace HA1 : v1.ownBlock = u8.ownBlock ∨ ∃ b, v1.ownBlock = some b ∧ (w3.alloc (.cells #[.int .i32 z, .int .u32 sc, .slice A5 cds.length c5] 79)).heap.size ≤ b := HA1
          go_roundg (d - (k + 1))
          case rel =>
            refine ⟨k + 1, by omega, by go_num, by omega, ?_, HB1⟩
            rw [HTS.out.1]
            refine grs_snoc hox HXL.out HXR.out (hbo3.alloc hbo3.size _) HB.size HG1 HA1 HO1 hzin.1 ?_ HTS.out.2
            exact Sl.keep hcs (fun b hb _ => ((Below.refl w3.heap.size w3).alloc (Nat.le_refl _) _).block b hb) (fun b _ hf => Nat.le_trans HBx.size hf) (fun _ _ _ h => h)
          case measure => rw [HG.out]; omega
    · obtain rfl : k = d := by omega
      have hb0o' := hb0o.size
      go_wp2
      go_loopg [9, 72] vs.length (fun g v9 v72 wx => ∃ j : Nat, j ≤ vs.length ∧ v72 = .int .i64 j ∧ g = vs.length - j ∧
        OwnN wx wo.heap.size 79 3 (GrR (Fx wo.heap.size [v9.ownBlock]) wx) v9 ((vs.take j).map (quantG vb)) ∧ Below wo.heap.size wo wx)
      case atStart => exact ⟨0, Nat.zero_le _, rfl, by omega, OwnN.nil, Below.refl _ _⟩
      case round =>
        obtain ⟨j, hj, rfl, hg, HN2, HBx⟩ := hrel
        have HG2 := Lib.hid hg
        clear hg
        by_cases hlt2 : j < vs.length
        · obtain ⟨ad, A', c', rfl, hu, hrw, _, _⟩ := (h2.below (hb0o.trans (HBx.mono hb0o.size))).row hlt2
          have hd1 : vs[j].length = k := HVN.out.2 _ (List.getElem_mem hlt2)
          have hof := group_Of vb hvb hrw (by omega) (by omega)
          have hzin := min_max (x := vs[j]) (by omega) (HIV.out _ (List.getElem_mem hlt2))
          have hts : ((vs.take (j + 1)).map (quantG vb)) = ((vs.take j).map (quantG vb)) ++ [quantG vb vs[j]] := by rw [List.take_succ_eq_append_getElem hlt2, List.map_append]; rfl
          have hqg : quantG vb vs[j] = ⟨minL vs[j], gscaleI vs[j] vb, vs[j].map (codeI vs[j] vb)⟩ := rfl
          generalize minL vs[j] = z at *
          generalize gscaleI vs[j] vb = sc at *
          generalize vs[j].map (codeI vs[j] vb) = cds at *
          rw [hd1] at hof hu
          obtain ⟨xs, hox, hxl, hxr⟩ := HN2
          have hgl : ((vs.take j).map (quantG vb)).length = j := by simp; omega
          generalize ((vs.take j).map (quantG vb)) = gl at *
          have HTS := Lib.hid (And.intro hts hqg)
          have HOF := Lib.hid hof
          have HXL := Lib.hid hxl
          have HXR := Lib.hid hxr
          have HGL := Lib.hid hgl
          have kx := blk_below (HBx) (blk_below (W := w2) HB k2)
          obtain ⟨p1, p2, _⟩ := cells_of kx
          have hvl : vs.length ≤ 16 := by have := HVN.out.1; omega
          clear hts hqg hof hxl hxr hgl hrw hd1
          go_upto_region 23 with (go_at_call 32; refine (HOF.out).mono ?_; rintro e w3 ⟨hb3, cv, rfl, hcs⟩; obtain ⟨A5, c5, rfl, _, _⟩ := hcs.form)
          have HO3 := (own_below hox hb3).alloc (.cells #[.int .i32 z, .int .u32 sc, .slice A5 cds.length c5] 79)
          have HB3 : Below wo.heap.size wo (w3.alloc (.cells #[.int .i32 z, .int .u32 sc, .slice A5 cds.length c5] 79)) := (HBx.trans (hb3.mono HBx.size)).alloc (Nat.le_trans HBx.size hb3.size) _
          have hk' : gl.length + 1 ≤ 1099511627776 := by have := HGL.out; omega
          go_wp2_with (at_builtin; refine appN _ 3 (.tmp 83) (.tmp 85) 78 79 (.agg #[.int .i32 0, .int .u32 0, .slice none 0 0]) 32 rfl rfl Try.underlying78 info_gr rfl (by decide) _ _ _ _ _ rfl rfl (by simp) rfl (by simp [Value.oneCell']) HO3 HB3 HB3.size hk' (by decide) ?_; intro v1 w1 HO1 HB1 HG1 HA1)
          replace HG1 : (w3.alloc (.cells #[.int .i32 z, .int .u32 sc, .slice A5 cds.length c5] 79)).grownBy w1 u9.ownBlock := HG1
          replace HA1 : v1.ownBlock = u9.ownBlock ∨ ∃ b, v1.ownBlock = some b ∧ (w3.alloc (.cells #[.int .i32 z, .int .u32 sc, .slice A5 cds.length c5] 79)).heap.size ≤ b := HA1
          go_roundg (vs.length - (j + 1))
          case rel =>
            refine ⟨j + 1, by omega, by go_num, by omega, ?_, HB1⟩
            rw [HTS.out.1]
            refine grs_snoc hox HXL.out HXR.out (hb3.alloc hb3.size _) HBx.size HG1 HA1 HO1 hzin.1 ?_ HTS.out.2
            exact Sl.keep hcs (fun b hb _ => ((Below.refl w3.heap.size w3).alloc (Nat.le_refl _) _).block b hb) (fun b _ hf => hf) (fun _ _ _ h => h)
          case measure => rw [HG2.out]; omega
        · obtain rfl : j = vs.length := by omega
          rw [List.take_length] at HN2
          have hg1 := (Grs.sl HN).below HBx
          have hg2 : SlN (fun b => w2.heap.size ≤ b) wr 3 (GrR (fun b => w2.heap.size ≤ b) wr) u9 (vs.map (quantG vb)) :=
            SlN.keep (Grs.sl HN2) (fun _ _ _ => rfl) (fun _ _ h => Nat.le_trans HB.size h) (Nat.le_refl _) (fun _ _ _ h => h.keep (fun _ _ _ => rfl) (fun _ _ h => Nat.le_trans HB.size h))
          have hko : GrsOk t kb ((List.range k).map fun i => quantG kb (colL ks i)) := by
            refine ⟨fun g hg => ?_, fun g hg => ?_⟩
            · obtain ⟨i, hi, rfl⟩ := List.mem_map.1 hg
              have hik := List.mem_range.1 hi
              have hl : (colL ks i).length = t := by unfold colL; rw [List.length_map]; exact HKN.out.1
              refine quant_ok hkb (by omega) (by omega) (fun x hx => ?_)
              obtain ⟨l, hl, rfl⟩ := List.mem_map.1 hx
              have hkl : i < l.length := by have := HKN.out.2 l hl; omega
              rw [getD_at hkl]
              exact HIK.out l hl _ (List.getElem_mem hkl)
            · obtain ⟨i, hi, rfl⟩ := List.mem_map.1 hg
              show ((colL ks i).map _).length = t
              unfold colL
              rw [List.length_map, List.length_map]; exact HKN.out.1
          have hvo : GrsOk k vb (vs.map (quantG vb)) := by
            refine ⟨fun g hg => ?_, fun g hg => ?_⟩
            · obtain ⟨l, hl, rfl⟩ := List.mem_map.1 hg
              have := HVN.out.2 l hl
              exact quant_ok hvb (by omega) (by omega) (HIV.out l hl)
            · obtain ⟨l, hl, rfl⟩ := List.mem_map.1 hg
              show (l.map _).length = k
              rw [List.length_map]; exact HVN.out.2 l hl
          have hnew := page_New kb vb t k ly hd ix hg1 hg2 hO.out (by simp) (by rw [List.length_map]; exact HVN.out.1) hko hvo
          have hqp : quantP ⟨kb, vb, t, k, ly, hd, ix⟩ ks vs = ⟨⟨kb, vb, t, k, ly, hd, ix⟩, ((List.range k).map fun i => quantG kb (colL ks i)).map (packG kb), (vs.map (quantG vb)).map (packG vb)⟩ := by simp [quantP]
          have kx := blk_below (HBx) (blk_below (W := w2) HB k2)
          obtain ⟨p1, p2, _⟩ := cells_of kx
          unfold hdCells at hnew
          have HNW := Lib.hid hnew
          have HQP := Lib.hid hqp
          clear hko hvo hnew hqp HN HN2
          go_wp2_with (go_at_call 33; refine (HNW.out).mono ?_; rintro e w4 ⟨hb4, g, rfl, hpg⟩)
          go_ret2
          have hbf : Below w.heap.size w wr := hb0o.trans (HBx.mono hb0o.size)
          rw [HQP.out]
          exact ⟨hbf.trans (hb4.mono hbf.size), g, rfl, hpg.keep (fun _ _ _ => rfl) (fun _ _ h => Nat.le_trans hbf.size h) (Nat.le_refl _)⟩
end Go.Proofs.Ytkepgkjbhdgbiaa
