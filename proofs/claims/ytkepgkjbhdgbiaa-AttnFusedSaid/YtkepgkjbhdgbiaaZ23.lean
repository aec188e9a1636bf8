/- Contracts of functions of the program, and what they need (LLaw, LMain0). -/
import Derived.Test.YtkepgkjbhdgbiaaZ22

namespace Go.Proofs.Ytkepgkjbhdgbiaa
open Go.RowKit

theorem law_pages_no {w : World} {qv hv pkv pvv kv vv : Value} {z : Cs} (h : CsV w qv hv pkv pvv kv vv z) (hf : z.okB = false) : Calls Try.prog 4 #[.agg #[qv, hv, pkv, pvv, kv, vv]] w (fun e w' => e = .returned (.tuple #[.slice none 0 0, .bool false]) ∧ Below w.heap.size w w') :=
  (law_pages h).mono fun e w' ⟨hb, hc⟩ => by
    rcases hc with ⟨h1, _⟩ | ⟨_, h2⟩
    · rw [hf] at h1; cases h1
    · exact ⟨h2, hb⟩
theorem law_pages_yes {w : World} {qv hv pkv pvv kv vv : Value} {z : Cs} (h : CsV w qv hv pkv pvv kv vv z) (hf : z.okB = true) : Calls Try.prog 4 #[.agg #[qv, hv, pkv, pvv, kv, vv]] w (fun e w' => ∃ pv pg, e = .returned (.tuple #[pv, .bool true]) ∧ pg.map (·.2) = z.pgs z.heads.length ∧ Sl (fun _ => True) w' (PgV (fun _ => True) w') pv pg ∧ Below w.heap.size w w') :=
  (law_pages h).mono fun e w' ⟨hb, hc⟩ => by
    rcases hc with ⟨_, pv, pg, h2, h3, h4⟩ | ⟨h1, _⟩
    · exact ⟨pv, pg, h2, h3, h4, hb⟩
    · rw [hf] at h1; cases h1

theorem Rows3.lit2 {F : Nat → Prop} {w : World} {g : Nat} {v v2 : Value} {l l2 : List (List Int)} {t : TypeId} (h : w.heap[g]? = some (.cells #[v, v2] t (0, 0))) (hF : F g) (hs : Rows F w v l) (hs2 : Rows F w v2 l2) : Rows3 F w (.slice (some ⟨g, 0, none⟩) 2 2) [l, l2] := by
  refine ⟨_, _, rfl, Nat.le_refl _, by decide, fun j x hj => ?_⟩
  have hj2 : j < 2 := (List.getElem?_eq_some_iff.1 hj).1
  obtain ⟨hc, _, _⟩ := cells_of h
  rcases (show j = 0 ∨ j = 1 by omega) with rfl | rfl
  · simp at hj
    subst hj
    exact ⟨_, v, rfl, hF, by rw [add_plain, hc 0]; rfl, hs⟩
  · simp at hj
    subst hj
    exact ⟨_, v2, rfl, hF, by rw [add_plain, hc 1]; rfl, hs2⟩

/-- Where the law speaks of a case. -/
def Cs.on (z : Cs) : Bool := z.okB && lightB [z.ks, z.vs] && decide (z.q.length ≤ 100)

set_option maxRecDepth 100000 in
set_option maxHeartbeats 2000000 in
theorem law_off {w : World} {qv hv pkv pvv kv vv : Value} {z : Cs} (h : CsV w qv hv pkv pvv kv vv z) (hoff : z.on = false) : Calls Try.prog 3 #[.agg #[qv, hv, pkv, pvv, kv, vv]] w (fun e w' => e = .returned (.bool true) ∧ Below w.heap.size w w') := by
  obtain ⟨A0, c0, rfl, _, _⟩ := h.q.form
  obtain ⟨A1, c1, rfl, _, _⟩ := h.heads.form
  obtain ⟨A2, c2, rfl, _, _⟩ := Sl.form h.pk
  obtain ⟨A3, c3, rfl, _, _⟩ := Sl.form h.pv
  obtain ⟨A4, c4, rfl, _, _⟩ := Sl.form h.ks
  obtain ⟨A5, c5, rfl, _, _⟩ := Sl.form h.vs
  have hB1 : ∀ o, Below w.heap.size w (w.alloc o) := fun o => (Below.refl _ _).alloc (Nat.le_refl _) _
  have haw := law_awake
  have HAW := Lib.hid haw
  clear haw
  unfold Cs.on at hoff
  cases hok : z.okB with
  | false =>
    have hpg := law_pages_no (h.below (hB1 (.cells #[.slice A0 z.q.length c0, .slice A1 z.heads.length c1, .slice A2 z.pk.length c2, .slice A3 z.pv.length c3, .slice A4 z.ks.length c4, .slice A5 z.vs.length c5] 27))) hok
    have HPG := Lib.hid hpg
    clear hpg hok hoff
    go_enter Try.func3, Try.ntmps3
    go_wp2_with (first
      | (go_at_call 4; refine (HPG.out).mono ?_; rintro e w1 ⟨rfl, hb1⟩)
      | (go_at_call 6; refine (HAW.out _).mono ?_; rintro e w2 ⟨rfl, hb2⟩))
    go_ret
    have z1 := (hB1 _).trans (hb1.mono (by simp))
    exact ⟨rfl, z1.trans (hb2.mono z1.size)⟩
  | true =>
    rw [hok, Bool.true_and] at hoff
    have hpg := law_pages_yes (h.below (hB1 (.cells #[.slice A0 z.q.length c0, .slice A1 z.heads.length c1, .slice A2 z.pk.length c2, .slice A3 z.pv.length c3, .slice A4 z.ks.length c4, .slice A5 z.vs.length c5] 27))) hok
    have HPG := Lib.hid hpg
    have hlt : ∀ W, Below w.heap.size w W → Calls Try.prog 5 #[.slice (some ⟨W.heap.size, 0, none⟩) 2 2] (W.alloc (.cells #[.slice A4 z.ks.length c4, .slice A5 z.vs.length c5] 25)) (Ret _ (.bool (lightB [z.ks, z.vs]))) := fun W hW =>
      law_light (Rows3.lit2 (F := fun _ => True) (blk_new rfl) trivial ((h.ks.below hW).below ((Below.refl _ _).alloc (Nat.le_refl _) _)) ((h.vs.below hW).below ((Below.refl _ _).alloc (Nat.le_refl _) _)))
    cases hli : lightB [z.ks, z.vs] with
    | false =>
      rw [hli] at hlt
      have HLT := Lib.hid hlt
      clear hpg hok hoff hlt hli
      go_enter Try.func3, Try.ntmps3
      go_wp2_with (first
        | (go_at_call 4; refine (HPG.out).mono ?_; rintro e w1 ⟨pv, pg, rfl, _, _, hb1⟩; obtain ⟨k1, k2, _⟩ := cells_of (blk_below hb1 (blk_new rfl)))
        | (go_at_call 5; refine (HLT.out _ ((hB1 _).trans (hb1.mono (by simp)))).mono ?_; rintro e w' ⟨rfl, nq, rfl⟩)
        | (go_at_call 6; refine (HAW.out _).mono ?_; rintro e w2 ⟨rfl, hb2⟩))
      go_ret
      have z1 := below_drewN (((hB1 _).trans (hb1.mono (by simp))).alloc (Nat.le_trans (hB1 (.map #[] 0)).size (by have := hb1.size; simp at this ⊢; omega)) (.cells #[.slice A4 z.ks.length c4, .slice A5 z.vs.length c5] 25)) nq
      exact ⟨rfl, z1.trans (hb2.mono z1.size)⟩
    | true =>
      rw [hli] at hlt
      rw [hli, Bool.true_and] at hoff
      have hq : 100 < z.q.length := by simpa using hoff
      have HLT := Lib.hid hlt
      clear hpg hok hoff hlt hli
      go_enter Try.func3, Try.ntmps3
      go_wp2_with (first
        | (go_at_call 4; refine (HPG.out).mono ?_; rintro e w1 ⟨pv, pg, rfl, _, _, hb1⟩; obtain ⟨k1, k2, _⟩ := cells_of (blk_below hb1 (blk_new rfl)))
        | (go_at_call 5; refine (HLT.out _ ((hB1 _).trans (hb1.mono (by simp)))).mono ?_; rintro e w' ⟨rfl, nq, rfl⟩)
        | (go_at_call 6; refine (HAW.out _).mono ?_; rintro e w2 ⟨rfl, hb2⟩))
      go_ret
      have z1 := below_drewN (((hB1 _).trans (hb1.mono (by simp))).alloc (Nat.le_trans (hB1 (.map #[] 0)).size (by have := hb1.size; simp at this ⊢; omega)) (.cells #[.slice A4 z.ks.length c4, .slice A5 z.vs.length c5] 25)) nq
      exact ⟨rfl, z1.trans (hb2.mono z1.size)⟩
end Go.Proofs.Ytkepgkjbhdgbiaa

namespace Go.Proofs.Ytkepgkjbhdgbiaa
open Go.RowKit

theorem sum_small {pg : List (Nat × Pg)} (hp : ∀ x ∈ pg, x.2.values.length ≤ 16) : (pg.map fun x => x.2.values.length).sum ≤ 16 * pg.length := by
  induction pg with
  | nil => simp
  | cons x t ih =>
    have h1 := hp x (by simp)
    have h2 := ih fun y hy => hp y (by simp [hy])
    simp only [List.map_cons, List.sum_cons, List.length_cons]
    omega
theorem mk_small {pg : List (Nat × Pg)} (hp : ∀ x ∈ pg, x.2.values.length ≤ 16) (k : Nat) : (mkL (pg.take k)).length ≤ 16 * pg.length ∧ (mvL (pg.take k)).length ≤ 16 * pg.length := by
  rw [mkL_len, mvL_len]
  have h := sum_small (pg := pg.take k) fun x hx => hp x (List.mem_of_mem_take hx)
  have hl : (pg.take k).length ≤ pg.length := List.length_take_le' _ _
  omega
theorem pages_tokens {F : Nat → Prop} {w : World} {v : Value} {pg : List (Nat × Pg)} (h : Sl F w (PgV F w) v pg) : ∀ x ∈ pg, 1 ≤ x.2.values.length ∧ x.2.values.length ≤ 16 := by
  intro x hx
  obtain ⟨j, hj, rfl⟩ := List.getElem_of_mem hx
  obtain ⟨A, c, hv, _, _⟩ := Sl.form h
  obtain ⟨ad, u, _, _, _, _, hp⟩ := Sl.at_ h hv hj
  obtain ⟨_, ⟨_, _, ⟨t1, t2⟩, _⟩, _, hl, _⟩ := hp
  omega
theorem Grs.turn {F G : Nat → Prop} {w w' : World} {v : Value} {gs : List Gr} (h : SlN F w 3 (GrR F w) v gs) (hF : ∀ b, b < w.heap.size → F b → w'.heap[b]? = w.heap[b]?) (hG : ∀ b, b < w.heap.size → F b → G b) (hs : w.heap.size ≤ w'.heap.size) : SlN G w' 3 (GrR G w') v gs :=
  SlN.keep h hF hG hs (fun _ _ _ h => h.keep hF hG)
/-- A page as the document has it, in a block. -/
def RpgAt (F : Nat → Prop) (w : World) (nb : Nat) (h : Hd) (kv vv : Value) (ks vs : List Gr) : Prop :=
  F nb ∧ w.heap[nb]? = some (.cells (hd9 h.kb h.vb h.tokens h.dim h.layer h.head h.index kv vv) 37 (0, 0)) ∧ SlN F w 3 (GrR F w) kv ks ∧ SlN F w 3 (GrR F w) vv vs
theorem RpgAt.keep {F G : Nat → Prop} {w w' : World} {nb : Nat} {h : Hd} {kv vv : Value} {ks vs : List Gr} (hp : RpgAt F w nb h kv vv ks vs) (hF : ∀ b, b < w.heap.size → F b → w'.heap[b]? = w.heap[b]?) (hG : ∀ b, b < w.heap.size → F b → G b) (hs : w.heap.size ≤ w'.heap.size) : RpgAt G w' nb h kv vv ks vs := by
  obtain ⟨h1, h2, h3, h4⟩ := hp
  have hlt := (Array.getElem?_eq_some_iff.1 h2).1
  exact ⟨hG _ hlt h1, (hF _ hlt h1).trans h2, SlN.keep h3 hF hG hs (fun _ _ _ h => h.keep hF hG), SlN.keep h4 hF hG hs (fun _ _ _ h => h.keep hF hG)⟩
theorem RpgAt.below {F : Nat → Prop} {w w' : World} {nb : Nat} {h : Hd} {kv vv : Value} {ks vs : List Gr} (hp : RpgAt F w nb h kv vv ks vs) (hb : Below w.heap.size w w') : RpgAt F w' nb h kv vv ks vs :=
  hp.keep (fun b hb' _ => hb.block b hb') (fun _ _ h => h) hb.size
theorem RpgAt.grow {w w1 : World} {X X' : List (Option Nat)} {row : Option Nat} {nb : Nat} {h : Hd} {kv vv : Value} {ks vs : List Gr} (hp : RpgAt (Fx 0 X) w nb h kv vv ks vs) (hg : w.grownBy w1 row) (hrow : row = none ∨ row ∈ X) (hX : ∀ o ∈ X', o ∈ X ∨ ∃ b, o = some b ∧ w.heap.size ≤ b) : RpgAt (Fx 0 X') w1 nb h kv vv ks vs :=
  hp.keep (fx_keep hg hrow) (fx_turn hX) hg.size
theorem RpgAt.v {F : Nat → Prop} {w : World} {nb : Nat} {h : Hd} {kv vv : Value} {ks vs : List Gr} (hp : RpgAt F w nb h kv vv ks vs) : RpgV F w (.agg #[.int .i64 h.kb, .int .i64 h.vb, .int .i64 h.tokens, .int .i64 h.dim, .int .i64 h.layer, .int .i64 h.head, .int .i64 h.index, kv, vv]) h ks vs := ⟨kv, vv, rfl, hp.2.2.1, hp.2.2.2⟩

/-- Nine cells are stored. -/
def Set9 (w : World) (g : Nat) (t : TypeId) (v0 v1 v2 v3 v4 v5 v6 v7 v8 : Value) (W : World) : Prop :=
  W.heap[g]? = some (.cells #[v0, v1, v2, v3, v4, v5, v6, v7, v8] t (0, 0)) ∧ (∀ b, b ≠ g → W.heap[b]? = w.heap[b]?) ∧ W.heap.size = w.heap.size ∧ ∀ (B : Nat) (w0 : World), Below B w0 w → B ≤ g → Below B w0 W
theorem set9 {w : World} {g : Nat} {t : TypeId} {a0 a1 a2 a3 a4 a5 a6 a7 a8 : Value} (h : w.heap[g]? = some (.cells #[a0, a1, a2, a3, a4, a5, a6, a7, a8] t (0, 0))) (v0 v1 v2 v3 v4 v5 v6 v7 v8 : Value) :
    Set9 w g t v0 v1 v2 v3 v4 v5 v6 v7 v8 (((((((((w.setCell ⟨g, 0, none⟩ v0).setCell ⟨g, 1, none⟩ v1).setCell ⟨g, 2, none⟩ v2).setCell ⟨g, 3, none⟩ v3).setCell ⟨g, 4, none⟩ v4).setCell ⟨g, 5, none⟩ v5).setCell ⟨g, 6, none⟩ v6).setCell ⟨g, 7, none⟩ v7).setCell ⟨g, 8, none⟩ v8) := by
  have k1 := heap_setCell_same w g 0 _ _ v0 h
  have k2 := heap_setCell_same _ g 1 _ _ v1 k1
  have k3 := heap_setCell_same _ g 2 _ _ v2 k2
  have k4 := heap_setCell_same _ g 3 _ _ v3 k3
  have k5 := heap_setCell_same _ g 4 _ _ v4 k4
  have k6 := heap_setCell_same _ g 5 _ _ v5 k5
  have k7 := heap_setCell_same _ g 6 _ _ v6 k6
  have k8 := heap_setCell_same _ g 7 _ _ v7 k7
  have k9 := heap_setCell_same _ g 8 _ _ v8 k8
  simp only [List.setIfInBounds_toArray, List.set_cons_zero, List.set_cons_succ] at k9
  refine ⟨k9, fun b hb => ?_, by simp, fun B w0 hB hg => ?_⟩
  · repeat rw [Below.heap_setCell _ _ _ _ (by simpa using hb)]
  · repeat refine Below.setCell ?_ (by simpa using hg) _
    exact hB

/-- A slice's value, and its groups' codes. -/
def kgrs (h : Hd) (ks : List (List Int)) : List Gr := (List.range h.dim.toNat).map fun i => quantG h.kb.toNat (colL ks i)
def vgrs (h : Hd) (vs : List (List Int)) : List Gr := vs.map (quantG h.vb.toNat)

theorem law_Quantize {F G : Nat → Prop} {w : World} {v1 v2 : Value} {ks vs : List (List Int)} (h : Hd) (h1 : Rows F w v1 ks) (h2 : Rows G w v2 vs) (hq : qokB h ks vs = true) :
    Calls Try.prog 7 #[.agg (hdCells h), v1, v2] w (fun e w' => Below w.heap.size w w' ∧ ∃ u, e = .returned u ∧ RpgV (fun b => w.heap.size ≤ b) w' u h (kgrs h ks) (vgrs h vs)) := by
  unfold qokB at hq
  rw [Bool.and_eq_true, Bool.and_eq_true] at hq
  obtain ⟨⟨f1, f2⟩, f3⟩ := hq
  have ho := (hdB_iff h).1 f1
  obtain ⟨kb, vb, tk, dm, ly, hd, ix⟩ := h
  obtain ⟨b1, b2, ⟨t1, t2⟩, ⟨m1, m2⟩, _⟩ := id ho
  dsimp only at b1 b2 t1 t2 m1 m2 f2 f3
  obtain ⟨kb, rfl⟩ := Int.eq_ofNat_of_zero_le (show 0 ≤ kb by omega)
  obtain ⟨vb, rfl⟩ := Int.eq_ofNat_of_zero_le (show 0 ≤ vb by omega)
  obtain ⟨tk, rfl⟩ := Int.eq_ofNat_of_zero_le (show 0 ≤ tk by omega)
  obtain ⟨dm, rfl⟩ := Int.eq_ofNat_of_zero_le (show 0 ≤ dm by omega)
  exact r08_Quantize kb vb tk dm ly hd ix h1 h2 ho (by simpa using f2) (by simpa using f3)

/-- What is known of a head that can be. -/
theorem ok_facts {h : Hd} {ks vs : List (List Int)} (hq : qokB h ks vs = true) (hk : ∀ l ∈ ks, ∀ x ∈ l, InK .i32 x) (hv : ∀ l ∈ vs, ∀ x ∈ l, InK .i32 x) :
    ∃ t d : Nat, h.tokens = (t : Int) ∧ h.dim = (d : Int) ∧ 1 ≤ t ∧ t ≤ 16 ∧ 1 ≤ d ∧ d ≤ 16 ∧ ks.length = t ∧ vs.length = t ∧ GrsIn t (kgrs h ks) ∧ GrsIn d (vgrs h vs) ∧ (kgrs h ks).length = d ∧ (vgrs h vs).length = t ∧
      (quantP h ks vs).mks = (List.range t).map (keyL (kgrs h ks)) ∧ (quantP h ks vs).mvs = (vgrs h vs).map backL ∧ (quantP h ks vs).values.length = t ∧ (quantP h ks vs).keys.length = d := by
  unfold qokB at hq
  rw [Bool.and_eq_true, Bool.and_eq_true] at hq
  obtain ⟨⟨f1, f2⟩, f3⟩ := hq
  have ho := (hdB_iff h).1 f1
  obtain ⟨kb, vb, tk, dm, ly, hd, ix⟩ := h
  obtain ⟨b1, b2, ⟨t1, t2⟩, ⟨m1, m2⟩, _⟩ := id ho
  dsimp only at b1 b2 t1 t2 m1 m2 f2 f3
  obtain ⟨kb, rfl⟩ := Int.eq_ofNat_of_zero_le (show 0 ≤ kb by omega)
  obtain ⟨vb, rfl⟩ := Int.eq_ofNat_of_zero_le (show 0 ≤ vb by omega)
  obtain ⟨tk, rfl⟩ := Int.eq_ofNat_of_zero_le (show 0 ≤ tk by omega)
  obtain ⟨dm, rfl⟩ := Int.eq_ofNat_of_zero_le (show 0 ≤ dm by omega)
  simp only [Int.ofNat_eq_natCast, Int.toNat_natCast] at f2 f3 b1 b2 t1 t2 m1 m2
  have hkb : BitsN kb := by unfold BitsN; omega
  have hvb : BitsN vb := by unfold BitsN; omega
  obtain ⟨k1, k2⟩ := numB_of f2
  obtain ⟨v1, v2⟩ := numB_of f3
  have hkin : ∀ (b : Nat), BitsN b → ∀ l : List Int, 0 < l.length → (∀ x ∈ l, InK .i32 x) → InK .u32 (quantG b l).scale ∧ ∀ c ∈ (quantG b l).codes, 0 ≤ c ∧ c ≤ 255 := by
    intro b hb l h0 hl
    obtain ⟨s1, s2, _, _⟩ := scale_bd hb h0 hl
    refine ⟨show 0 ≤ gscaleI l b ∧ gscaleI l b ≤ 4294967295 from ⟨s1, by omega⟩, fun c hc => ?_⟩
    obtain ⟨x, hx, rfl⟩ := List.mem_map.1 hc
    have c1 := code_bd hb hl hx
    have c2 := steps_bd hb
    omega
  refine ⟨tk, dm, rfl, rfl, by omega, by omega, by omega, by omega, k1, v1, ?_, ?_, by simp [kgrs], by simpa [vgrs] using v1, mk_quant hkb f2 f3 hk, mv_quant hvb f3 hv, by rw [vals_quant]; exact v1, by rw [keys_quant]; rfl⟩
  · intro g hg
    obtain ⟨i, hi, rfl⟩ := List.mem_map.1 hg
    have hid : i < dm := by simpa using List.mem_range.1 hi
    have hcl : (colL ks i).length = tk := by unfold colL; rw [List.length_map, k1]
    have hcin : ∀ x ∈ colL ks i, InK .i32 x := by
      intro x hx
      obtain ⟨l, hl, rfl⟩ := List.mem_map.1 hx
      have hkl : i < l.length := by have := k2 l hl; omega
      rw [getD_at hkl]
      exact hk l hl _ (List.getElem_mem hkl)
    refine ⟨by simpa [quantG] using hcl, hkin _ (by simpa using hkb) _ (by omega) hcin⟩
  · intro g hg
    obtain ⟨l, hl, rfl⟩ := List.mem_map.1 hg
    have hld := v2 l hl
    exact ⟨by simpa [quantG] using hld, hkin _ (by simpa using hvb) _ (by omega) (hv l hl)⟩
end Go.Proofs.Ytkepgkjbhdgbiaa
