/- Contracts of functions of the program, and what they need (Mean, Fused2, Fused3, Fused4, Fused5, LDot). -/
import Derived.Test.YtkepgkjbhdgbiaaZ10

namespace Go.Proofs.Ytkepgkjbhdgbiaa
open Go.RowKit

/-- What sources mean, as lists. -/
def keysOf (all : List Src) (d : Nat) : List (List Int) := all.flatMap fun s => s.keyL d
def valsOf (all : List Src) (d : Nat) : List (List Int) := all.flatMap fun s => s.valL d

theorem score_of (q : List Int) (s : Src) (t : Nat) : s.score (q.map narrowI) t = scoreI q ((List.range q.length).map fun i => s.key t i) := by
  unfold Src.score scaleI scoreI dotI
  rw [List.length_map]
  congr 5
  refine sumTo_congr fun i hi => ?_
  congr 1
  simp [hi]

theorem scores_of (q : List Int) (all : List Src) : scoresI (q.map narrowI) all = (keysOf all q.length).map (scoreI q) := by
  unfold scoresI keysOf
  rw [List.map_flatMap]
  congr 1
  funext s
  unfold Src.scores Src.keyL
  rw [List.map_map]
  exact List.map_congr_left fun t _ => score_of q s t

theorem gather_of (q : List Int) (all : List Src) : mixL (weightsL (scoresI (q.map narrowI) all)) (valsL all q.length) q.length = gatherI q (keysOf all q.length) (valsOf all q.length) := by
  unfold gatherI
  rw [scores_of]
  rfl

theorem plain_keys {ks vs : List (List Int)} {d : Nat} (h : ∀ l ∈ ks, l.length = d) : (Src.plain ks vs).keyL d = ks := by
  unfold Src.keyL Src.key Src.count
  apply List.ext_getElem (by simp)
  intro t h1 h2
  have hd := h _ (List.getElem_mem h2)
  rw [List.getElem_map, List.getElem_range]
  apply List.ext_getElem (by simp [hd])
  intro i h3 h4
  simp [h2, h4]
theorem plain_vals {ks vs : List (List Int)} {d : Nat} (hl : vs.length = ks.length) (h : ∀ l ∈ vs, l.length = d) : (Src.plain ks vs).valL d = vs := by
  unfold Src.valL Src.val Src.count
  apply List.ext_getElem (by simp [hl])
  intro t h1 h2
  have hd := h _ (List.getElem_mem h2)
  rw [List.getElem_map, List.getElem_range]
  apply List.ext_getElem (by simp [hd])
  intro i h3 h4
  simp [h2, h4]
end Go.Proofs.Ytkepgkjbhdgbiaa

namespace Go.Proofs.Ytkepgkjbhdgbiaa
open Go.RowKit

theorem attn_Fused_err {F G H I : Nat → Prop} {w : World} {v0 v1 v2 v3 : Value} {q : List Int} {pg : List (Nat × Pg)} {kl vl : List (List Int)} (h0 : Sl F w (IntV .i32) v0 q) (h1 : Sl G w (PgV G w) v1 pg) (h2 : Rows H w v2 kl) (h3 : Rows I w v3 vl) (hs : tokN pg kl pg.length ≤ 1000000) (he : rightI q.length pg kl vl ≠ 0) :
    Calls Try.prog 11 #[v0, v1, v2, v3] w (RetErr w (rightI q.length pg kl vl)) := by
  have hr := attn_right h0 h1 h2 h3 hs
  generalize rightI q.length pg kl vl = r at *
  have he' : (r != 0) = true := by simpa using he
  have HR := Lib.hid hr
  clear hr he hs h0 h1 h2 h3
  go_enter Try.func11, Try.ntmps11
  go_wp2_with (go_at_call 21; refine (HR.out).mono ?_; rintro e w' ⟨rfl, HB⟩)
  exact bodyPost_ret (v := .tuple #[.slice none 0 0, .int .i64 r]) (by simp [results, Try.results11, go_sem]) rfl ⟨HB, rfl⟩
theorem info_src : (Try.prog.info? 97).map (fun i => (i.zero, i.size, i.bytes)) = some (some .nilIface, 1, 16) := by kernel_rfl
end Go.Proofs.Ytkepgkjbhdgbiaa

namespace Go.Proofs.Ytkepgkjbhdgbiaa
open Go.RowKit

def pagedV (x : Nat × Pg) : Value := .iface 65 (.agg #[.pointer (some ⟨x.1, 0, none⟩)])
def plainV (v2 v3 : Value) : Value := .iface 67 (.agg #[v2, v3])
def srcsOf (pg : List (Nat × Pg)) (kl vl : List (List Int)) : List Src := pg.map (fun x => .paged x.1 x.2) ++ [.plain kl vl]

theorem PageAt.all {F : Nat → Prop} {w : World} {g : Nat} {p : Pg} (h : PageAt F w g p) : PageAt (fun _ => True) w g p := h.keep (fun _ _ _ => rfl) (fun _ _ _ => trivial) (Nat.le_refl _)
theorem Rows.all {F : Nat → Prop} {w : World} {v : Value} {ll : List (List Int)} (h : Rows F w v ll) : Rows (fun _ => True) w v ll :=
  Sl.keep h (fun _ _ _ => rfl) (fun _ _ _ => trivial) (fun _ _ _ h => Sl.keep h (fun _ _ _ => rfl) (fun _ _ _ => trivial) (fun _ _ _ h => h))

/-- The sources' slice, read. -/
theorem srcs_sl {F G H : Nat → Prop} {w W : World} {v v1 v2 v3 : Value} {pg : List (Nat × Pg)} {kl vl : List (List Int)} (h1 : Sl F w (PgV F w) v1 pg) (h2 : Rows G w v2 kl) (h3 : Rows H w v3 vl) (hb : Below w.heap.size w W)
    (ho : W.ownsRow w.heap.size 97 1 v (pg.map pagedV ++ [plainV v2 v3]).length (pg.map pagedV ++ [plainV v2 v3])) : Sl (fun _ => True) W (SrcV (fun _ => True) W) v (srcsOf pg kl vl) := by
  have hpg : ∀ x ∈ pg, PageAt (fun _ => True) W x.1 x.2 := by
    intro x hx
    obtain ⟨j, hj, rfl⟩ := List.getElem_of_mem hx
    obtain ⟨A, c, hv, _, _⟩ := Sl.form h1
    obtain ⟨ad, u, _, _, _, _, hp⟩ := Sl.at_ h1 hv hj
    exact (hp.below hb).all
  have h : OwnL W w.heap.size 97 (SrcV (fun _ => True) W) v (srcsOf pg kl vl) := by
    refine ⟨_, ho, by simp [srcsOf], fun j u x hu hx => ?_⟩
    unfold srcsOf at hx
    rcases Nat.lt_or_ge j pg.length with hj | hj
    · rw [List.getElem?_append_left (by simpa using hj), List.getElem?_map, List.getElem?_eq_getElem hj] at hu hx
      simp only [Option.map_some, Option.some.injEq] at hu hx
      subst hu hx
      exact ⟨rfl, hpg _ (List.getElem_mem hj)⟩
    · rw [List.getElem?_append_right (by simpa using hj)] at hu hx
      rw [List.length_map] at hu hx
      have e : j - pg.length = 0 := by
        rcases Nat.eq_zero_or_pos (j - pg.length) with h | h
        · exact h
        · rw [List.getElem?_eq_none (by simp; omega)] at hu
          exact absurd hu (by simp)
      rw [e] at hu hx
      simp only [List.getElem?_cons_zero, Option.some.injEq] at hu hx
      subst hu hx
      exact ⟨v2, v3, rfl, (h2.below hb).all, (h3.below hb).all⟩
  exact Sl.keep h.sl (fun _ _ _ => rfl) (fun _ _ _ => trivial) (fun _ _ _ h => h)

theorem srcs_wide {nq : Nat} {pg : List (Nat × Pg)} {kl vl : List (List Int)} (h : rightI nq pg kl vl = 0) : (∀ s ∈ srcsOf pg kl vl, s.wide nq) ∧ 1 ≤ nq ∧ nq ≤ 16 ∧ ((srcsOf pg kl vl).map Src.count).sum ≤ 1024 ∧ 0 < ((srcsOf pg kl vl).map Src.count).sum := by
  have hsum : ((srcsOf pg kl vl).map Src.count).sum = tokN pg kl pg.length := by
    unfold srcsOf tokN
    rw [List.take_length, List.map_append, List.sum_append, List.map_map]
    simp only [List.map_cons, List.map_nil, List.sum_cons, List.sum_nil]
    have : (Src.count ∘ fun x : Nat × Pg => Src.paged x.1 x.2) = fun x => x.2.values.length := rfl
    rw [this]
    simp only [Src.count]
    omega
  rw [hsum]
  unfold rightI at h
  split at h
  · simp at h
  · split at h
    · simp at h
    · split at h
      · rename_i n0 n1 hb
        rw [Bool.and_eq_true] at hb
        obtain ⟨ha, hr⟩ := hb
        unfold restB at hr
        simp only [Bool.and_eq_true, beq_iff_eq, decide_eq_true_eq, allLen, List.all_eq_true] at hr
        obtain ⟨⟨⟨⟨r1, r2⟩, r3⟩, r4⟩, r5⟩ := hr
        rw [List.all_eq_true] at ha
        refine ⟨fun s hs => ?_, by omega, by omega, by omega, by omega⟩
        unfold srcsOf at hs
        rw [List.mem_append, List.mem_map, List.mem_singleton] at hs
        rcases hs with ⟨x, hx, rfl⟩ | rfl
        · have := ha x hx
          simp only [beq_iff_eq] at this
          exact this.trans r3.symm
        · exact ⟨r1.symm, fun l hl => (r4 l hl).trans r3.symm, fun l hl => (r5 l hl).trans r3.symm⟩
      · simp at h
end Go.Proofs.Ytkepgkjbhdgbiaa

namespace Go.Proofs.Ytkepgkjbhdgbiaa
open Go.RowKit

theorem attn_Fused {F G H I : Nat → Prop} {w : World} {v0 v1 v2 v3 : Value} {q : List Int} {pg : List (Nat × Pg)} {kl vl : List (List Int)} (h0 : Sl F w (IntV .i32) v0 q) (h1 : Sl G w (PgV G w) v1 pg) (h2 : Rows H w v2 kl) (h3 : Rows I w v3 vl) (hs : tokN pg kl pg.length ≤ 1000000) (hpl : pg.length ≤ 1000000) (he : rightI q.length pg kl vl = 0) :
    Calls Try.prog 11 #[v0, v1, v2, v3] w (RetSlE w (fun _ => IntV .i32) (gatherI q (keysOf (srcsOf pg kl vl) q.length) (valsOf (srcsOf pg kl vl) q.length))) := by
  have hr := attn_right h0 h1 h2 h3 hs
  rw [he] at hr
  obtain ⟨A0, c0, rfl, hc0, hm0⟩ := h0.form
  obtain ⟨A1, c1, rfl, hc1, hm1⟩ := Sl.form h1
  obtain ⟨A2, c2, rfl, _, _⟩ := Sl.form h2
  obtain ⟨A3, c3, rfl, _, _⟩ := Sl.form h3
  obtain ⟨hwd, d1, d2, hcn, hps⟩ := srcs_wide he
  have HR := Lib.hid hr
  have HW := Lib.hid hwd
  have HC := Lib.hid hcn
  have HP := Lib.hid hps
  clear hr he hs hwd hcn hps
  go_enter Try.func11, Try.ntmps11
  go_upto_region 4 with (go_at_call 21; refine (HR.out).mono ?_; rintro e w' ⟨rfl, HB⟩)
  clear HR
  go_wp2
  go_loopg [11, 26] pg.length (fun g v11 v26 wr => ∃ k : Nat, k ≤ pg.length ∧ v26 = .int .i64 k ∧ g = pg.length - k ∧
    wr.ownsRow w.heap.size 97 1 v11 ((pg.take k).map pagedV).length ((pg.take k).map pagedV) ∧ Below w.heap.size w wr)
  case atStart => exact ⟨0, Nat.zero_le _, rfl, by omega, World.ownsRow_nil _ _ _ _, HB⟩
  case round =>
    obtain ⟨k, hk, rfl, hg, HO, HB⟩ := hrel
    have HG := Lib.hid hg
    clear hg
    by_cases hlt : k < pg.length
    · obtain ⟨ad, u, rfl, _, hu, rfl, _⟩ := Sl.at_ (pgs_below h1 HB) rfl hlt
      have hn' : ((pg.take k).map pagedV).length + 1 ≤ 2199023255552 := by simp; omega
      have hs : (pg.take (k + 1)).map pagedV = (pg.take k).map pagedV ++ [pagedV pg[k]] := by rw [List.take_succ_eq_append_getElem hlt, List.map_append]; rfl
      unfold pagedV at hs HO hn'
      generalize pg[k] = x at *
      have HS := Lib.hid hs
      clear hs
      generalize (pg.take k).map _ = acc at *
      go_wp2_with (at_builtin; refine app1 _ (.tmp 30) (.tmp 34) 63 97 .nilIface 16 rfl rfl Try.underlying63 info_src rfl _ _ _ rfl rfl rfl HO (by first | exact HB | exact below_drewN HB _) (HB).size hn' (by decide) ?_; intro v1 w1 HO1 HB1 HG1 HA1)
      go_roundg (pg.length - (k + 1))
      case rel => exact ⟨k + 1, by omega, by go_num, by omega, by unfold pagedV; rw [HS.out]; exact HO1, HB1⟩
      case measure => rw [HG.out]; omega
    · obtain rfl : k = pg.length := by omega
      rw [List.take_length] at HO
      have hn' : (pg.map pagedV).length + 1 ≤ 2199023255552 := by simp; omega
      go_upto_region 11 with (at_builtin; refine app1 _ (.tmp 37) (.tmp 42) 63 97 .nilIface 16 rfl rfl Try.underlying63 info_src rfl _ _ _ rfl rfl rfl HO (by first | exact HB | exact below_drewN HB _) (HB).size hn' (by decide) ?_; intro v1 w1 HO1 HB1 HG1 HA1)
      have hall := srcs_sl h1 h2 h3 HB1 HO1
      have hgo := gather_of q (srcsOf pg kl vl)
      generalize hall0 : srcsOf pg kl vl = all at *
      have HA0 := Lib.hid hall0
      clear hall0
      have hcut := attn_cut (h0.below HB1) (by omega)
      have hql : (q.map narrowI).length = q.length := by simp
      have hN : NarL (q.map narrowI) := by
        intro x hx
        obtain ⟨y, _, rfl⟩ := List.mem_map.1 hx
        exact narrow_bd y
      generalize q.map narrowI = qn at *
      have hsc : ∀ (vq : Value) (w2 : World), Below w1.heap.size w1 w2 → Sl (fun b => w1.heap.size ≤ b) w2 (IntV .i32) vq qn → Calls Try.prog 23 #[vq, v1] w2 (RetSl w2 (fun _ => IntV .i32) (scoresI qn all)) := fun vq w2 hb2 hq2 =>
        attn_scores hq2 (srcs_count hall hb2) (by rw [hql]; exact HW.out) hN (by omega) (by omega) HC.out
      have HSC := Lib.hid hsc
      have HCU := Lib.hid hcut
      have HGO := Lib.hid hgo
      have HN := Lib.hid hN
      clear hsc hcut hgo hN
      have hlen := scores_len qn all
      have HL := Lib.hid hlen
      clear hlen
      go_upto_region 12 with (first
        | (go_at_call 24; refine (HCU.out).mono ?_; rintro e w2 ⟨hb2, vq, rfl, hq2⟩)
        | (go_at_call 23; refine (HSC.out _ _ hb2 hq2).mono ?_; rintro e w3 ⟨hb3, vs, rfl, hs3⟩)
        | (go_at_call 22; refine (soft_Weights hs3 (by rw [HL.out]; exact HP.out) (by rw [HL.out]; exact HC.out)).mono ?_; rintro e w4 ⟨hb4, vw, rfl, hw4⟩))
      have hin := hs3.inK
      have hb24 : Below w1.heap.size w1 w4 := (hb2.trans (hb3.mono hb2.size)).trans (hb4.mono (Nat.le_trans hb2.size hb3.size))
      have hga := attn_gather q.length hw4 (srcs_count hall hb24) HW.out d1 d2 HC.out (by unfold weightsL; rw [List.length_map]; exact HL.out) (weights_bd hin) (sum_pos hin (by rw [HL.out]; exact HP.out))
      rw [HGO.out] at hga
      have HGA := Lib.hid hga
      clear hga hin hs3 hq2
      go_wp2_with (go_at_call 25; refine (HGA.out).mono ?_; rintro e w5 ⟨hb5, vg, rfl, hg5⟩)
      have hb15 : Below w1.heap.size w1 w5 := hb24.trans (hb5.mono hb24.size)
      go_ret2
      rw [HA0.out]
      exact ⟨HB1.trans (hb15.mono HB1.size), _, rfl, Sl.keep hg5 (fun _ _ _ => rfl) (fun b _ h => Nat.le_trans HB1.size (Nat.le_trans hb24.size h)) (fun _ _ _ h => h)⟩
end Go.Proofs.Ytkepgkjbhdgbiaa

namespace Go.Proofs.Ytkepgkjbhdgbiaa
open Go.RowKit

theorem no_pages (F : Nat → Prop) (w : World) : Sl F w (PgV F w) (.slice none 0 0) ([] : List (Nat × Pg)) := ⟨none, 0, rfl, Nat.le_refl _, by decide, fun j x h => by simp at h⟩

theorem attn_Gather_err {F H I : Nat → Prop} {w : World} {v0 v2 v3 : Value} {q : List Int} {kl vl : List (List Int)} (h0 : Sl F w (IntV .i32) v0 q) (h2 : Rows H w v2 kl) (h3 : Rows I w v3 vl) (hs : kl.length ≤ 1000000) (he : rightI q.length [] kl vl ≠ 0) :
    Calls Try.prog 13 #[v0, v2, v3] w (RetErr w (rightI q.length [] kl vl)) := by
  have hf := attn_Fused_err h0 (no_pages (fun _ => True) w) h2 h3 (by simpa [tokN] using hs) he
  generalize rightI q.length [] kl vl = r at *
  have HF := Lib.hid hf
  clear hf
  go_enter Try.func13, Try.ntmps13
  go_wp2_with (go_at_call 11; refine (HF.out).mono ?_; rintro e w' ⟨HB, rfl⟩)
  exact bodyPost_ret (v := .tuple #[.slice none 0 0, .int .i64 r]) (by simp [results, Try.results13, go_sem]) rfl ⟨HB, rfl⟩

theorem attn_Gather {F H I : Nat → Prop} {w : World} {v0 v2 v3 : Value} {q : List Int} {kl vl : List (List Int)} (h0 : Sl F w (IntV .i32) v0 q) (h2 : Rows H w v2 kl) (h3 : Rows I w v3 vl) (hs : kl.length ≤ 1000000) (he : rightI q.length [] kl vl = 0) :
    Calls Try.prog 13 #[v0, v2, v3] w (RetSlE w (fun _ => IntV .i32) (gatherI q kl vl)) := by
  have hf := attn_Fused h0 (no_pages (fun _ => True) w) h2 h3 (by simpa [tokN] using hs) (by simp) he
  obtain ⟨hw, _⟩ := srcs_wide he
  have hpl := hw (.plain kl vl) (by simp [srcsOf])
  have e1 : keysOf (srcsOf [] kl vl) q.length = kl := by
    unfold keysOf srcsOf
    simp [plain_keys hpl.2.1]
  have e2 : valsOf (srcsOf [] kl vl) q.length = vl := by
    unfold valsOf srcsOf
    simp [plain_vals hpl.1 hpl.2.2]
  rw [e1, e2] at hf
  have HF := Lib.hid hf
  clear hf e1 e2 hpl hw
  go_enter Try.func13, Try.ntmps13
  go_wp2_with (go_at_call 11; refine (HF.out).mono ?_; rintro e w' ⟨HB, v, rfl, hv⟩)
  exact bodyPost_ret (v := .tuple #[v, .int .i64 0]) (by simp [results, Try.results13, go_sem]) rfl ⟨HB, v, rfl, hv⟩
end Go.Proofs.Ytkepgkjbhdgbiaa

namespace Go.Proofs.Ytkepgkjbhdgbiaa
open Go.RowKit

theorem dot_shape {F G : Nat → Prop} {w : World} {v v2 : Value} {l m : List Int} (h : Sl F w (IntV .i32) v l) (h' : Sl G w (IntV .i32) v2 m) (hl : l.length = m.length) (hn : l.length ≤ 1024) : Calls Try.prog 63 #[v, v2] w (Ret w (.int .i64 0)) := by
  obtain ⟨A, c, rfl, _, _⟩ := h.form
  obtain ⟨A', c', rfl, _, _⟩ := h'.form
  have t1 : ((l.length : Int) != (m.length : Int)) = false := by simp; omega
  have hn' : ¬ 1024 < l.length := by omega
  clear hl
  go_enter Try.func63, Try.ntmps63
  go_wp2
  go_ret
  exact ⟨rfl, 0, rfl⟩

theorem dot_Mild {F : Nat → Prop} {w : World} {v : Value} {l : List Int} (h : Sl F w (IntV .i32) v l) (hm : MildL l) : Calls Try.prog 64 #[v] w (Ret w (.bool true)) := by
  obtain ⟨A, c, rfl, _, _⟩ := h.form
  have ha := mild_any h false (by rw [List.any_eq_false]; intro x hx; have := hm.2 x hx; simp; omega)
  have hn : decide ((l.length : Int) ≤ 1024) = true := by have := hm.1; simp; omega
  have HA := Lib.hid ha
  clear ha
  go_enter Try.func64, Try.ntmps64
  go_wp2_with (go_at_call 79; refine (HA.out).mono ?_; rintro e w' ⟨rfl, nq, rfl⟩)
  go_ret
  exact ⟨rfl, (by first | exact ⟨_, rfl⟩ | exact ⟨_, World.drewN_drewN ..⟩ | exact ⟨_, (World.drewN_drewN ..).trans (World.drewN_drewN ..)⟩)⟩

set_option maxRecDepth 100000 in
theorem dot_Dot {F G : Nat → Prop} {w : World} {v v2 : Value} {l m : List Int} (h : Sl F w (IntV .i32) v l) (h' : Sl G w (IntV .i32) v2 m) (hl : l.length = m.length) (ha : MildL l) (hb : MildL m) :
    Calls Try.prog 35 #[v, v2] w (Ret w (.tuple #[.int .i64 (dotI l m), .int .i64 0])) := by
  obtain ⟨A, c, rfl, hc, hm⟩ := h.form
  obtain ⟨A', c', rfl, hc', hm'⟩ := h'.form
  unfold dotI
  have hl1 := ha.1
  have hsh := dot_shape h h' hl hl1
  have hm1 := fun n => dot_Mild (h.below (drewN_below w n)) ha
  have hm2 := fun n => dot_Mild (h'.below (drewN_below w n)) hb
  have HS := Lib.hid hsh
  have HM1 := Lib.hid hm1
  have HM2 := Lib.hid hm2
  have HL := Lib.hid hl
  clear hsh hm1 hm2 hl
  go_enter Try.func35, Try.ntmps35
  go_wp2_with (first
    | (go_at_call 63; refine (HS.out).mono ?_; rintro e w' ⟨rfl, nq, rfl⟩)
    | (go_at_call 64; (with_reducible refine (HM1.out _).mono ?_); rintro e w' ⟨rfl, nq, rfl⟩)
    | (go_at_call 64; (with_reducible refine (HM2.out _).mono ?_); rintro e w' ⟨rfl, nq, rfl⟩))
  go_loopg [7, 26] l.length (fun g s i wr => ∃ k : Nat, k ≤ l.length ∧ i = .int .i64 k ∧ g = l.length - k ∧ s = .int .i64 (sumTo (fun i => l.getD i 0 * m.getD i 0) k) ∧ ∃ n, wr = w.drewN n)
  case atStart => exact ⟨0, Nat.zero_le _, rfl, by omega, rfl, (by first | exact ⟨_, rfl⟩ | exact ⟨_, World.drewN_drewN ..⟩ | exact ⟨_, (World.drewN_drewN ..).trans (World.drewN_drewN ..)⟩)⟩
  case round =>
    obtain ⟨k, hk, rfl, hg, rfl, n, rfl⟩ := hrel
    have HG := Lib.hid hg
    clear hg
    by_cases hlt : k < l.length
    · have hlt' : k < m.length := by have := HL.out; omega
      obtain ⟨ad, u, rfl, _, hu, rfl, hx1, hx2⟩ := h.at_ rfl hlt
      obtain ⟨ad', u', rfl, _, hu', rfl, hy1, hy2⟩ := h'.at_ rfl hlt'
      obtain ⟨s1, s2⟩ := dot_bd ha hb k (by omega)
      have hp := dot_prod_bd ha hb k
      rw [getD_at hlt, getD_at hlt'] at hp
      have hs : sumTo (fun i => l.getD i 0 * m.getD i 0) (k + 1) = sumTo (fun i => l.getD i 0 * m.getD i 0) k + l[k] * m[k] := by show _ + l.getD k 0 * m.getD k 0 = _; rw [getD_at hlt, getD_at hlt']
      generalize hx : l[k] = x at hu hx1 hx2 hp hs
      generalize hy : m[k] = y at hu' hy1 hy2 hp hs
      have HSU := Lib.hid hs
      clear hx hy hs
      generalize hsum : sumTo (fun i => l.getD i 0 * m.getD i 0) k = sm at *
      obtain ⟨p1, p2⟩ := hp
      go_wp2
      go_roundg (l.length - (k + 1))
      case rel => exact ⟨k + 1, by omega, by go_num, by omega, by rw [HSU.out], (by first | exact ⟨_, rfl⟩ | exact ⟨_, World.drewN_drewN ..⟩ | exact ⟨_, (World.drewN_drewN ..).trans (World.drewN_drewN ..)⟩)⟩
      case measure => rw [HG.out]; omega
    · obtain rfl : k = l.length := by omega
      go_wp2
      go_ret2
      exact ⟨rfl, (by first | exact ⟨_, rfl⟩ | exact ⟨_, World.drewN_drewN ..⟩ | exact ⟨_, (World.drewN_drewN ..).trans (World.drewN_drewN ..)⟩)⟩

theorem attn_Score_no {F G : Nat → Prop} {w : World} {v v2 : Value} {q k : List Int} (h : Sl F w (IntV .i32) v q) (h' : Sl G w (IntV .i32) v2 k) (hn : q.length ≠ k.length) : Calls Try.prog 17 #[v, v2] w (Ret w (.tuple #[.int .i32 0, .int .i64 25])) := by
  obtain ⟨A, c, rfl, _, _⟩ := h.form
  obtain ⟨A', c', rfl, _, _⟩ := h'.form
  have t1 : ((q.length : Int) != (k.length : Int)) = true := by simp; omega
  clear hn
  go_enter Try.func17, Try.ntmps17
  go_wp2
  go_ret2
  exact ⟨rfl, 0, rfl⟩

theorem attn_Score {F G : Nat → Prop} {w : World} {v v2 : Value} {q k : List Int} (h : Sl F w (IntV .i32) v q) (h' : Sl G w (IntV .i32) v2 k) (hn : q.length = k.length) (h0 : 1 ≤ q.length) (h1 : q.length ≤ 16) :
    Calls Try.prog 17 #[v, v2] w (fun e w' => e = .returned (.tuple #[.int .i32 (scoreI q k), .int .i64 0]) ∧ Below w.heap.size w w') := by
  obtain ⟨A, c, rfl, _, _⟩ := h.form
  obtain ⟨A', c', rfl, _, _⟩ := h'.form
  have t1 : ((q.length : Int) != (k.length : Int)) = false := by simp; omega
  have hsz := fun W => attn_sized q.length W
  rw [decide_eq_true (And.intro h0 h1)] at hsz
  have hd := dot_bd (mild_narrow q (by omega)) (mild_narrow k (by omega)) q.length (by omega)
  have hdd : dotI (q.map narrowI) (k.map narrowI) = sumTo (fun i => (q.map narrowI).getD i 0 * (k.map narrowI).getD i 0) q.length := by unfold dotI; simp
  rw [← hdd] at hd
  unfold scoreI
  have hdc := fun W (F1 F2 : Nat → Prop) (v3 v4 : Value) (g1 : Sl F1 W (IntV .i32) v3 (q.map narrowI)) (g2 : Sl F2 W (IntV .i32) v4 (k.map narrowI)) => dot_Dot g1 g2 (by simp [hn]) (mild_narrow q (by omega)) (mild_narrow k (by omega))
  generalize dotI (q.map narrowI) (k.map narrowI) = d at *
  obtain ⟨d1, d2⟩ := hd
  have hscl := fun W => attn_scaled d q.length W (by omega) (by omega) (by omega) (by omega)
  have hc1 := fun n => attn_cut (h.below (drewN_below w n)) (by omega)
  have hc2 := fun W hW => attn_cut (w := W) (h'.below hW) (by omega)
  have HDC := Lib.hid hdc
  have HSZ := Lib.hid hsz
  have HSC := Lib.hid hscl
  have HC1 := Lib.hid hc1
  have HC2 := Lib.hid hc2
  clear hdc hdd hn hsz hscl hc1 hc2
  go_enter Try.func17, Try.ntmps17
  go_wp2_with (first
    | (go_at_call 34; refine (HSZ.out _).mono ?_; rintro e w' ⟨rfl, nq, rfl⟩)
    | (go_at_call 24; (with_reducible refine (HC1.out _).mono ?_); rintro e w1 ⟨hB1, v3, rfl, hs3⟩; have hB01 := (drewN_below w _).trans hB1)
    | (go_at_call 24; (with_reducible refine (HC2.out _ hB01).mono ?_); rintro e w2 ⟨hB2, v4, rfl, hs4⟩)
    | (go_at_call 35; refine (HDC.out _ _ _ _ _ (hs3.below hB2) hs4).mono ?_; rintro e w' ⟨rfl, nq, rfl⟩)
    | (go_at_call 36; refine (HSC.out _).mono ?_; rintro e w' ⟨rfl, nq, rfl⟩))
  go_ret2
  exact ⟨rfl, below_drewN (hB01.trans (hB2.mono hB01.size)) _⟩
end Go.Proofs.Ytkepgkjbhdgbiaa
