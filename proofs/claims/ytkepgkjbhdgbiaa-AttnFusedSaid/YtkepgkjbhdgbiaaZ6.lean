/- Contracts of functions of the program, and what they need (Page0, Page). -/
import Derived.Test.YtkepgkjbhdgbiaaZ5

namespace Go.Proofs.Ytkepgkjbhdgbiaa
open Go.RowKit

/-- What a code means. -/
def oneI (zero scale code : Int) : Int := wideI (zero + code * scale)

theorem group_One (z sc code : Int) (cs : Value) (w : World) (h1 : InK .i32 z) (h2 : InK .u32 sc) (h3 : 0 ≤ code) (h4 : code ≤ 255) :
    Calls Try.prog 113 #[.agg #[.int .i32 z, .int .u32 sc, cs], .int .i64 code] w (fun e w' => e = .returned (.int .i32 (oneI z sc code)) ∧ Below w.heap.size w w') := by
  obtain ⟨a1, a2⟩ := h1
  obtain ⟨b1, b2⟩ := h2
  have m1 : 0 ≤ code * sc := Int.mul_nonneg h3 b1
  have m2 : code * sc ≤ 255 * 4294967295 := Int.mul_le_mul h4 b2 b1 (by decide)
  unfold oneI
  go_enter Try.func113, Try.ntmps113
  go_wp2_with (go_at_call 66; refine (fix_Wide _ _).mono ?_; rintro e w' ⟨rfl, nq, rfl⟩)
  go_ret
  exact ⟨rfl, below_drewN ((Below.refl _ _).alloc (Nat.le_refl _) _) _⟩

theorem packed_mean {F : Nat → Prop} {w : World} (z sc : Int) (cs v : Value) {ws : List Int} (h : Sl F w (IntV .u64) v ws) (i : Nat) (b : Int) (hb : b = 2 ∨ b = 4 ∨ b = 8) (hi : (i : Int) < ws.length * (64 / b)) (hl : ws.length ≤ 1024) (h1 : InK .i32 z) (h2 : InK .u32 sc) :
    Calls Try.prog 111 #[.agg #[.int .i32 z, .int .u32 sc, cs, v], .int .i64 i, .int .i64 b] w (fun e w' => e = .returned (.int .i32 (oneI z sc (laneI ws i b.toNat))) ∧ Below w.heap.size w w') := by
  have hc1 : 0 ≤ laneI ws i b.toNat ∧ laneI ws i b.toNat ≤ 255 := by
    unfold laneI
    rcases hb with rfl | rfl | rfl
    · have : ∀ x : Int, 0 ≤ x % 2 ^ (2 : Int).toNat ∧ x % 2 ^ (2 : Int).toNat ≤ 255 := fun x => by show 0 ≤ x % 4 ∧ x % 4 ≤ 255; omega
      exact this _
    · have : ∀ x : Int, 0 ≤ x % 2 ^ (4 : Int).toNat ∧ x % 2 ^ (4 : Int).toNat ≤ 255 := fun x => by show 0 ≤ x % 16 ∧ x % 16 ≤ 255; omega
      exact this _
    · have : ∀ x : Int, 0 ≤ x % 2 ^ (8 : Int).toNat ∧ x % 2 ^ (8 : Int).toNat ≤ 255 := fun x => by show 0 ≤ x % 256 ∧ x % 256 ≤ 255; omega
      exact this _
  have hlane := fun W hW => pack_Lane (w := W) (h.below hW) i b hb hi hl
  have HL := Lib.hid hlane
  have HC := Lib.hid hc1
  have HB := Lib.hid hb
  clear hlane hb hc1
  go_enter Try.func111, Try.ntmps111
  go_wp2
  go_region_with (first
    | (go_at_call 114; refine (HL.out _ (below_drewN ((Below.refl _ _).alloc (Nat.le_refl _) _) _)).mono ?_; rintro e w' ⟨rfl, nq, rfl⟩)
    | (go_at_call 113; refine (group_One z sc _ cs _ h1 h2 HC.out.1 HC.out.2).mono ?_; rintro e w' ⟨rfl, hb2⟩))
  all_goals
    go_wp2
    go_ret
    refine ⟨rfl, Below.trans ?_ (hb2.mono (by simp))⟩
    (repeat first | exact Below.refl _ _ | refine below_drewN ?_ _ | refine Below.drew ?_ | refine Below.alloc ?_ (by simp) _ | assumption)

end Go.Proofs.Ytkepgkjbhdgbiaa

namespace Go.Proofs.Ytkepgkjbhdgbiaa
open Go.RowKit

/-! ### A page in memory -/
structure Pk where
  zero : Int
  scale : Int
  words : List Int
structure Hd where
  kb : Int
  vb : Int
  tokens : Int
  dim : Int
  layer : Int
  head : Int
  index : Int
structure Pg where
  head : Hd
  keys : List Pk
  values : List Pk

/-- A slice whose elements take several cells. -/
def SlN {α : Type} (F : Nat → Prop) (w : World) (size : Nat) (R : (Nat → Option Value) → α → Prop) (v : Value) (l : List α) : Prop :=
  ∃ A c, v = .slice A l.length c ∧ l.length ≤ c ∧ c ≤ maxLen ∧ ∀ j x, l[j]? = some x → ∃ g, A = some ⟨g, 0, none⟩ ∧ F g ∧ g < w.heap.size ∧ R (fun i => w.cell? ⟨g, j * size + i, none⟩) x

theorem SlN.form {α : Type} {F : Nat → Prop} {w : World} {size : Nat} {R : (Nat → Option Value) → α → Prop} {v : Value} {l : List α} (h : SlN F w size R v l) : ∃ A c, v = .slice A l.length c ∧ l.length ≤ c ∧ c ≤ 9223372036854775807 := by
  obtain ⟨A, c, hv, h1, h2, _⟩ := h
  exact ⟨A, c, hv, h1, h2⟩
theorem SlN.at_ {α : Type} {F : Nat → Prop} {w : World} {size : Nat} {R : (Nat → Option Value) → α → Prop} {v : Value} {l : List α} (h : SlN F w size R v l) {A : Option Addr} {n c : Nat} (hv : v = .slice A n c) {k : Nat} (hk : k < l.length) :
    ∃ g, A = some ⟨g, 0, none⟩ ∧ F g ∧ g < w.heap.size ∧ R (fun i => w.cell? ⟨g, k * size + i, none⟩) l[k] := by
  obtain ⟨A', c', hv', _, _, h⟩ := h
  rw [hv'] at hv
  injection hv with h1 h2 h3
  subst h1
  exact h k _ (List.getElem?_eq_getElem hk)

/-- A group whose codes are words. -/
def PkR (F : Nat → Prop) (w : World) (n b : Nat) (get : Nat → Option Value) (p : Pk) : Prop :=
  ∃ v, get 0 = some (.int .i32 p.zero) ∧ get 1 = some (.int .u32 p.scale) ∧ get 2 = some (.slice none 0 0) ∧ get 3 = some v ∧ InK .i32 p.zero ∧ InK .u32 p.scale ∧ Sl F w (IntV .u64) v p.words ∧ p.words.length = (n * b + 63) / 64

/-- May a head be? -/
def HdOk (h : Hd) : Prop := (h.kb = 2 ∨ h.kb = 4 ∨ h.kb = 8) ∧ (h.vb = 2 ∨ h.vb = 4 ∨ h.vb = 8) ∧ (1 ≤ h.tokens ∧ h.tokens ≤ 16) ∧ (1 ≤ h.dim ∧ h.dim ≤ 16) ∧ (0 ≤ h.layer ∧ h.layer ≤ 3) ∧ (0 ≤ h.head ∧ h.head ≤ 3) ∧ (0 ≤ h.index ∧ h.index ≤ 1023)

/-- A page: a block of nine cells. -/
def PageAt (F : Nat → Prop) (w : World) (g : Nat) (p : Pg) : Prop :=
  F g ∧ HdOk p.head ∧ (p.keys.length : Int) = p.head.dim ∧ (p.values.length : Int) = p.head.tokens ∧
  ∃ kv vv, w.heap[g]? = some (.cells #[.int .i64 p.head.kb, .int .i64 p.head.vb, .int .i64 p.head.tokens, .int .i64 p.head.dim, .int .i64 p.head.layer, .int .i64 p.head.head, .int .i64 p.head.index, kv, vv] 113 (0, 0)) ∧
    SlN F w 4 (PkR F w p.head.tokens.toNat p.head.kb.toNat) kv p.keys ∧ SlN F w 4 (PkR F w p.head.dim.toNat p.head.vb.toNat) vv p.values

theorem cells_of {w : World} {g : Nat} {cs : Array Value} {t : TypeId} (h : w.heap[g]? = some (.cells cs t (0, 0))) : (∀ i, w.cell? ⟨g, i, none⟩ = cs[i]?) ∧ (∀ i, w.frozen? ⟨g, i, none⟩ = false) ∧ g < w.heap.size :=
  ⟨fun i => cell_of_row w g i cs t (0, 0) h, fun i => by simp [World.frozen?, h], (Array.getElem?_eq_some_iff.1 h).1⟩

/-- What a token's key is at a place; its value. -/
def Pg.keyAt (p : Pg) (t i : Nat) : Int := match p.keys[i]? with | some k => oneI k.zero k.scale (laneI k.words t p.head.kb.toNat) | none => 0
def Pg.valAt (p : Pg) (t i : Nat) : Int := match p.values[t]? with | some k => oneI k.zero k.scale (laneI k.words i p.head.vb.toNat) | none => 0

def hdCells (h : Hd) : Array Value := #[.int .i64 h.kb, .int .i64 h.vb, .int .i64 h.tokens, .int .i64 h.dim, .int .i64 h.layer, .int .i64 h.head, .int .i64 h.index]

theorem page_Head {F : Nat → Prop} {w : World} {g : Nat} {p : Pg} (h : PageAt F w g p) : Calls Try.prog 40 #[.pointer (some ⟨g, 0, none⟩)] w (fun e w' => e = .returned (.agg (hdCells p.head)) ∧ Below w.heap.size w w') := by
  obtain ⟨hF, hO, hk, hv, kv, vv, hh, _, _⟩ := h
  obtain ⟨hc, hf, hab⟩ := cells_of hh
  clear hh hk hv hO
  unfold hdCells
  obtain ⟨⟨kb, vb, tk, dm, ly, hd, ix⟩, ks, vs⟩ := p
  dsimp only at hc ⊢
  go_enter Try.func40, Try.ntmps40
  go_wp2
  exact bodyPost_ret (v := .agg #[.int .i64 kb, .int .i64 vb, .int .i64 tk, .int .i64 dm, .int .i64 ly, .int .i64 hd, .int .i64 ix]) (by simp [results, Try.results40, go_sem]) rfl ⟨rfl, (Below.refl _ _).alloc (Nat.le_refl _) _⟩

def withinB (n a b : Int) : Bool := decide (a ≤ n ∧ n ≤ b)
theorem page_within (n a b : Int) (w : World) : Calls Try.prog 57 #[.int .i64 n, .int .i64 a, .int .i64 b] w (Ret w (.bool (withinB n a b))) := by
  unfold withinB
  by_cases h1 : a ≤ n
  · by_cases h2 : n ≤ b
    · rw [decide_eq_true ⟨h1, h2⟩]
      go_enter Try.func57, Try.ntmps57
      go_wp2
      go_ret
      exact ⟨by simp [*], 0, rfl⟩
    · rw [decide_eq_false (fun h => h2 h.2)]
      go_enter Try.func57, Try.ntmps57
      go_wp2
      go_ret
      exact ⟨by simp <;> omega, 0, rfl⟩
  · rw [decide_eq_false (fun h => h1 h.1)]
    go_enter Try.func57, Try.ntmps57
    go_wp2
    go_ret
    exact ⟨rfl, 0, rfl⟩
theorem within_yes {n a b : Int} (h1 : a ≤ n) (h2 : n ≤ b) (w : World) : Calls Try.prog 57 #[.int .i64 n, .int .i64 a, .int .i64 b] w (Ret w (.bool true)) := by
  have := page_within n a b w
  rwa [show withinB n a b = true from decide_eq_true ⟨h1, h2⟩] at this

theorem page_there {F : Nat → Prop} {w : World} {g : Nat} {p : Pg} (h : PageAt F w g p) (t i : Nat) (ht : t < p.values.length) (hi : i < p.keys.length) : Calls Try.prog 110 #[.pointer (some ⟨g, 0, none⟩), .int .i64 t, .int .i64 i] w (Ret w (.bool true)) := by
  obtain ⟨hF, ⟨_, _, ⟨t1, t2⟩, ⟨d1, d2⟩, _⟩, hk, hv, kv, vv, hh, _, _⟩ := h
  obtain ⟨hc, hf, hab⟩ := cells_of hh
  clear hh
  obtain ⟨⟨kb, vb, tk, dm, ly, hd, ix⟩, ks, vs⟩ := p
  dsimp only at hc hk hv ht hi t1 t2 d1 d2
  have b1 : (t : Int) ≤ tk - 1 := by omega
  have b2 : (i : Int) ≤ dm - 1 := by omega
  clear hk hv
  go_enter Try.func110, Try.ntmps110
  go_wp2_with (first | (go_at_call 57; (with_reducible refine (within_yes (n := (t : Int)) (by omega) b1 _).mono ?_); rintro e w' ⟨rfl, nq, rfl⟩) | (go_at_call 57; (with_reducible refine (within_yes (n := (i : Int)) (by omega) b2 _).mono ?_); rintro e w' ⟨rfl, nq, rfl⟩))
  go_ret
  exact ⟨rfl, (by first | exact ⟨_, rfl⟩ | exact ⟨_, World.drewN_drewN ..⟩ | exact ⟨_, (World.drewN_drewN ..).trans (World.drewN_drewN ..)⟩)⟩

theorem SlN.keep {α : Type} {F G : Nat → Prop} {w w' : World} {size : Nat} {R R' : (Nat → Option Value) → α → Prop} {v : Value} {l : List α} (h : SlN F w size R v l) (hF : ∀ b, b < w.heap.size → F b → w'.heap[b]? = w.heap[b]?) (hG : ∀ b, b < w.heap.size → F b → G b) (hs : w.heap.size ≤ w'.heap.size)
    (hR : ∀ get x, x ∈ l → R get x → R' get x) : SlN G w' size R' v l := by
  obtain ⟨A, c, hv, h1, h2, h⟩ := h
  refine ⟨A, c, hv, h1, h2, fun j x hj => ?_⟩
  obtain ⟨g, hA, hf, hl, hr⟩ := h j x hj
  refine ⟨g, hA, hG _ hl hf, Nat.lt_of_lt_of_le hl hs, ?_⟩
  have e : (fun i => w'.cell? ⟨g, j * size + i, none⟩) = fun i => w.cell? ⟨g, j * size + i, none⟩ := funext fun i => World.cell?_of_block (hF g hl hf)
  rw [e]
  exact hR _ x (List.mem_of_getElem? hj) hr

theorem PkR.keep {F G : Nat → Prop} {w w' : World} {n b : Nat} {get : Nat → Option Value} {p : Pk} (h : PkR F w n b get p) (hF : ∀ b, b < w.heap.size → F b → w'.heap[b]? = w.heap[b]?) (hG : ∀ b, b < w.heap.size → F b → G b) : PkR G w' n b get p := by
  obtain ⟨v, g0, g1, g2, g3, h1, h2, hs, hl⟩ := h
  exact ⟨v, g0, g1, g2, g3, h1, h2, hs.keep hF hG (fun _ _ _ h => h), hl⟩
theorem PageAt.keep {F G : Nat → Prop} {w w' : World} {g : Nat} {p : Pg} (h : PageAt F w g p) (hF : ∀ b, b < w.heap.size → F b → w'.heap[b]? = w.heap[b]?) (hG : ∀ b, b < w.heap.size → F b → G b) (hs : w.heap.size ≤ w'.heap.size) : PageAt G w' g p := by
  obtain ⟨hf, hO, hk, hv, kv, vv, hh, h1, h2⟩ := h
  have hlt := (Array.getElem?_eq_some_iff.1 hh).1
  exact ⟨hG _ hlt hf, hO, hk, hv, kv, vv, (hF g hlt hf).trans hh, h1.keep hF hG hs (fun _ _ _ h => h.keep hF hG), h2.keep hF hG hs (fun _ _ _ h => h.keep hF hG)⟩
theorem PageAt.below {F : Nat → Prop} {w w' : World} {g : Nat} {p : Pg} (h : PageAt F w g p) (hb : Below w.heap.size w w') : PageAt F w' g p := h.keep (fun b hb' _ => hb.block b hb') (fun _ _ h => h) hb.size

theorem lane_room {n b i : Nat} {m : Int} (hb : (b = 2 ∧ m = 2) ∨ (b = 4 ∧ m = 4) ∨ (b = 8 ∧ m = 8)) (hi : i < n) : (i : Int) < (((n * b + 63) / 64 : Nat) : Int) * (64 / m) := by
  rcases hb with ⟨rfl, rfl⟩ | ⟨rfl, rfl⟩ | ⟨rfl, rfl⟩ <;> omega

set_option maxRecDepth 100000 in
theorem page_Key {F : Nat → Prop} {w : World} {g : Nat} {p : Pg} (h : PageAt F w g p) (t i : Nat) (ht : t < p.values.length) (hi : i < p.keys.length) : Calls Try.prog 106 #[.pointer (some ⟨g, 0, none⟩), .int .i64 t, .int .i64 i] w (fun e w' => e = .returned (.int .i32 (p.keyAt t i)) ∧ Below w.heap.size w w') := by
  have hthere := fun W hW => page_there (w := W) (h.below hW) t i ht hi
  have HT := Lib.hid hthere
  have hval : p.keyAt t i = oneI p.keys[i].zero p.keys[i].scale (laneI p.keys[i].words t p.head.kb.toNat) := by unfold Pg.keyAt; rw [List.getElem?_eq_getElem hi]
  rw [hval]
  obtain ⟨hF, ⟨hb, _, ⟨t1, t2⟩, ⟨d1, d2⟩, _⟩, hk, hv, kv, vv, hh, hK, _⟩ := h
  obtain ⟨hc, hf, hab⟩ := cells_of hh
  obtain ⟨A, c, rfl, hcc, hcm⟩ := hK.form
  obtain ⟨gk, rfl, _, hgl, wv, g0, g1, g2, g3, i1, i2, hws, hwl⟩ := hK.at_ rfl hi
  have hlen : p.keys[i].words.length ≤ 1024 := by rw [hwl]; rcases hb with e | e | e <;> (rw [e]; simp; omega)
  have hroom : (t : Int) < p.keys[i].words.length * (64 / p.head.kb) := by
    rw [hwl]
    refine lane_room ?_ (by omega)
    rcases hb with e | e | e <;> simp [e]
  clear hh hwl hval
  obtain ⟨⟨kb, vb, tk, dm, ly, hd, ix⟩, ks, vs⟩ := p
  dsimp only at *
  generalize ks[i] = pk at *
  obtain ⟨z, sc, ws⟩ := pk
  dsimp only at *
  clear hk hv
  rw [Nat.add_zero] at g0
  have HTH := Lib.hid HT
  have HB := Lib.hid hb
  clear HT hb hK
  obtain ⟨z1, z2⟩ := i1
  obtain ⟨s1, s2⟩ := i2
  go_enter Try.func106, Try.ntmps106
  go_upto_region 3 with (go_at_call 110; refine (HTH.out.out _ (Below.refl _ _)).mono ?_; rintro e w' ⟨rfl, nq, rfl⟩)
  refine wp_region_still_tail 13 (by kernel_rfl) (by kernel_rfl) ?_
  change wpStill _ _ (w.drewN (nq + 1)) (fun a' => wpList _ _ _ (List.drop 13 _) a' (w.drewN (nq + 1))) (List.take 13 _) _
  simp only [List.take_succ_cons, List.take_zero, List.drop_succ_cons, List.drop_zero]
  repeat still_step
  refine wpStill_nil ?_
  go_wp2_with (go_at_call 111; refine (packed_mean z sc _ _ (hws.below (drewN_below _ _)) t kb HB.out hroom hlen ⟨z1, z2⟩ ⟨s1, s2⟩).mono ?_; rintro e w' ⟨rfl, hb2⟩)
  go_ret
  exact ⟨rfl, (drewN_below _ _).trans hb2⟩

set_option maxRecDepth 100000 in
theorem page_Value {F : Nat → Prop} {w : World} {g : Nat} {p : Pg} (h : PageAt F w g p) (t i : Nat) (ht : t < p.values.length) (hi : i < p.keys.length) : Calls Try.prog 112 #[.pointer (some ⟨g, 0, none⟩), .int .i64 t, .int .i64 i] w (fun e w' => e = .returned (.int .i32 (p.valAt t i)) ∧ Below w.heap.size w w') := by
  have hthere := fun W hW => page_there (w := W) (h.below hW) t i ht hi
  have HT := Lib.hid hthere
  have hval : p.valAt t i = oneI p.values[t].zero p.values[t].scale (laneI p.values[t].words i p.head.vb.toNat) := by unfold Pg.valAt; rw [List.getElem?_eq_getElem ht]
  rw [hval]
  obtain ⟨hF, ⟨_, hb, ⟨t1, t2⟩, ⟨d1, d2⟩, _⟩, hk, hv, kv, vv, hh, _, hK⟩ := h
  obtain ⟨hc, hf, hab⟩ := cells_of hh
  obtain ⟨A, c, rfl, hcc, hcm⟩ := hK.form
  obtain ⟨gk, rfl, _, hgl, wv, g0, g1, g2, g3, i1, i2, hws, hwl⟩ := hK.at_ rfl ht
  have hlen : p.values[t].words.length ≤ 1024 := by rw [hwl]; rcases hb with e | e | e <;> (rw [e]; simp; omega)
  have hroom : (i : Int) < p.values[t].words.length * (64 / p.head.vb) := by
    rw [hwl]
    refine lane_room ?_ (by omega)
    rcases hb with e | e | e <;> simp [e]
  clear hh hwl hval
  obtain ⟨⟨kb, vb, tk, dm, ly, hd, ix⟩, ks, vs⟩ := p
  dsimp only at *
  generalize vs[t] = pk at *
  obtain ⟨z, sc, ws⟩ := pk
  dsimp only at *
  clear hk hv
  rw [Nat.add_zero] at g0
  have HTH := Lib.hid HT
  have HB := Lib.hid hb
  clear HT hb hK
  obtain ⟨z1, z2⟩ := i1
  obtain ⟨s1, s2⟩ := i2
  go_enter Try.func112, Try.ntmps112
  go_upto_region 3 with (go_at_call 110; refine (HTH.out.out _ (Below.refl _ _)).mono ?_; rintro e w' ⟨rfl, nq, rfl⟩)
  refine wp_region_still_tail 13 (by kernel_rfl) (by kernel_rfl) ?_
  change wpStill _ _ (w.drewN (nq + 1)) (fun a' => wpList _ _ _ (List.drop 13 _) a' (w.drewN (nq + 1))) (List.take 13 _) _
  simp only [List.take_succ_cons, List.take_zero, List.drop_succ_cons, List.drop_zero]
  repeat still_step
  refine wpStill_nil ?_
  go_wp2_with (go_at_call 111; refine (packed_mean z sc _ _ (hws.below (drewN_below _ _)) i vb HB.out hroom hlen ⟨z1, z2⟩ ⟨s1, s2⟩).mono ?_; rintro e w' ⟨rfl, hb2⟩)
  go_ret
  exact ⟨rfl, (drewN_below _ _).trans hb2⟩
end Go.Proofs.Ytkepgkjbhdgbiaa
