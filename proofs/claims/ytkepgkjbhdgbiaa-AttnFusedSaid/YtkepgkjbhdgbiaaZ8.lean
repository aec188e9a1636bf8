/- Contracts of functions of the program, and what they need (Order). -/
import Derived.OrdersHeld
import Derived.Test.YtkepgkjbhdgbiaaZ1

namespace Go.Proofs.Ytkepgkjbhdgbiaa
open Go Go.RowKit

section
variable {P : Program} {ops : Array Oper} {Q : Exit → Act → World → Prop} {md : Region.Mode} {S : World → Prop} {z : Nat}

/-- Whatever order is picked: S holds behind each operation but number z. -/
def AnyX (P : Program) (md : Region.Mode) (ops : Array Oper) (Q : Exit → Act → World → Prop) (S : World → Prop) (z : Nat) : Nat → Array Bool → Act → World → Prop
  | 0, listed, a, w => Region.ready md ops listed = [] ∧ Q .normal a w
  | fuel + 1, listed, a, w =>
    (Region.ready md ops listed = [] → Q .normal a w) ∧
    ∀ i ∈ Region.ready md ops listed, wpOp P ops Q i (fun a' w' => (i = z ∨ S w') ∧ AnyX P md ops Q S z fuel (listed.setIfInBounds i true) a' w') a w

theorem AnyX.any : ∀ (fuel : Nat) (listed : Array Bool) (a : Act) (w : World), AnyX P md ops Q S z fuel listed a w → wpAny P md ops Q fuel listed a w
  | 0, _, _, _, h => h
  | fuel + 1, _, _, _, h => ⟨h.1, fun i hi => wpOp_mono (fun a' w' h' => AnyX.any fuel _ a' w' h'.2) (h.2 i hi)⟩

theorem two {l : Array Bool} {i : Nat} (h0 : l.getD i true = false) (h1 : l.getD i false = true) : False := by
  rcases Nat.lt_or_ge i l.size with h | h
  · simp [h] at h0 h1
    rw [h0] at h1
    cases h1
  · simp [Array.getElem?_eq_none h] at h1
def Shut (md : Region.Mode) (ops : Array Oper) (listed : Array Bool) : Prop := ∀ (j : Nat) (o : Oper), ops[j]? = some o → listed.getD j false = true → ∀ e ∈ o.after, Region.binds md e = true → listed.getD e.on false = true
theorem Shut.set {listed : Array Bool} {j : Nat} (h : Shut md ops listed) (hj : j ∈ Region.ready md ops listed) : Shut md ops (listed.setIfInBounds j true) := by
  intro k o hk hl e he hb
  have mono : ∀ n, listed.getD n false = true → (listed.setIfInBounds j true).getD n false = true := fun n hn => by
    rcases Nat.decEq j n with hjn | hjn
    · rw [getD_set_ne false hjn]; exact hn
    · subst hjn
      have : j < listed.size := by
        rcases Nat.lt_or_ge j listed.size with h | h
        · exact h
        · simp [Array.getElem?_eq_none h] at hn
      simp [this]
  apply mono
  rcases Nat.decEq j k with hjk | hjk
  · rw [getD_set_ne false hjk] at hl
    exact h k o hk hl e he hb
  · subst hjk
    obtain ⟨_, o', ho', hall⟩ := mem_ready.1 hj
    rw [hk] at ho'
    cases ho'
    exact hall e he hb

theorem AnyX.first {i : Nat} {oi : Oper} {v : Value} (hi : ops[i]? = some oi) (hsel : ∀ (j : Nat) (o : Oper) cs b, ops[j]? = some o → o.op ≠ .select cs b)
    (hbz : ∀ listed, Shut md ops listed → listed.getD i true = false → z ∉ Region.ready md ops listed) (hQ : ∀ c a w, Q (.panic c) (a.put oi.dst v) w → Q (.panic c) a w) :
    ∀ (fuel : Nat) (listed : Array Bool) (a : Act) (w : World), Shut md ops listed →
      (∀ j oj, ops[j]? = some oj → j ≠ i → listed.getD j true = false → (∀ e ∈ oj.after, Region.binds md e = true → e.on ≠ i) → oi.apart ops oj = true) →
      i ∈ Region.ready md ops listed → YieldsIf P ops S oi v a → S w →
      AnyX P md ops Q S z fuel (listed.setIfInBounds i true) (a.put oi.dst v) w → AnyX P md ops Q S z (fuel + 1) listed a w := by
  intro fuel
  induction fuel with
  | zero =>
    intro listed a w _ _ hr hy hS H
    refine ⟨fun h => (by rw [h] at hr; cases hr), fun j hj => ?_⟩
    rcases Nat.decEq j i with hji | hji
    · have h2 := ready_mono hj hji
      rw [H.1] at h2
      cases h2
    · subst hji
      exact hy.wpOp hi hS ⟨.inr hS, H⟩
  | succ fuel ih =>
    intro listed a w hsh hfree hr hy hS H
    refine ⟨fun h => (by rw [h] at hr; cases hr), fun j hj => ?_⟩
    rcases Nat.decEq j i with hji | hji
    · have hij := ready_mono hr (Ne.symm hji)
      obtain ⟨hun, oj, hoj, hall⟩ := mem_ready.1 hj
      have hno : ∀ e ∈ oj.after, Region.binds md e = true → e.on ≠ i := fun e he hb heq => by
        have h1 := hall e he hb
        have h0 := (mem_ready.1 hr).1
        rw [heq] at h1
        exact two h0 h1
      have hput := wpOp_putIf hoj (hfree j oj hoj hji hun hno) (fun cs b => hsel i oi cs b hi) (fun cs b => hsel j oj cs b hoj) hQ hy (H.2 j (ready_mono hj hji))
      refine wpOp_mono (fun a' w' h => ?_) hput
      obtain ⟨hy', hs', hX⟩ := h
      have hsw : S w' := by
        rcases hs' with h | h
        · subst h
          exact absurd hj (hbz listed hsh (mem_ready.1 hr).1)
        · exact h
      refine ⟨.inr hsw, ih (listed.setIfInBounds j true) a' w' (hsh.set hj) (fun k ok hk hki hunk hnok => hfree k ok hk hki ?_ hnok) hij hy' hsw ?_⟩
      · rcases Nat.decEq j k with hjk | hjk
        · rwa [getD_set_ne true hjk] at hunk
        · subst hjk; exact hun
      · rw [Array.setIfInBounds_comm _ _ hji]
        exact hX
    · subst hji
      exact hy.wpOp hi hS ⟨.inr hS, H⟩
def shutB (md : Region.Mode) (ops : Array Oper) (listed : Array Bool) : Bool := (List.range ops.size).all fun j => !listed.getD j false || (match ops[j]? with | some o => o.after.all fun e => !Region.binds md e || listed.getD e.on false | none => true)
theorem shut_of {listed : Array Bool} (h : shutB md ops listed = true) : Shut md ops listed := by
  intro j o ho hl e he hb
  unfold shutB at h
  rw [List.all_eq_true] at h
  have hj : j < ops.size := by
    rcases Nat.lt_or_ge j ops.size with h | h
    · exact h
    · rw [Array.getElem?_eq_none h] at ho; cases ho
  have h1 := h j (List.mem_range.2 hj)
  rw [hl, ho] at h1
  simp only [Bool.not_true, Bool.false_or] at h1
  rw [Array.all_eq_true'] at h1
  have h2 := h1 e he
  rw [hb] at h2
  simpa using h2
theorem AnyX.take {i : Nat} {oi : Oper} {v : Value} {fuel : Nat} {listed : Array Bool} {a : Act} {w : World} (hi : ops[i]? = some oi)
    (hs : Region.noSelect ops = true) (hf : Region.free md ops listed i = true) (hr : (Region.ready md ops listed).contains i = true) (hsh : shutB md ops listed = true)
    (hbz : ∀ listed, Shut md ops listed → listed.getD i true = false → z ∉ Region.ready md ops listed)
    (hQ : ∀ c a w, Q (.panic c) (a.put oi.dst v) w → Q (.panic c) a w) (hy : YieldsIf P ops S oi v a) (hS : S w)
    (h : AnyX P md ops Q S z fuel (listed.setIfInBounds i true) (a.put oi.dst v) w) : AnyX P md ops Q S z (fuel + 1) listed a w :=
  AnyX.first hi (Region.noSelect_spec hs) hbz hQ fuel listed a w (shut_of hsh) (Region.free_spec hi hf) (by simpa using hr) hy hS h
/-- The same, where it puts what it yields said apart. -/
theorem AnyX.take' {i : Nat} {oi : Oper} {v : Value} {fuel : Nat} {listed : Array Bool} {a : Act} {w : World} (d : Option Tmp) (hi : ops[i]? = some oi) (hd : oi.dst = d)
    (hs : Region.noSelect ops = true) (hf : Region.free md ops listed i = true) (hr : (Region.ready md ops listed).contains i = true) (hsh : shutB md ops listed = true)
    (hbz : ∀ listed, Shut md ops listed → listed.getD i true = false → z ∉ Region.ready md ops listed)
    (hQ : ∀ c a w, Q (.panic c) (a.put d v) w → Q (.panic c) a w) (hy : YieldsIf P ops S oi v a) (hS : S w)
    (h : AnyX P md ops Q S z fuel (listed.setIfInBounds i true) (a.put d v) w) : AnyX P md ops Q S z (fuel + 1) listed a w := by
  subst hd
  exact AnyX.take hi hs hf hr hsh hbz hQ hy hS h
theorem AnyX.done {listed : Array Bool} {a : Act} {w : World} (hr : Region.ready md ops listed = []) (h : Q .normal a w) : ∀ fuel, AnyX P md ops Q S z fuel listed a w
  | 0 => ⟨hr, h⟩
  | _ + 1 => ⟨fun _ => h, by rw [hr]; simp⟩
theorem AnyX.begin {id : Nat} {a : Act} {w : World} (hm : P.follows .mixedOrders = true)
    (h : AnyX P .any ops Q S z ops.size (Array.replicate ops.size false) a { w with drawn := w.drawn + 1 }) : (Code.region id ops true).wp P Q a w :=
  wp_region_any hm (AnyX.any _ _ _ _ h)
/-- One number alone may come up. -/
theorem AnyX.one {i : Nat} {o : Oper} {fuel : Nat} {listed : Array Bool} {a : Act} {w : World} (hr : Region.ready md ops listed = [i]) (ho : ops[i]? = some o)
    (h : ∀ K' : Act → World → Prop, (∀ a w, (i = z ∨ S w) → AnyX P md ops Q S z fuel (listed.setIfInBounds i true) a w → K' a w) → if Region.wanted o (yielded ops a.tmps) = true then Oper.wp P o a w K' Q else K' (a.put o.dst undef) w) :
    AnyX P md ops Q S z (fuel + 1) listed a w := by
  refine ⟨fun h0 => (by rw [hr] at h0; cases h0), fun j hj => ?_⟩
  rw [hr] at hj
  obtain rfl := List.mem_singleton.1 hj
  exact wpOp_step ho (fun K' hK => h K' (fun a w hS hX => hK a w ⟨hS, hX⟩))
/-- The last one. -/
theorem AnyX.last {i : Nat} {o : Oper} {fuel : Nat} {listed : Array Bool} {a : Act} {w : World} (hr : Region.ready md ops listed = [i]) (ho : ops[i]? = some o) (hr2 : Region.ready md ops (listed.setIfInBounds i true) = []) (hz : i = z)
    (h : ∀ K' : Act → World → Prop, (∀ a w, Q .normal a w → K' a w) → if Region.wanted o (yielded ops a.tmps) = true then Oper.wp P o a w K' Q else K' (a.put o.dst undef) w) :
    AnyX P md ops Q S z (fuel + 1) listed a w :=
  AnyX.one hr ho fun K' hK => h K' fun a w hq => hK a w (.inl hz) (AnyX.done hr2 hq _)
/-- Number j waits for number k. -/
def edgeB (md : Region.Mode) (ops : Array Oper) (j k : Nat) : Bool := match ops[j]? with | some o => o.after.any fun e => Region.binds md e && e.on == k | none => false
def chainB (md : Region.Mode) (ops : Array Oper) : Nat → List Nat → Bool
  | _, [] => true
  | j, k :: r => edgeB md ops j k && chainB md ops k r
theorem chain_listed {l : Array Bool} (hs : Shut md ops l) : ∀ (r : List Nat) (j : Nat), l.getD j false = true → chainB md ops j r = true → ∀ i, r.getLast? = some i → l.getD i false = true
  | [], _, _, _, i, h => by simp at h
  | k :: r, j, hj, hc, i, hi => by
    unfold chainB edgeB at hc
    rw [Bool.and_eq_true] at hc
    obtain ⟨h1, h2⟩ := hc
    split at h1
    · rename_i o ho
      rw [Array.any_eq_true'] at h1
      obtain ⟨e, he, hb⟩ := h1
      simp only [Bool.and_eq_true, beq_iff_eq] at hb
      have hk : l.getD k false = true := hb.2 ▸ hs j o ho hj e he hb.1
      cases r with
      | nil => simp at hi; exact hi ▸ hk
      | cons m r' => exact chain_listed hs (m :: r') k hk h2 i (by simpa using hi)
    · cases h1
theorem waits {i k : Nat} {r : List Nat} (h1 : edgeB md ops z k = true) (h2 : chainB md ops k r = true) (hi : (k :: r).getLast? = some i) : ∀ listed, Shut md ops listed → listed.getD i true = false → z ∉ Region.ready md ops listed := by
  intro l hs hl hz
  obtain ⟨_, o, ho, hall⟩ := mem_ready.1 hz
  unfold edgeB at h1
  rw [ho] at h1
  simp only at h1
  rw [Array.any_eq_true'] at h1
  obtain ⟨e, he, hb⟩ := h1
  simp only [Bool.and_eq_true, beq_iff_eq] at hb
  have hk : l.getD k false = true := hb.2 ▸ hall e he hb.1
  cases r with
  | nil => simp at hi; exact two hl (hi ▸ hk)
  | cons m r' => exact two hl (chain_listed hs (m :: r') k hk h2 i (by simpa using hi))
end
theorem blk_new {W : World} {i : Nat} {o : Obj} (h : i = W.heap.size) : (W.alloc o).heap[i]? = some o := h ▸ heap_alloc_new W o
theorem blk_old {W : World} {i : Nat} {o x : Obj} (h : W.heap[i]? = some x) : (W.alloc o).heap[i]? = some x :=
  (((Below.refl W.heap.size W).alloc (Nat.le_refl _) o).block i (Array.getElem?_eq_some_iff.1 h).1).trans h
theorem blk_below {W w' : World} {i : Nat} {x : Obj} (hb : Below W.heap.size W w') (h : W.heap[i]? = some x) : w'.heap[i]? = some x := (hb.block i (Array.getElem?_eq_some_iff.1 h).1).trans h
theorem blk_drewN {W : World} {i n : Nat} {x : Obj} (h : W.heap[i]? = some x) : (W.drewN n).heap[i]? = some x := h
theorem blk_set {W : World} {i : Nat} {p : Addr} {u : Value} {x : Obj} (h : W.heap[i]? = some x) (hne : i ≠ p.block) : (W.setCell p u).heap[i]? = some x := (Below.heap_setCell W p u i hne).trans h
/-- A call of a function by its name, as a step of a region. -/
theorem step_callG {P : Program} {ops : Array Oper} {o : Oper} {a : Act} {K : Act → World → Prop} {Q : Exit → Act → World → Prop} {E : Prop} {w : World} {R : Value → World → Prop} (f : FuncId) (ags : Array Operand) (tys : Array TypeId) (xs : Array Value)
    (hgd : o.guard = none) (ho : o.op = .call { callee := .value (.func f), args := ags, argTypes := tys }) (hx0 : ags.toList.map a.eval = xs.toList)
    (hf : (callFunc f xs).run P w = .ok (.enter f xs) w) (hc : Calls P f xs w fun e w' => ∃ v, e = .returned v ∧ R v w') (hn : ∀ v w', R v w' → K (a.put o.dst v) w') :
    if Region.wanted o (yielded ops a.tmps) = true then Oper.wp P o a w K Q else E := by
  have hwn : Region.wanted o (yielded ops a.tmps) = true := by simp [Region.wanted, hgd]
  rw [if_pos hwn]
  have hx : ags.map a.eval = xs := Array.toList_inj.1 (by rw [Array.toList_map]; exact hx0)
  have hrun : (execOp a.eval o).run P w = .ok (.enter f xs) w := by
    unfold execOp
    rw [ho]
    have hfn : a.eval (.func f) = .func (Fn.func f) #[] #[] := rfl
    simp only [resolve, invoke, hfn, hx, Sem.run_bind]
    have e : Sem.run P (callFunc f ((#[] ++ xs) ++ #[])) w = .ok (.enter f xs) w := by simpa using hf
    exact e
  unfold Oper.wp
  rw [hrun, Oper.upon_enter]
  refine hc.mono ?_
  rintro e w' ⟨v, rfl, hr⟩
  exact hn v w' hr
end Go.Proofs.Ytkepgkjbhdgbiaa
