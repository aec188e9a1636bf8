/- Contracts of functions of the program, and what they need (LPlain). -/
import Derived.Test.YtkepgkjbhdgbiaaZ22

namespace Go.Proofs.Ytkepgkjbhdgbiaa
open Go.RowKit

theorem rest_facts {nq : Nat} {kl vl : List (List Int)} {d : Nat} (h : restB nq kl vl d = true) : kl.length = vl.length ∧ 1 ≤ d ∧ d ≤ 16 ∧ nq = d ∧ (∀ l ∈ kl, l.length = d) ∧ ∀ l ∈ vl, l.length = d := by
  unfold restB allLen at h
  simp only [Bool.and_eq_true, beq_iff_eq, decide_eq_true_eq, List.all_eq_true] at h
  obtain ⟨⟨⟨⟨h1, h2⟩, h3⟩, h4⟩, h5⟩ := h
  exact ⟨h1, h2.1, h2.2, h3, h4, h5⟩
theorem right_facts {nq : Nat} {pg : List (Nat × Pg)} {kl vl : List (List Int)} (h : rightI nq pg kl vl = 0) : tokN pg kl pg.length ≠ 0 ∧ tokN pg kl pg.length ≤ 1024 ∧ (∀ x ∈ pg, x.2.keys.length = nq) ∧ kl.length = vl.length ∧ 1 ≤ nq ∧ nq ≤ 16 ∧ (∀ l ∈ kl, l.length = nq) ∧ ∀ l ∈ vl, l.length = nq := by
  unfold rightI at h
  split at h
  · cases h
  · split at h
    · cases h
    · split at h
      · rename_i h0 h1 h2
        rw [Bool.and_eq_true, List.all_eq_true] at h2
        obtain ⟨g1, g2⟩ := h2
        obtain ⟨r1, r2, r3, r4, r5, r6⟩ := rest_facts g2
        rw [← r4] at g1 r2 r3 r5 r6
        exact ⟨h0, by omega, fun x hx => by simpa using g1 x hx, r1, r2, r3, r5, r6⟩
      · cases h
theorem fits_of {q : List Int} {K V : List (List Int)} (h : rightI q.length [] K V = 0) : Fits q K V := by
  obtain ⟨h1, h2, _, h4, h5, h6, h7, h8⟩ := right_facts h
  have e : tokN [] K ([] : List (Nat × Pg)).length = K.length := by simp [tokN]
  rw [e] at h1 h2
  exact ⟨by omega, h2, h4.symm, h5, h6, h7, h8⟩
theorem Rows.small {w : World} {v : Value} {ll : List (List Int)} (h : Rows (fun _ => True) w v ll) : Rows (fun b => b < w.heap.size) w v ll :=
  Sl.keep h (fun _ _ _ => rfl) (fun b hb _ => hb) (fun _ _ _ h => Sl.keep h (fun _ _ _ => rfl) (fun b hb _ => hb) (fun _ _ _ h => h))
/-- The cells of a list of lists. -/
theorem Rows.news {F : Nat → Prop} {w : World} {A : Option Addr} {n c : Nat} {ll : List (List Int)} (h : Rows F w (.slice A n c) ll) :
    ∃ news : List Value, news.length = ll.length ∧ (∀ ad, A = some ad → ∀ j u, news[j]? = some u → w.cell? (ad.add j) = some u) ∧ (∀ u ∈ news, u.oneCell' = true) ∧ ∀ (j : Nat) u x, news[j]? = some u → ll[j]? = some x → Sl F w (IntV .i32) u x := by
  cases A with
  | none =>
    have hl : ll = [] := by
      rcases Nat.eq_zero_or_pos ll.length with h0 | h0
      · exact List.eq_nil_of_length_eq_zero h0
      · obtain ⟨ad, _, _, had, _⟩ := h.row h0
        cases had
    subst hl
    exact ⟨[], rfl, fun _ h => (by cases h), by simp, fun j u x h => by simp at h⟩
  | some ad =>
    have key : ∀ j (hj : j < ll.length), ∃ A' c', w.cell? (ad.add j) = some (.slice A' ll[j].length c') ∧ Sl F w (IntV .i32) (.slice A' ll[j].length c') ll[j] := fun j hj => by
      obtain ⟨ad', A', c', had, hu, hr, _, _⟩ := h.row hj
      injection had with had
      subst had
      exact ⟨A', c', hu, hr⟩
    have hget : ∀ (j : Nat) u, ((List.range ll.length).map fun j => (w.cell? (ad.add j)).getD undef)[j]? = some u → ∃ hj : j < ll.length, w.cell? (ad.add j) = some u := fun j u hu => by
      have hj : j < ll.length := by simpa using (List.getElem?_eq_some_iff.1 hu).1
      obtain ⟨A', c', hc, _⟩ := key j hj
      rw [List.getElem?_map, List.getElem?_range hj] at hu
      simp only [Option.map_some, hc, Option.getD_some] at hu
      exact ⟨hj, hc.trans hu⟩
    refine ⟨(List.range ll.length).map fun j => (w.cell? (ad.add j)).getD undef, by simp, fun ad' had j u hu => ?_, fun u hu => ?_, fun j u x hu hx => ?_⟩
    · injection had with had
      subst had
      exact (hget j u hu).2
    · obtain ⟨j, hj, rfl⟩ := List.mem_iff_getElem.1 hu |>.imp fun j h => h
      have hj' : j < ll.length := by simpa using hj
      obtain ⟨A', c', hc, _⟩ := key j hj'
      simp only [List.getElem_map, List.getElem_range, hc, Option.getD_some]
      rfl
    · obtain ⟨hj, hc⟩ := hget j u hu
      obtain ⟨A', c', hc2, hs⟩ := key j hj
      rw [hc] at hc2
      injection hc2 with hc2
      subst hc2
      rw [List.getElem?_eq_getElem hj] at hx
      injection hx with hx
      subst hx
      exact hs
end Go.Proofs.Ytkepgkjbhdgbiaa
