/- The windows of a node in tables that work: they follow one another, and lie in the nodes' slots: plain laws. -/
import Derived.Test.YtoikfhpbkpljlaaAbF14
namespace Go.Proofs.Ytoikfhpbkpljlaa
open Go.Ab
set_option linter.unusedSimpArgs false
set_option linter.unusedVariables false

def st (ps : List Pt) (x : Nat) : Int := (ptOf ps x).start
def Cf.slots (c : Cf) : Int := w64 (c.n0 * c.n2)

theorem Cf.Chk5.bounds {c : Cf} {ps : List Pt} {qs : List Qt} {rs : List Rt} (h : c.Chk5 ps qs rs) :
    (1 ≤ c.n0 ∧ c.n0 ≤ 7) ∧ (1 ≤ c.n2 ∧ c.n2 ≤ 16777216) ∧ (0 ≤ c.n3 ∧ c.n3 ≤ 16777216) := by
  have := h.nums
  simp [Cf.bad, upB] at this
  omega
theorem Cf.slots_eq {c : Cf} {ps : List Pt} {qs : List Qt} {rs : List Rt} (h : c.Chk5 ps qs rs) : c.slots = c.n0 * c.n2 ∧ 1 ≤ c.slots ∧ c.slots ≤ 117440512 ∧ c.round = c.slots + c.n3 := by
  obtain ⟨⟨a1, a2⟩, ⟨b1, b2⟩, ⟨c1, c2⟩⟩ := h.bounds
  have h1 : 1 ≤ c.n0 * c.n2 := by
    have := Int.mul_le_mul a1 b1 (by omega) (by omega)
    omega
  have h2 : c.n0 * c.n2 ≤ 117440512 := by
    have := Int.mul_le_mul a2 b2 (by omega) (by omega)
    omega
  have h3 : c.slots = c.n0 * c.n2 := by
    show IntKind.wrap .i64 _ = _
    rw [IntKind.wrap_i64]; omega
  refine ⟨h3, by omega, by omega, ?_⟩
  show IntKind.wrap .i64 (c.slots + c.n3) = _
  rw [IntKind.wrap_i64]; omega

/-- What is known of a node's windows. -/
structure Wins (ps : List Pt) (B : Int) (M : List Nat) : Prop where
  lie : ∀ x ∈ M, 0 ≤ st ps x ∧ wTo ps x = st ps x + (ptOf ps x).len ∧ 1 ≤ (ptOf ps x).len ∧ (ptOf ps x).len ≤ 268435456 ∧ st ps x ≤ 268435456 ∧ wTo ps x ≤ B
  apart : ∀ x ∈ M, ∀ y ∈ M, x ≠ y → wTo ps x ≤ st ps y ∨ wTo ps y ≤ st ps x
  nodup : M.Nodup
  up : ∀ (i j x y : Nat), i < j → M[i]? = some x → M[j]? = some y → st ps x ≤ st ps y

theorem getElem?_of_mem_sel {ps : List Pt} {nd : Int} {x : Nat} (h : x ∈ sel ps nd ps.length) : ∃ p, ps[x]? = some p ∧ ptOf ps x = p ∧ p.node = nd := by
  obtain ⟨h1, h2⟩ := List.mem_filter.1 h
  have hl := List.mem_range.1 h1
  refine ⟨ps[x], List.getElem?_eq_getElem hl, by simp [ptOf, List.getD_eq_getElem?_getD, hl], ?_⟩
  simpa [List.getD_eq_getElem?_getD, hl] using h2

theorem Ord.wins {c : Cf} {ps : List Pt} {qs : List Qt} {rs : List Rt} (h : c.Chk6 ps qs rs) {nd : Int} {M : List Nat} (hM : Ord ps nd M) : Wins ps c.slots M := by
  have hfine : ∀ {x : Nat} {p : Pt}, ps[x]? = some p → 0 ≤ p.start ∧ w64 (p.start + p.len) = p.start + p.len ∧ 1 ≤ p.len ∧ p.len ≤ 268435456 ∧ p.start ≤ 268435456 := by
    intro x p hx
    have h9 := h.chk5.pts p (List.mem_of_getElem? hx)
    simp only [Pt.fine, upB, Bool.and_eq_true, decide_eq_true_eq] at h9
    have e : w64 (p.start + p.len) = p.start + p.len := by
      show IntKind.wrap .i64 _ = _
      rw [IntKind.wrap_i64]; omega
    omega
  have hmem : ∀ x ∈ M, x ∈ sel ps nd ps.length := fun x hx => hM.perm.mem_iff.1 hx
  refine ⟨fun x hx => ?_, fun x hx y hy hne => ?_, ?_, fun i j x y hij hi hj => ?_⟩
  · obtain ⟨p, h1, h2, h3⟩ := getElem?_of_mem_sel (hmem x hx)
    have h4 := hfine h1
    have h5 := h.fits x p h1
    simp only [st, wTo, h2]
    refine ⟨h4.1, h4.2.1, h4.2.2.1, h4.2.2.2.1, h4.2.2.2.2, h5⟩
  · obtain ⟨p, h1, h2, h3⟩ := getElem?_of_mem_sel (hmem x hx)
    obtain ⟨q, g1, g2, g3⟩ := getElem?_of_mem_sel (hmem y hy)
    simp only [st, wTo, h2, g2]
    rcases Nat.lt_or_gt_of_ne hne with hlt | hlt
    · have := h.apart y x q p hlt g1 h1
      simp only [apartB, h3, g3, beq_self_eq_true, Bool.true_and, Bool.not_eq_false', Bool.or_eq_true, decide_eq_true_eq] at this
      omega
    · have := h.apart x y p q hlt h1 g1
      simp only [apartB, h3, g3, beq_self_eq_true, Bool.true_and, Bool.not_eq_false', Bool.or_eq_true, decide_eq_true_eq] at this
      omega
  · exact hM.perm.nodup_iff.2 (List.nodup_range.filter _)
  · have hl : (sel ps nd ps.length).length = M.length := hM.perm.length_eq.symm
    have := hM.up i j hij (by rw [hl]; exact (List.getElem?_eq_some_iff.1 hj).1)
    simpa [keyOf, st, ptOf, List.getD_eq_getElem?_getD, hi, hj] using this

section
variable {ps : List Pt} {B : Int} {M : List Nat} (h : Wins ps B M)
include h
theorem Wins.next {i j x y : Nat} (hij : i < j) (hi : M[i]? = some x) (hj : M[j]? = some y) : wTo ps x ≤ st ps y := by
  have hne : x ≠ y := fun e => by
    subst e
    have := nodup_inj h.nodup hi hj
    omega
  have hx := List.mem_of_getElem? hi
  have hy := List.mem_of_getElem? hj
  have h1 := h.apart x hx y hy hne
  have h2 := h.up i j x y hij hi hj
  have h3 := h.lie y hy
  omega
theorem Wins.dur_le : 0 ≤ dur ps M ∧ (M ≠ [] → dur ps M ≤ B) := by
  have key : ∀ (L : List Nat) (lo : Int), (∀ x ∈ L, lo ≤ st ps x) → (∀ x ∈ L, wTo ps x ≤ B ∧ wTo ps x = st ps x + (ptOf ps x).len ∧ 1 ≤ (ptOf ps x).len) → L.Pairwise (fun x y => wTo ps x ≤ st ps y) →
      0 ≤ dur ps L ∧ (L ≠ [] → lo + dur ps L ≤ B) := by
    intro L
    induction L with
    | nil => intro lo _ _ _; exact ⟨by simp [dur], fun h => absurd rfl h⟩
    | cons x L ih =>
      intro lo h1 h2 h3
      obtain ⟨h4, h5⟩ := List.pairwise_cons.1 h3
      obtain ⟨i1, i2⟩ := ih (wTo ps x) h4 (fun y hy => h2 y (by simp [hy])) h5
      have e : dur ps (x :: L) = (ptOf ps x).len + dur ps L := by simp [dur]
      have hx := h2 x (by simp)
      have hlo := h1 x (by simp)
      refine ⟨by omega, fun _ => ?_⟩
      rcases Decidable.em (L = []) with q | q
      · subst q
        have : dur ps [] = 0 := by simp [dur]
        omega
      · have := i2 q
        omega
  have hp : M.Pairwise (fun x y => wTo ps x ≤ st ps y) := by
    rw [List.pairwise_iff_getElem]
    intro i j hi hj hij
    exact h.next hij (List.getElem?_eq_getElem hi) (List.getElem?_eq_getElem hj)
  have := key M 0 (fun x hx => (h.lie x hx).1) (fun x hx => ⟨(h.lie x hx).2.2.2.2.2, (h.lie x hx).2.1, (h.lie x hx).2.2.1⟩) hp
  exact ⟨this.1, fun q => by have := this.2 q; omega⟩
theorem Wins.at_in {t : Int} {x : Nat} (hx : x ∈ M) (h1 : st ps x ≤ t) (h2 : t < wTo ps x) : atOf ps t M = x := by
  have key : ∀ L : List Nat, (∀ y ∈ L, y ∈ M) → x ∈ L → atOf ps t L = x := by
    intro L
    induction L with
    | nil => intro _ hx; simp at hx
    | cons y L ih =>
      intro hL hxL
      simp only [atOf]
      split
      · rename_i hc
        rcases Decidable.em (x = y) with q | q
        · rw [q]
        · have h3 := h.apart x hx y (hL y (by simp)) q
          simp only [st] at *
          omega
      · rename_i hc
        refine ih (fun z hz => hL z (by simp [hz])) ?_
        rcases List.mem_cons.1 hxL with q | q
        · subst q
          simp only [st] at *
          omega
        · exact q
  exact key M (fun y hy => hy) hx
end
theorem atOf_neg {ps : List Pt} {t : Int} {x : Nat} : ∀ {M : List Nat}, atOf ps t M = x → st ps x ≤ t ∧ t < wTo ps x
  | [], h => by simp [atOf] at h
  | y :: M, h => by
    simp only [atOf] at h
    split at h
    · rename_i hc
      obtain rfl : y = x := by omega
      exact hc
    · exact atOf_neg h
theorem Ord.idle_ge {c : Cf} {ps : List Pt} {qs : List Qt} {rs : List Rt} (h : c.Chk6 ps qs rs) {nd : Int} {M : List Nat} (hM : Ord ps nd M) : c.n3 ≤ M.foldl (subW ps) c.round := by
  have hw := hM.wins h
  obtain ⟨d1, d2⟩ := hw.dur_le
  obtain ⟨e1, e2, e3, e4⟩ := Cf.slots_eq h.chk5
  obtain ⟨_, _, c1, c2⟩ := h.chk5.bounds
  have h1 := sub_emod ps M c.round
  have h2 := subW_in ps M c.round (by omega)
  have h3 : dur ps M ≤ c.slots := by
    rcases Decidable.em (M = []) with q | q
    · subst q
      have : dur ps [] = 0 := by simp [dur]
      omega
    · exact d2 q
  omega
end Go.Proofs.Ytoikfhpbkpljlaa
