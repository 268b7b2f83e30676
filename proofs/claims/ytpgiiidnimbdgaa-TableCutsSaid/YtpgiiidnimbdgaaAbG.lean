/- How a store moves with a world: a new row, a row that is written, a row that is left; for any program. -/
import Derived.Test.YtpgiiidnimbdgaaAbF
import Derived.Laws.CopyRow
namespace Go.Ab
open Go.RowKit
set_option linter.unusedVariables false
set_option linter.unusedSimpArgs false

section
variable {σ : Sg} {S : St} {base : Nat} {w0 w : World}

theorem Sim.lt (h : Sim σ S base w0 w) {o : Nat} {l : Loc} {ty rw cs} (hS : S[o]? = some (.row ty rw cs)) (hl : σ[o]? = some l) (hne : cs ≠ []) : l.b < w.heap.size := by
  cases cs with
  | nil => exact absurd rfl hne
  | cons c cs =>
    obtain ⟨v', h1, _⟩ := h.cell o l ty rw (c :: cs) hS hl 0 c rfl
    exact World.block_lt_of_cell? w _ h1

theorem Sim.own_lt (h : Sim σ S base w0 w) {o : Nat} {l : Loc} {ty cs} (hS : S[o]? = some (.row ty true cs)) (hl : σ[o]? = some l) : l.b < w.heap.size := by
  obtain ⟨_, _, car, hc, _⟩ := h.own o l ty cs hS hl
  exact (Array.getElem?_eq_some_iff.1 hc).1

/-- Another block has been written, or new ones have come: what lies there is forgotten. -/
theorem Sim.kill (h : Sim σ S base w0 w) {w' : World} {row : Option Nat} (hg : w.grownBy w' row) (hrow : ∀ b, row = some b → base ≤ b) {S1 : St} (hlen : S1.length = S.length)
    (hS1 : ∀ (o : Nat) ty rw cs, S1[o]? = some (.row ty rw cs) → S[o]? = some (.row ty rw cs) ∧ ((rw = true ∨ cs ≠ []) → ∀ l, σ[o]? = some l → some l.b ≠ row)) : Sim σ S1 base w0 w' where
  len := h.len.trans hlen.symm
  below := h.below.grown hg h.size hrow
  size := Nat.le_trans h.size hg.size
  cell := fun o l ty rw cs h1 hl i v hv => by
    obtain ⟨q1, q2⟩ := hS1 o ty rw cs h1
    obtain ⟨v', h3, h4⟩ := h.cell o l ty rw cs q1 hl i v hv
    exact ⟨v', hg.cell h3 (q2 (.inr (by rintro rfl; simp at hv)) l hl), h4⟩
  own := fun o l ty cs h1 hl => by
    obtain ⟨q1, q2⟩ := hS1 o ty true cs h1
    obtain ⟨a, b, car, c, d⟩ := h.own o l ty cs q1 hl
    exact ⟨a, b, car, by rw [hg.block l.b (h.own_lt q1 hl) (q2 (.inl rfl) l hl)]; exact c, d⟩
  apart := fun o o' l l' ty cs ty' rw' cs' hne hh h1 h1' hl hl' => h.apart o o' l l' ty cs ty' rw' cs' hne hh (hS1 o ty true cs h1).1 (hS1 o' ty' rw' cs' h1').1 hl hl'

theorem Sim.grown (h : Sim σ S base w0 w) {w' : World} (hg : w.grownBy w' none) : Sim σ S base w0 w' :=
  h.kill hg (fun b hb => by cases hb) rfl (fun o ty rw cs h1 => ⟨h1, fun _ l _ => by simp⟩)

theorem get_snoc {α : Type} {l : List α} {x y : α} {i : Nat} (h : (l ++ [x])[i]? = some y) : (l[i]? = some y ∧ i < l.length) ∨ (i = l.length ∧ y = x) := by
  rcases Nat.lt_trichotomy i l.length with hlt | heq | hgt
  · rw [List.getElem?_append_left hlt] at h
    exact .inl ⟨h, hlt⟩
  · subst heq
    rw [List.getElem?_append_right (Nat.le_refl _)] at h
    simp at h
    exact .inr ⟨rfl, h.symm⟩
  · rw [List.getElem?_append_right (by omega), List.getElem?_eq_none (by simp; omega)] at h
    cases h

/-- A row of the call's own is told of, too. -/
theorem Sim.add (h : Sim σ S base w0 w) {b : Nat} {car : Array Value} {ty : TypeId} {cs : List Value} (hb : w.heap[b]? = some (.cells car ty (0, 0))) (hbase : base ≤ b)
    (hcs : ∀ (i : Nat) v, cs[i]? = some v → ∃ v', car[i]? = some v' ∧ Rep (σ ++ [⟨b, 0, some car.size⟩]) v v' ∧ v'.oneCell' = true)
    (hap : ∀ (o' : Nat) l' ty' rw' cs', (rw' = true ∨ cs' ≠ []) → S[o']? = some (.row ty' rw' cs') → σ[o']? = some l' → l'.b ≠ b) :
    Sim (σ ++ [⟨b, 0, some car.size⟩]) (S ++ [.row ty true cs]) base w0 w where
  len := by simp [h.len]
  below := h.below
  size := h.size
  cell := fun o l ty1 rw cs1 h1 hl i v hv => by
    rcases get_snoc h1 with ⟨q1, q2⟩ | ⟨rfl, q1⟩
    · rw [List.getElem?_append_left (by rw [h.len]; exact q2)] at hl
      obtain ⟨v', a, r, c⟩ := h.cell o l ty1 rw cs1 q1 hl i v hv
      exact ⟨v', a, r.mono (List.prefix_append _ _), c⟩
    · injection q1 with _ _ q3
      subst q3
      rw [← h.len, List.getElem?_append_right (Nat.le_refl _)] at hl
      simp at hl
      subst hl
      obtain ⟨v', a, r, c⟩ := hcs i v hv
      exact ⟨v', by simp [World.cell?, hb, a], r, c⟩
  own := fun o l ty1 cs1 h1 hl => by
    rcases get_snoc h1 with ⟨q1, q2⟩ | ⟨rfl, q1⟩
    · rw [List.getElem?_append_left (by rw [h.len]; exact q2)] at hl
      exact h.own o l ty1 cs1 q1 hl
    · injection q1 with q2 _ q3
      subst q2
      rw [← h.len, List.getElem?_append_right (Nat.le_refl _)] at hl
      simp at hl
      subst hl
      exact ⟨rfl, hbase, car, hb, rfl⟩
  apart := fun o o' l l' ty1 cs1 ty' rw' cs' hne hh h1 h1' hl hl' => by
    rcases get_snoc h1 with ⟨q1, q2⟩ | ⟨rfl, q1⟩
    · rw [List.getElem?_append_left (by rw [h.len]; exact q2)] at hl
      rcases get_snoc h1' with ⟨p1, p2⟩ | ⟨rfl, p1⟩
      · rw [List.getElem?_append_left (by rw [h.len]; exact p2)] at hl'
        exact h.apart o o' l l' ty1 cs1 ty' rw' cs' hne hh q1 p1 hl hl'
      · rw [← h.len, List.getElem?_append_right (Nat.le_refl _)] at hl'
        simp at hl'
        subst hl'
        exact hap o l ty1 true cs1 (.inl rfl) q1 hl
    · rw [← h.len, List.getElem?_append_right (Nat.le_refl _)] at hl
      simp at hl
      subst hl
      rcases get_snoc h1' with ⟨p1, p2⟩ | ⟨rfl, p1⟩
      · rw [List.getElem?_append_left (by rw [h.len]; exact p2)] at hl'
        exact fun e => hap o' l' ty' rw' cs' hh p1 hl' e.symm
      · exact absurd rfl hne

/-- A row of cells that are read, none of the call's own. -/
theorem Sim.addRead (h : Sim σ S base w0 w) {b off : Nat} {ty : TypeId} {cs : List Value}
    (hcs : ∀ (i : Nat) v, cs[i]? = some v → ∃ v', w.cell? ⟨b, off + i, none⟩ = some v' ∧ Rep (σ ++ [⟨b, off, none⟩]) v v' ∧ v'.oneCell' = true)
    (hap : ∀ (o' : Nat) l' ty' cs', S[o']? = some (.row ty' true cs') → σ[o']? = some l' → l'.b ≠ b) :
    Sim (σ ++ [⟨b, off, none⟩]) (S ++ [.row ty false cs]) base w0 w where
  len := by simp [h.len]
  below := h.below
  size := h.size
  cell := fun o l ty1 rw cs1 h1 hl i v hv => by
    rcases get_snoc h1 with ⟨q1, q2⟩ | ⟨rfl, q1⟩
    · rw [List.getElem?_append_left (by rw [h.len]; exact q2)] at hl
      obtain ⟨v', a, r, c⟩ := h.cell o l ty1 rw cs1 q1 hl i v hv
      exact ⟨v', a, r.mono (List.prefix_append _ _), c⟩
    · injection q1 with _ _ q3
      subst q3
      rw [← h.len, List.getElem?_append_right (Nat.le_refl _)] at hl
      simp at hl
      subst hl
      exact hcs i v hv
  own := fun o l ty1 cs1 h1 hl => by
    rcases get_snoc h1 with ⟨q1, q2⟩ | ⟨rfl, q1⟩
    · rw [List.getElem?_append_left (by rw [h.len]; exact q2)] at hl
      exact h.own o l ty1 cs1 q1 hl
    · injection q1 with _ q2 _
      cases q2
  apart := fun o o' l l' ty1 cs1 ty' rw' cs' hne hh h1 h1' hl hl' => by
    rcases get_snoc h1 with ⟨q1, q2⟩ | ⟨rfl, q1⟩
    · rw [List.getElem?_append_left (by rw [h.len]; exact q2)] at hl
      rcases get_snoc h1' with ⟨p1, p2⟩ | ⟨rfl, p1⟩
      · rw [List.getElem?_append_left (by rw [h.len]; exact p2)] at hl'
        exact h.apart o o' l l' ty1 cs1 ty' rw' cs' hne hh q1 p1 hl hl'
      · rw [← h.len, List.getElem?_append_right (Nat.le_refl _)] at hl'
        simp at hl'
        subst hl'
        exact hap o l ty1 cs1 q1 hl
    · injection q1 with _ q2 _
      cases q2

/-- A new block. -/
theorem Sim.new (h : Sim σ S base w0 w) {car : Array Value} {ty : TypeId} {cs : List Value}
    (hcs : ∀ (i : Nat) v, cs[i]? = some v → ∃ v', car[i]? = some v' ∧ Rep σ v v' ∧ v'.oneCell' = true) :
    Sim (σ ++ [⟨w.heap.size, 0, some car.size⟩]) (S ++ [.row ty true cs]) base w0 (w.alloc (.cells car ty)) := by
  have hg : w.grownBy (w.alloc (.cells car ty)) none := World.grownBy_alloc w _ none
  refine Sim.add (h.grown hg) (heap_alloc_new w _) h.size (fun i v hv => ?_) (fun o' l' ty' rw' cs' hh h1 hl he => ?_)
  · obtain ⟨v', a, b, c⟩ := hcs i v hv
    exact ⟨v', a, b.mono (List.prefix_append _ _), c⟩
  · cases rw' with
    | true =>
      have := h.own_lt h1 hl
      omega
    | false =>
      cases cs' with
      | cons c cs' =>
        have := h.lt h1 hl (by simp)
        omega
      | nil => exact absurd hh (by simp)

/-- A row that is written: another one stands in its place. -/
theorem Sim.put (h : Sim σ S base w0 w) {o : Nat} {l : Loc} {ty : TypeId} {cs : List Value} {w' : World} {car : Array Value} {cs' : List Value}
    (hS : S[o]? = some (.row ty true cs)) (hl : σ[o]? = some l) (hg : w.grownBy w' (some l.b)) (hb : w'.heap[l.b]? = some (.cells car ty (0, 0))) (hN : l.N = some car.size)
    (hcs : ∀ (i : Nat) v, cs'[i]? = some v → ∃ v', car[i]? = some v' ∧ Rep σ v v' ∧ v'.oneCell' = true) : Sim σ (S.set o (.row ty true cs')) base w0 w' := by
  obtain ⟨a0, a1, _⟩ := h.own o l ty cs hS hl
  have ho : o < S.length := (List.getElem?_eq_some_iff.1 hS).1
  have other : ∀ {o' : Nat} {ty' rw' cs1} {l'}, (S.set o (.row ty true cs'))[o']? = some (.row ty' rw' cs1) → σ[o']? = some l' → (o' = o ∧ l' = l ∧ ty' = ty ∧ rw' = true ∧ cs1 = cs') ∨ (o' ≠ o ∧ S[o']? = some (.row ty' rw' cs1)) := by
    intro o' ty' rw' cs1 l' h1 hl'
    by_cases he : o' = o
    · subst he
      rw [List.getElem?_set_self ho] at h1
      injection h1 with h1
      injection h1 with q1 q2 q3
      rw [hl] at hl'
      injection hl' with hl'
      exact .inl ⟨rfl, hl'.symm, q1.symm, q2.symm, q3.symm⟩
    · rw [List.getElem?_set_ne (Ne.symm he)] at h1
      exact .inr ⟨he, h1⟩
  refine ⟨by simp [h.len], h.below.grown hg h.size (fun k hk => by injection hk with hk; omega), Nat.le_trans h.size hg.size, fun o' l' ty' rw' cs1 h1 hl' i v hv => ?_, fun o' l' ty' cs1 h1 hl' => ?_,
    fun o1 o2 l1 l2 ty1 cs1 ty2 rw2 cs2 hne hh h1 h2 hl1 hl2 => ?_⟩
  · rcases other h1 hl' with ⟨rfl, rfl, rfl, rfl, rfl⟩ | ⟨hne, h1⟩
    · obtain ⟨v', p1, p2, p3⟩ := hcs i v hv
      exact ⟨v', by simp [World.cell?, hb, a0, p1], p2, p3⟩
    · obtain ⟨v', p1, p2, p3⟩ := h.cell o' l' ty' rw' cs1 h1 hl' i v hv
      have hcs1 : cs1 ≠ [] := by rintro rfl; simp at hv
      have := h.apart o o' l l' ty cs ty' rw' cs1 (Ne.symm hne) (.inr hcs1) hS h1 hl hl'
      exact ⟨v', hg.cell p1 (fun e => by injection e with e; exact this e.symm), p2, p3⟩
  · rcases other h1 hl' with ⟨rfl, rfl, rfl, _, rfl⟩ | ⟨hne, h1⟩
    · exact ⟨a0, a1, car, hb, hN⟩
    · obtain ⟨p1, p2, car', p3, p4⟩ := h.own o' l' ty' cs1 h1 hl'
      have := h.apart o o' l l' ty cs ty' true cs1 (Ne.symm hne) (.inl rfl) hS h1 hl hl'
      exact ⟨p1, p2, car', by rw [hg.block l'.b (h.own_lt h1 hl') (fun e => by injection e with e; exact this e.symm)]; exact p3, p4⟩
  · rcases other h1 hl1 with ⟨rfl, rfl, rfl, _, rfl⟩ | ⟨hne1, p1⟩
    · rcases other h2 hl2 with ⟨rfl, _⟩ | ⟨hne2, p2⟩
      · exact absurd rfl hne
      · exact h.apart o1 o2 l1 l2 ty1 cs ty2 rw2 cs2 hne hh hS p2 hl hl2
    · rcases other h2 hl2 with ⟨rfl, rfl, rfl, rfl, rfl⟩ | ⟨hne2, p2⟩
      · exact fun e => h.apart o2 o1 l2 l1 ty2 cs ty1 true cs1 (Ne.symm hne) (.inl rfl) hS p1 hl hl1 e.symm
      · exact h.apart o1 o2 l1 l2 ty1 cs1 ty2 rw2 cs2 hne hh p1 p2 hl1 hl2

theorem setRow_grown (w : World) (b : Nat) (car : Array Value) : w.grownBy (w.setRow b car) (some b) := by
  refine ⟨rfl, rfl, rfl, by simp [World.setRow], fun k hk hne => ?_⟩
  have : k ≠ b := fun e => hne (by rw [e])
  simp only [World.setRow, Array.getElem?_modify]
  rw [if_neg (Ne.symm this)]

end
end Go.Ab
