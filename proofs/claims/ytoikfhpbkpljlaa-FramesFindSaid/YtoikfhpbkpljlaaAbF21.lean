/- A node's windows are one list, in whatever order they are reckoned; what the two texts make of it: plain laws. -/
import Derived.Test.YtoikfhpbkpljlaaAbF20
import Derived.Test.YtoikfhpbkpljlaaAbF19
namespace Go.Proofs.Ytoikfhpbkpljlaa
open Go.Ab
set_option linter.unusedSimpArgs false
set_option linter.unusedVariables false

theorem strict_eq {key : Nat → Int} : ∀ {l m : List Nat}, l.Pairwise (fun x y => key x < key y) → m.Pairwise (fun x y => key x < key y) → (∀ x, x ∈ l ↔ x ∈ m) → l = m
  | [], [], _, _, _ => rfl
  | [], y :: m, _, _, h => by have := (h y).2 (by simp); simp at this
  | x :: l, [], _, _, h => by have := (h x).1 (by simp); simp at this
  | x :: l, y :: m, hl, hm, h => by
    obtain ⟨l1, l2⟩ := List.pairwise_cons.1 hl
    obtain ⟨m1, m2⟩ := List.pairwise_cons.1 hm
    have hxy : x = y := by
      rcases Decidable.em (x = y) with e | e
      · exact e
      · have h1 : x ∈ m := by
          rcases List.mem_cons.1 ((h x).1 (by simp)) with q | q
          · exact absurd q e
          · exact q
        have h2 : y ∈ l := by
          rcases List.mem_cons.1 ((h y).2 (by simp)) with q | q
          · exact absurd q.symm e
          · exact q
        have := m1 x h1
        have := l1 y h2
        omega
    subst hxy
    have : l = m := strict_eq l2 m2 (fun z => by
      constructor
      · intro hz
        rcases List.mem_cons.1 ((h z).1 (by simp [hz])) with q | q
        · have := l1 z hz
          rw [q] at this
          omega
        · exact q
      · intro hz
        rcases List.mem_cons.1 ((h z).2 (by simp [hz])) with q | q
        · have := m1 z hz
          rw [q] at this
          omega
        · exact q)
    rw [this]

theorem insO_strict {ps : List Pt} {L : List Nat} {i : Nat} (h : L.Pairwise (fun x y => st ps x < st ps y)) (hi : ∀ x ∈ L, st ps x ≠ st ps i) : (insO ps L i).Pairwise (fun x y => st ps x < st ps y) := by
  unfold insO
  have hlo : ∀ x ∈ L.take (posO ps i L), st ps x < st ps i := by
    intro x hx
    obtain ⟨k, hk⟩ := List.mem_iff_getElem?.1 hx
    rw [List.getElem?_take] at hk
    split at hk
    · rename_i hlt
      have h1 := posO_lt hlt hk
      have h2 := hi x (List.mem_of_getElem? hk)
      simp only [st] at *
      omega
    · cases hk
  have hhi : ∀ x ∈ L.drop (posO ps i L), st ps i < st ps x := by
    intro x hx
    cases hd : L.drop (posO ps i L) with
    | nil => rw [hd] at hx; simp at hx
    | cons y M =>
      have hy : L[posO ps i L]? = some y := by
        have := congrArg (fun l => l[0]?) hd
        simpa using this
      have h1 := posO_at hy
      have h2 := h.drop (i := posO ps i L)
      rw [hd] at h2 hx
      rcases List.mem_cons.1 hx with q | q
      · subst q; simp only [st]; omega
      · have := (List.pairwise_cons.1 h2).1 x q
        simp only [st] at *
        omega
  rw [List.pairwise_append]
  refine ⟨h.take, List.pairwise_cons.2 ⟨hhi, h.drop⟩, fun x hx y hy => ?_⟩
  rcases List.mem_cons.1 hy with q | q
  · subst q; exact hlo x hx
  · have h1 := hlo x hx
    have h2 := hhi y q
    omega
theorem mem_insO {ps : List Pt} {L : List Nat} {i x : Nat} : x ∈ insO ps L i ↔ x = i ∨ x ∈ L := by
  constructor
  · exact insO_mem
  · intro h
    simp only [insO, List.mem_append, List.mem_cons]
    rcases h with h | h
    · exact .inr (.inl h)
    · rw [← List.take_append_drop (posO ps i L) L, List.mem_append] at h
      rcases h with h | h
      · exact .inl h
      · exact .inr (.inr h)
theorem foldl_insO {ps : List Pt} : ∀ (M L : List Nat), L.Pairwise (fun x y => st ps x < st ps y) → (∀ x ∈ M, ∀ y ∈ L, st ps y ≠ st ps x) → M.Pairwise (fun x y => st ps x ≠ st ps y) →
    (M.foldl (insO ps) L).Pairwise (fun x y => st ps x < st ps y) ∧ ∀ x, x ∈ M.foldl (insO ps) L ↔ x ∈ L ∨ x ∈ M
  | [], L, h, _, _ => ⟨h, fun x => by simp⟩
  | i :: M, L, h, h1, h2 => by
    obtain ⟨p1, p2⟩ := List.pairwise_cons.1 h2
    obtain ⟨q1, q2⟩ := foldl_insO M (insO ps L i) (insO_strict h (fun x hx => h1 i (by simp) x hx)) (fun x hx y hy => by
      rcases insO_mem hy with q | q
      · subst q; exact p1 x hx
      · exact h1 x (by simp [hx]) y q) p2
    refine ⟨q1, fun x => ?_⟩
    rw [List.foldl_cons, q2 x, mem_insO, List.mem_cons]
    constructor
    · rintro ((h | h) | h)
      · exact .inr (.inl h)
      · exact .inl h
      · exact .inr (.inr h)
    · rintro (h | h | h)
      · exact .inl (.inr h)
      · exact .inl (.inl h)
      · exact .inr h

section
variable {c : Cf} {ps : List Pt} {qs : List Qt} {rs : List Rt} (h : c.Chk6 ps qs rs) {nd : Int} {M : List Nat} (hM : Ord ps nd M)
include h hM
theorem Ord.starts {x y : Nat} (hx : x ∈ M) (hy : y ∈ M) (hne : x ≠ y) : st ps x ≠ st ps y := by
  have hw := hM.wins h
  have h1 := hw.apart x hx y hy hne
  have h2 := hw.lie x hx
  have h3 := hw.lie y hy
  omega
theorem Ord.eq_ordO : M = ordO ps nd ps.length := by
  have hw := hM.wins h
  have hmem : ∀ x, x ∈ M ↔ x ∈ sel ps nd ps.length := fun x => hM.perm.mem_iff
  have hsel : (sel ps nd ps.length).Pairwise (fun x y => st ps x ≠ st ps y) := by
    have hn : (sel ps nd ps.length).Nodup := List.nodup_range.filter _
    refine hn.imp_of_mem (fun {x y} hx hy hxy => ?_)
    exact hM.starts h ((hmem x).2 hx) ((hmem y).2 hy) hxy
  obtain ⟨q1, q2⟩ := foldl_insO (ps := ps) (sel ps nd ps.length) [] List.Pairwise.nil (fun x _ y hy => by simp at hy) hsel
  refine strict_eq (key := st ps) ?_ q1 (fun x => by rw [ordO, q2 x, hmem x]; simp)
  rw [List.pairwise_iff_getElem]
  intro i j hi hj hij
  have h1 := hw.up i j _ _ hij (List.getElem?_eq_getElem hi) (List.getElem?_eq_getElem hj)
  have h2 := hM.starts h (List.getElem_mem hi) (List.getElem_mem hj) (fun e => by
    have := nodup_inj hw.nodup (List.getElem?_eq_getElem hi) (by rw [e]; exact List.getElem?_eq_getElem hj)
    omega)
  omega
theorem Ord.in16_iff {t : Int} (ht : t ≤ 9223372036854775807) {x : Nat} (hx : x < ps.length) : in16 ps nd t x ↔ x ∈ M ∧ st ps x ≤ t ∧ t < wTo ps x := by
  have hp : ptOf ps x = ps[x] := by simp [ptOf, List.getD_eq_getElem?_getD, hx]
  have hms : x ∈ M ↔ (ptOf ps x).node = nd := by
    rw [hM.perm.mem_iff]
    simp [sel, hx, List.getD_eq_getElem?_getD, hp]
  have hw := hM.wins h
  unfold in16
  constructor
  · rintro ⟨h1, h2, h3⟩
    have hxm := hms.2 h1
    have := hw.lie x hxm
    simp only [w64, IntKind.wrap_i64, st] at *
    exact ⟨hxm, by omega, by omega⟩
  · rintro ⟨h1, h2, h3⟩
    have := hw.lie x h1
    simp only [w64, IntKind.wrap_i64, st] at *
    exact ⟨hms.1 h1, by omega, by omega⟩
theorem Ord.at_eq {t : Int} (ht : t ≤ 9223372036854775807) : atOf ps t M = at16 ps nd t (List.range ps.length) := by
  have hw := hM.wins h
  have key : ∀ L : List Nat, (∀ y ∈ L, y < ps.length) → (∀ y ∈ M, st ps y ≤ t ∧ t < wTo ps y → y ∈ L) → at16 ps nd t L = atOf ps t M := by
    intro L
    induction L with
    | nil =>
      intro _ hc
      have : ∀ K : List Nat, (∀ y ∈ K, y ∈ M) → atOf ps t K = -1 := by
        intro K
        induction K with
        | nil => intro _; rfl
        | cons z K ih =>
          intro hK
          simp only [atOf]
          rw [if_neg (fun q => by have := hc z (hK z (by simp)) q; simp at this)]
          exact ih (fun y hy => hK y (by simp [hy]))
      exact (this M (fun y hy => hy)).symm
    | cons y L ih =>
      intro hl hc
      simp only [at16]
      split
      · rename_i hin
        obtain ⟨a, b, d⟩ := (hM.in16_iff h ht (hl y (by simp))).1 hin
        exact (hw.at_in a b d).symm
      · rename_i hin
        refine ih (fun z hz => hl z (by simp [hz])) (fun z hz hq => ?_)
        rcases List.mem_cons.1 (hc z hz hq) with e | e
        · subst e
          exact absurd ((hM.in16_iff h ht (hl z (by simp))).2 ⟨hz, hq⟩) hin
        · exact e
  exact (key _ (fun y hy => List.mem_range.1 hy) (fun y hy _ => List.mem_range.2 (hM.lt y hy))).symm
end

theorem foldl_perm {β : Type} {g : β → Nat → β} (hg : ∀ s a b, g (g s a) b = g (g s b) a) {l m : List Nat} (h : l.Perm m) : ∀ s, l.foldl g s = m.foldl g s := by
  induction h with
  | nil => intro s; rfl
  | cons x _ ih => intro s; exact ih _
  | swap x y l => intro s; simp only [List.foldl_cons]; rw [hg]
  | trans _ _ ih1 ih2 => intro s; rw [ih1, ih2]
theorem nxt1_comm (t : Int) (s : Int × Bool) (a b : Int) : nxt1 t (nxt1 t s a) b = nxt1 t (nxt1 t s b) a := by
  obtain ⟨v, k⟩ := s
  by_cases ha : a > t <;> by_cases hb : b > t <;> cases k <;> simp [nxt1, ha, hb] <;> (repeat' split) <;> simp_all <;> omega
theorem nxtW_comm (ps : List Pt) (t : Int) (s : Int × Bool) (x y : Nat) : nxtW ps t (nxtW ps t s x) y = nxtW ps t (nxtW ps t s y) x := by
  simp only [nxtW]
  rw [nxt1_comm t _ (wTo ps x) (ptOf ps y).start, nxt1_comm t s (ptOf ps x).start (ptOf ps y).start, nxt1_comm t _ (wTo ps x) (wTo ps y), nxt1_comm t _ (ptOf ps x).start (wTo ps y)]
theorem subL_emod (ps : List Pt) : ∀ (M : List Nat) (a : Int), (M.foldl (subL ps) a) % 18446744073709551616 = (a - dur ps M) % 18446744073709551616
  | [], a => by simp [dur]
  | x :: M, a => by
    rw [List.foldl_cons, subL_emod ps M]
    have h1 := w64_emod (a - (ptOf ps x).len)
    have h2 : dur ps (x :: M) = (ptOf ps x).len + dur ps M := by simp [dur]
    rw [h2]
    simp only [subL]
    omega
theorem subL_in (ps : List Pt) : ∀ (M : List Nat) (a : Int), -9223372036854775808 ≤ a ∧ a ≤ 9223372036854775807 → -9223372036854775808 ≤ M.foldl (subL ps) a ∧ M.foldl (subL ps) a ≤ 9223372036854775807
  | [], a, h => h
  | x :: M, a, h => subL_in ps M _ (w64_in _)
theorem Ord.idle_eq {ps : List Pt} {nd : Int} {M : List Nat} (hM : Ord ps nd M) (c : Cf) : M.foldl (subW ps) c.round = (sel ps nd ps.length).foldl (subL ps) c.round := by
  have h1 := sub_emod ps M c.round
  have h2 := subL_emod ps (sel ps nd ps.length) c.round
  have h3 := dur_perm (ps := ps) hM.perm
  have h4 : -9223372036854775808 ≤ c.round ∧ c.round ≤ 9223372036854775807 := w64_in _
  have h5 := subW_in ps M c.round h4
  have h6 := subL_in ps (sel ps nd ps.length) c.round h4
  rw [h3] at h1
  omega
end Go.Proofs.Ytoikfhpbkpljlaa
