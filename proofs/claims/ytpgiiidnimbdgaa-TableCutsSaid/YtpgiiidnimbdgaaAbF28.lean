/- Lists of structs in the store; first error of two: plain. -/
import Derived.Test.YtpgiiidnimbdgaaAbF9
namespace Go.Proofs.Ytpgiiidnimbdgaa
open Go.Ab
set_option linter.unusedSimpArgs false
set_option linter.unusedVariables false

def thenE (a b : List (Int × Int)) : List (Int × Int) := match a with
  | [] => b
  | x :: t => x :: t
/-- A slice lies so. -/
structure Sl (S : St) (ty sz : Nat) (v : Value) (xs : List (List Value)) : Prop where
  w : ∀ x ∈ xs, x.length = sz
  h : (v = .slice none 0 0 ∧ xs = []) ∨ ∃ o s rw, v = .slice (some ⟨o, 0, none⟩) xs.length s ∧ S[o]? = some (.row ty rw xs.flatten) ∧ (s = 0 ∨ s = sz)
theorem Sl.keeps {S S' : St} (hk : Keeps S S') {ty sz : Nat} {v : Value} {xs : List (List Value)} (h : Sl S ty sz v xs) : Sl S' ty sz v xs := by
  refine ⟨h.w, ?_⟩
  rcases h.h with h1 | ⟨o, s, rw, h1, h2, h3⟩
  · exact .inl h1
  · exact .inr ⟨o, s, rw, h1, hk.get h2, h3⟩
theorem flat_get {sz : Nat} : ∀ {xs : List (List Value)}, (∀ x ∈ xs, x.length = sz) → ∀ {i : Nat} {x : List Value}, xs[i]? = some x → (xs.flatten.drop (i * sz)).take sz = x ∧ i * sz + sz ≤ xs.flatten.length
  | [], _, i, x, h => by simp at h
  | y :: xs, hw, 0, x, h => by
    simp at h
    subst h
    have := hw y (by simp)
    refine ⟨by simp [List.take_append_of_le_length, ← this], by simp; omega⟩
  | y :: xs, hw, i + 1, x, h => by
    have hy := hw y (by simp)
    obtain ⟨h1, h2⟩ := flat_get (xs := xs) (fun z hz => hw z (by simp [hz])) (i := i) (x := x) (by simpa using h)
    refine ⟨?_, ?_⟩
    · have e1 : (i + 1) * sz = y.length + i * sz := by rw [Nat.succ_mul, hy]; omega
      rw [List.flatten_cons, e1, List.drop_append, List.drop_of_length_le (by omega), List.nil_append, Nat.add_sub_cancel_left]
      exact h1
    · rw [List.flatten_cons, List.length_append, Nat.succ_mul]
      omega
/-- An element of a slice: where it lies. -/
theorem Sl.at {S : St} {ty sz : Nat} {v : Value} {xs : List (List Value)} (h : Sl S ty sz v xs) {i : Nat} {x : List Value} (hx : xs[i]? = some x) :
    ∃ o s rw, v = .slice (some ⟨o, 0, none⟩) xs.length s ∧ S[o]? = some (.row ty rw xs.flatten) ∧ (xs.flatten.drop (i * sz)).take sz = x ∧ i * sz + sz ≤ xs.flatten.length := by
  rcases h.h with ⟨rfl, rfl⟩ | ⟨o, s, rw, h1, h2, h3⟩
  · simp at hx
  · have ⟨h4, h5⟩ := flat_get h.w hx
    exact ⟨o, s, rw, h1, h2, h4, h5⟩
theorem Sl.len {S : St} {ty sz : Nat} {v : Value} {xs : List (List Value)} (h : Sl S ty sz v xs) {t e : TypeId} {a b : Nat} {z : Value} (ht : TT t = some ⟨.slice e, a, z, b⟩) : lenA TT t v = some (.int .i64 xs.length) := by
  rcases h.h with ⟨rfl, rfl⟩ | ⟨o, s, rw, rfl, h2, h3⟩
  · unfold lenA; rw [ht]; rfl
  · unfold lenA; rw [ht]
theorem take_get {l : List Value} {k n i : Nat} {x : List Value} (h : (l.drop k).take n = x) (hi : i < n) : l[k + i]? = x[i]? := by
  rw [← h, List.getElem?_take, if_pos hi, List.getElem?_drop]

theorem ib (a b : Nat) : ((a : Int) == (b : Int)) = (a == b) := by
  rw [Bool.eq_iff_iff]
  simp only [beq_iff_eq]
  omega
theorem ib0 (a : Nat) : ((a : Int) == 0) = (a == 0) := ib a 0
theorem ib2 (a : Nat) : ((a : Int) == 2) = (a == 2) := ib a 2
theorem ib3 (a : Nat) : ((a : Int) == 3) = (a == 3) := ib a 3
theorem SlB.one {S : St} {v : Value} {l : List Nat} (h : SlB S v l) : solid v = true ∧ v.cells = #[v] := by
  rcases h.h with ⟨rfl, _⟩ | ⟨o, k, s, rw, cs, rfl, _⟩ <;> exact ⟨rfl, rfl⟩
theorem topM_nat (n : Nat) : topM (n : Int) = n := by unfold topM; rw [if_neg (by omega)]

end Go.Proofs.Ytpgiiidnimbdgaa
