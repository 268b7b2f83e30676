/- Bytes in the store, and the check of bytes: walked. -/
import Derived.Test.YtpgiiidnimbdgaaAbF1
namespace Go.Proofs.Ytpgiiidnimbdgaa
open Go.Ab
set_option linter.unusedSimpArgs false
set_option linter.unusedVariables false

/-! bytes -/
def bys (l : List Nat) : List Value := l.map (fun (x : Nat) => .int .u8 (x : Int))
theorem bys_len (l : List Nat) : (bys l).length = l.length := by simp [bys]
theorem bys_get {l : List Nat} {i x : Nat} (h : l[i]? = some x) : (bys l)[i]? = some (.int .u8 (x : Int)) := by simp [bys, h]
theorem bys_append (a b : List Nat) : bys (a ++ b) = bys a ++ bys b := by simp [bys]
theorem bys_take (a : List Nat) (n : Nat) : (bys a).take n = bys (a.take n) := by simp [bys, List.map_take]
theorem bys_drop (a : List Nat) (n : Nat) : (bys a).drop n = bys (a.drop n) := by simp [bys, List.map_drop]
theorem bys_closed (n : Nat) (l : List Nat) : ∀ v ∈ bys l, Closed n v := fun v hv => by
  obtain ⟨x, _, rfl⟩ := List.mem_map.1 hv
  exact .const _ rfl
theorem bys_nil : bys [] = [] := rfl
theorem bys_cons (x : Nat) (l : List Nat) : bys (x :: l) = .int .u8 (x : Int) :: bys l := rfl
theorem numsOf_bys (l : List Nat) : numsOf (bys l) = some (l.map fun (x : Nat) => (x : Int)) := by
  induction l with
  | nil => rfl
  | cons x l ih => rw [bys_cons]; simp [numsOf, ih]
/-- Each is a byte. -/
def IsBy (l : List Nat) : Prop := ∀ x ∈ l, x < 256
/-- A slice of bytes. -/
structure SlB (S : St) (v : Value) (l : List Nat) : Prop where
  h : (v = .slice none 0 0 ∧ l = []) ∨ ∃ o k s rw cs, v = .slice (some ⟨o, k, none⟩) l.length s ∧ S[o]? = some (.row 5 rw cs) ∧ k + l.length ≤ cs.length ∧ (cs.drop k).take l.length = bys l ∧ (s = 0 ∨ s = 1)
/-- A slice of bytes that is the owner of its row. -/
def OwB (S : St) (n : Nat) (v : Value) (l : List Nat) : Prop := ∃ o, n ≤ o ∧ v = .slice (some ⟨o, 0, none⟩) l.length 1 ∧ S[o]? = some (.row 5 true (bys l))
theorem SlB.keeps {S S' : St} (hk : Keeps S S') {v : Value} {l : List Nat} (h : SlB S v l) : SlB S' v l := by
  rcases h.h with ⟨h1, h2⟩ | ⟨o, k, s, rw, cs, h1, h2, h3, h4, h5⟩
  · exact ⟨.inl ⟨h1, h2⟩⟩
  · exact ⟨.inr ⟨o, k, s, rw, cs, h1, hk.get h2, h3, h4, h5⟩⟩
theorem SlB.append {S : St} {v : Value} {l : List Nat} (h : SlB S v l) (R : St) : SlB (S ++ R) v l := h.keeps (Keeps.append _ _)
theorem OwB.slB {S : St} {n : Nat} {v : Value} {l : List Nat} (h : OwB S n v l) : SlB S v l := by
  obtain ⟨o, _, rfl, h2⟩ := h
  exact ⟨.inr ⟨o, 0, 1, true, _, rfl, h2, by rw [bys_len]; omega, by rw [List.drop_zero, ← bys_len, List.take_length], .inr rfl⟩⟩
theorem OwB.keeps {S S' : St} (hk : Keeps S S') {n : Nat} {v : Value} {l : List Nat} (h : OwB S n v l) : OwB S' n v l := by
  obtain ⟨o, h1, rfl, h2⟩ := h
  exact ⟨o, h1, rfl, hk.get h2⟩

section
variable {S : St} {v : Value} {l : List Nat} (h : SlB S v l)
include h
theorem SlB.cells : cellsA S 1 v = some (l.length, bys l) := by
  rcases h.h with ⟨rfl, rfl⟩ | ⟨o, k, s, rw, cs, rfl, h2, h3, h4, h5⟩
  · rfl
  · simp [cellsA, h2, h3, h4]
theorem SlB.len : lenA TT 22 v = some (.int .i64 l.length) := by
  rcases h.h with ⟨rfl, rfl⟩ | ⟨o, k, s, rw, cs, rfl, h2, h3, h4, h5⟩
  · unfold lenA; rw [show TT 22 = _ from ty22]; rfl
  · unfold lenA; rw [show TT 22 = _ from ty22]
theorem SlB.conv : convA TT S 22 9 v = some (.string (strOfNums (l.map fun (x : Nat) => (x : Int)))) := by
  rcases h.h with ⟨rfl, rfl⟩ | ⟨o, k, s, rw, cs, rfl, h2, h3, h4, h5⟩
  · simp only [convA, ty22, ty9, ty5]; rfl
  · unfold convA; rw [show TT 22 = _ from ty22, show TT 9 = _ from ty9]; (try dsimp only); rw [show TT 5 = _ from ty5]; simp only [h2, h3, h4, if_true, numsOf_bys]; rfl
theorem SlB.idx {i x : Nat} (hx : l[i]? = some x) : ∃ p, indexA TT 22 v (.int .i64 (i : Int)) = some p ∧ ∀ S', Keeps S S' → loadA TT S' 5 p = some (.int .u8 (x : Int)) := by
  have hi := (List.getElem?_eq_some_iff.1 hx).1
  rcases h.h with ⟨rfl, rfl⟩ | ⟨o, k, s, rw, cs, rfl, h2, h3, h4, h5⟩
  · simp at hi
  · have hb : 0 ≤ (i : Int) ∧ (i : Int) < (l.length : Int) := by omega
    refine ⟨.pointer (some ⟨o, k + i, none⟩), ?_, fun S' hk => ?_⟩
    · unfold indexA; rw [show TT 22 = _ from ty22]; (try dsimp only); rw [show TT 5 = _ from ty5]; (try dsimp only); rw [if_pos hb]; simp
    · have := bys_get hx
      rw [← h4, List.getElem?_take, if_pos hi, List.getElem?_drop] at this
      unfold loadA; rw [show TT 5 = _ from ty5]; simp only [hk.get h2]; exact this
theorem SlB.sub (lo hi : Nat) (h1 : lo ≤ hi) (h2 : hi ≤ l.length) (a b : Option Value) (ha : a = some (.int .i64 (lo : Int)) ∨ a = none ∧ lo = 0) (hb : b = some (.int .i64 (hi : Int)) ∨ b = none ∧ hi = l.length) :
    ∃ u, sliceA TT 22 v a b = some u ∧ SlB S u ((l.take hi).drop lo) := by
  have e1 : bnd l.length l.length b = some hi := by
    rcases hb with rfl | ⟨rfl, rfl⟩
    · simp [bnd, h2]
    · rfl
  have e2 : bnd 0 hi a = some lo := by
    rcases ha with rfl | ⟨rfl, rfl⟩
    · simp [bnd, h1]
    · rfl
  rcases h.h with ⟨rfl, rfl⟩ | ⟨o, k, s, rw, cs, rfl, h2', h3, h4, h5⟩
  · have : hi = 0 := by simpa using h2
    subst this
    obtain rfl : lo = 0 := by omega
    refine ⟨.slice none 0 0, ?_, ⟨.inl ⟨rfl, by simp⟩⟩⟩
    simp only [sliceA, ty22, ty5, show bnd 0 0 b = some 0 from e1, e2]
  · refine ⟨.slice (some ⟨o, k + lo, none⟩) (hi - lo) s, ?_, ⟨.inr ⟨o, k + lo, s, rw, cs, by simp [Nat.min_eq_left h2], h2', by simp [Nat.min_eq_left h2]; omega, ?_, h5⟩⟩⟩
    · unfold sliceA; rw [show TT 22 = _ from ty22]; (try dsimp only); rw [show TT 5 = _ from ty5]; (try dsimp only)
      rw [if_neg (by omega), e1]
      dsimp only
      rw [e2]
      simp
    · have e3 : ((l.take hi).drop lo).length = hi - lo := by simp [Nat.min_eq_left h2]
      rw [e3, ← bys_drop, ← bys_take, ← h4, List.take_take, Nat.min_eq_left h2, List.drop_take (l := cs.drop k), List.drop_drop]
end
end Go.Proofs.Ytpgiiidnimbdgaa
