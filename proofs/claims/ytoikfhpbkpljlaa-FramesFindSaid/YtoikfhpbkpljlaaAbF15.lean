/- A configuration that came in as an argument lies in the store as the walks want it. -/
import Derived.Test.YtoikfhpbkpljlaaAbF7
import Derived.Test.YtoikfhpbkpljlaaAbR
namespace Go.Proofs.Ytoikfhpbkpljlaa
open Go.Ab
set_option linter.unusedSimpArgs false
set_option linter.unusedVariables false

theorem map_of {α : Type} (g : α → List Value) : ∀ (ys : List (List Value)), (∀ y ∈ ys, ∃ p, y = g p) → ∃ ps : List α, ys = ps.map g
  | [], _ => ⟨[], rfl⟩
  | y :: ys, h => by
    obtain ⟨p, hp⟩ := h y (by simp)
    obtain ⟨ps, hps⟩ := map_of g ys (fun z hz => h z (by simp [hz]))
    exact ⟨p :: ps, by rw [hp, hps]; rfl⟩
theorem slAt_of {α : Type} {g : α → List Value} {S : St} {ps : List α} {o : Nat} {ty : TypeId} {sz : Nat} (h0 : 0 < sz) (hS : S[o]? = some (.row ty false (ps.map g).flatten)) (hl : ∀ x ∈ ps.map g, x.length = sz) :
    SlAt sz S (ps.map g) o 0 ty false (ps.map g).flatten := by
  refine ⟨hS, fun j x hj => ?_, hl⟩
  have hx := hl x (List.mem_of_getElem? hj)
  apply List.ext_getElem?
  intro i
  rw [List.getElem?_take]
  split
  · rename_i hi
    rw [List.getElem?_drop, flatten_const h0 _ hl]
    have e1 : (0 + j * sz + i) / sz = j := by
      rw [Nat.zero_add, Nat.mul_comm, Nat.mul_add_div h0, Nat.div_eq_of_lt hi, Nat.add_zero]
    have e2 : (0 + j * sz + i) % sz = i := by
      rw [Nat.zero_add, Nat.mul_comm, Nat.mul_add_mod, Nat.mod_eq_of_lt hi]
    rw [e1, e2, hj]
    rfl
  · rename_i hi
    rw [List.getElem?_eq_none (by omega)]

theorem lies3 {S : St} {us : List Value} (h : Lies Try.prog S 3 us) : ∃ n, us = [.int .i64 n] := by
  obtain ⟨n, h, _⟩ := h.int_ Try.underlying3; exact ⟨n, h⟩
theorem lies_u8 {S : St} {us : List Value} (h : Lies Try.prog S 36 us) : ∃ n, us = [.int .u8 n] := by
  obtain ⟨n, h, _⟩ := h.int_ Try.underlying36; exact ⟨n, h⟩

theorem lies39 {S : St} {us : List Value} (h : Lies Try.prog S 39 us) : ∃ p : Pt, us = p.cells := by
  obtain ⟨xs, rfl, hn, hl, hx⟩ := h.struct_ Try.underlying39
  match xs, hn with
  | [a0, a1, a2, a3, a4, a5], _ =>
    obtain ⟨n0, rfl⟩ := lies3 (hx 0 _ _ rfl rfl)
    obtain ⟨n1, rfl⟩ := lies3 (hx 1 _ _ rfl rfl)
    obtain ⟨n2, rfl⟩ := lies3 (hx 2 _ _ rfl rfl)
    obtain ⟨n3, rfl⟩ := lies3 (hx 3 _ _ rfl rfl)
    obtain ⟨n4, rfl⟩ := lies3 (hx 4 _ _ rfl rfl)
    obtain ⟨ys, rfl, hm, _, hy⟩ := (hx 5 _ _ rfl rfl).array_ Try.underlying37
    match ys, hm with
    | [b0, b1, b2, b3], _ =>
      obtain ⟨k0, rfl⟩ := lies_u8 (hy b0 (by simp))
      obtain ⟨k1, rfl⟩ := lies_u8 (hy b1 (by simp))
      obtain ⟨k2, rfl⟩ := lies_u8 (hy b2 (by simp))
      obtain ⟨k3, rfl⟩ := lies_u8 (hy b3 (by simp))
      exact ⟨⟨n0, n1, n2, n3, n4, k0, k1, k2, k3⟩, rfl⟩
theorem lies54 {S : St} {us : List Value} (h : Lies Try.prog S 54 us) : ∃ q : Qt, us = q.cells := by
  obtain ⟨xs, rfl, hn, hl, hx⟩ := h.struct_ Try.underlying54
  match xs, hn with
  | [a0, a1, a2, a3, a4, a5], _ =>
    obtain ⟨n0, rfl⟩ := lies3 (hx 0 _ _ rfl rfl)
    obtain ⟨n1, rfl, _⟩ := (hx 1 _ _ rfl rfl).int_ Try.underlying52
    obtain ⟨n2, rfl⟩ := (hx 2 _ _ rfl rfl).bool_ Try.underlying4
    obtain ⟨n3, rfl⟩ := lies3 (hx 3 _ _ rfl rfl)
    obtain ⟨n4, rfl⟩ := lies3 (hx 4 _ _ rfl rfl)
    obtain ⟨n5, rfl⟩ := lies3 (hx 5 _ _ rfl rfl)
    exact ⟨⟨n0, n1, n2, n3, n4, n5⟩, rfl⟩
theorem lies56 {S : St} {us : List Value} (h : Lies Try.prog S 56 us) : ∃ r : Rt, us = r.cells := by
  obtain ⟨xs, rfl, hn, hl, hx⟩ := h.struct_ Try.underlying56
  match xs, hn with
  | [a0, a1], _ =>
    obtain ⟨n0, rfl⟩ := lies3 (hx 0 _ _ rfl rfl)
    obtain ⟨n1, rfl⟩ := lies3 (hx 1 _ _ rfl rfl)
    exact ⟨⟨n0, n1⟩, rfl⟩

/-- The slices lie within their rows. -/
def Fit (ps : List Pt) (qs : List Qt) (rs : List Rt) (a b d : Lay) : Prop := a.k + ps.length * 9 ≤ a.cs.length ∧ b.k + qs.length * 6 ≤ b.cs.length ∧ d.k + rs.length * 2 ≤ d.cs.length
theorem lies26x {S : St} {us : List Value} (h : Lies Try.prog S 26 us) : ∃ (c : Cf) (ps : List Pt) (qs : List Qt) (rs : List Rt) (a b d : Lay), us = c.cells ∧ CfAt S c ps qs rs a b d ∧ Fit ps qs rs a b d := by
  obtain ⟨xs, rfl, hn, hl, hx⟩ := h.struct_ Try.underlying26
  match xs, hn with
  | [a0, a1, a2, a3, a4, a5, a6, a7, a8, a9, a10], _ =>
    obtain ⟨n0, rfl⟩ := lies3 (hx 0 _ _ rfl rfl)
    obtain ⟨n1, rfl⟩ := lies3 (hx 1 _ _ rfl rfl)
    obtain ⟨n2, rfl⟩ := lies3 (hx 2 _ _ rfl rfl)
    obtain ⟨n3, rfl⟩ := lies3 (hx 3 _ _ rfl rfl)
    obtain ⟨n4, rfl⟩ := lies3 (hx 4 _ _ rfl rfl)
    obtain ⟨n5, rfl⟩ := lies3 (hx 5 _ _ rfl rfl)
    obtain ⟨n6, rfl⟩ := lies3 (hx 6 _ _ rfl rfl)
    obtain ⟨n7, rfl⟩ := lies3 (hx 7 _ _ rfl rfl)
    obtain ⟨o8, y8, rfl, hS8, _, hm8, hl8, hx8⟩ := (hx 8 _ _ rfl rfl).slice_ Try.underlying22
    obtain ⟨o9, y9, rfl, hS9, _, hm9, hl9, hx9⟩ := (hx 9 _ _ rfl rfl).slice_ Try.underlying23
    obtain ⟨o10, y10, rfl, hS10, _, hm10, hl10, hx10⟩ := (hx 10 _ _ rfl rfl).slice_ Try.underlying24
    obtain ⟨ps, rfl⟩ := map_of Pt.cells y8 (fun y hy => lies39 (hx8 y hy))
    obtain ⟨qs, rfl⟩ := map_of Qt.cells y9 (fun y hy => lies54 (hx9 y hy))
    obtain ⟨rs, rfl⟩ := map_of Rt.cells y10 (fun y hy => lies56 (hx10 y hy))
    have m : maxLen = 9223372036854775807 := by decide
    rw [m, List.length_map] at hm8 hm9 hm10
    refine ⟨⟨n0, n1, n2, n3, n4, n5, n6, n7, .slice (some ⟨o8, 0, none⟩) ps.length 0, .slice (some ⟨o9, 0, none⟩) qs.length 0, .slice (some ⟨o10, 0, none⟩) rs.length 0⟩, ps, qs, rs,
      ⟨o8, 0, 0, false, _⟩, ⟨o9, 0, 0, false, _⟩, ⟨o10, 0, 0, false, _⟩, ?_, ⟨rfl, rfl, rfl, slAt_of (by decide) hS8 ?_, slAt_of (by decide) hS9 ?_, slAt_of (by decide) hS10 ?_, hm8, hm9, hm10⟩, ?_⟩
    · simp [Cf.cells]
    · intro x hx
      obtain ⟨p, _, rfl⟩ := List.mem_map.1 hx
      rfl
    · intro x hx
      obtain ⟨p, _, rfl⟩ := List.mem_map.1 hx
      rfl
    · intro x hx
      obtain ⟨p, _, rfl⟩ := List.mem_map.1 hx
      rfl
    · have e8 := flatten_len (s := 9) (ps.map Pt.cells) (fun x hx => by
        obtain ⟨p, _, rfl⟩ := List.mem_map.1 hx
        rfl)
      have e9 := flatten_len (s := 6) (qs.map Qt.cells) (fun x hx => by
        obtain ⟨p, _, rfl⟩ := List.mem_map.1 hx
        rfl)
      have e10 := flatten_len (s := 2) (rs.map Rt.cells) (fun x hx => by
        obtain ⟨p, _, rfl⟩ := List.mem_map.1 hx
        rfl)
      rw [List.length_map] at e8 e9 e10
      unfold Fit
      dsimp only
      rw [e8, e9, e10]
      omega
theorem lies26 {S : St} {us : List Value} (h : Lies Try.prog S 26 us) : ∃ (c : Cf) (ps : List Pt) (qs : List Qt) (rs : List Rt) (a b d : Lay), us = c.cells ∧ CfAt S c ps qs rs a b d := by
  obtain ⟨c, ps, qs, rs, a, b, d, h1, h2, _⟩ := lies26x h
  exact ⟨c, ps, qs, rs, a, b, d, h1, h2⟩
theorem arg26x {S : St} {u : Value} (h : ArgL Try.prog S 26 u) : ∃ (c : Cf) (ps : List Pt) (qs : List Qt) (rs : List Rt) (a b d : Lay), u = c.val ∧ CfAt S c ps qs rs a b d ∧ Fit ps qs rs a b d := by
  simp only [ArgL, Try.underlying26] at h
  obtain ⟨us, rfl, h⟩ := h
  obtain ⟨c, ps, qs, rs, a, b, d, rfl, h2⟩ := lies26x h
  exact ⟨c, ps, qs, rs, a, b, d, rfl, h2⟩
theorem arg3x {S : St} {u : Value} (h : ArgL Try.prog S 3 u) : ∃ n, u = .int .i64 n ∧ -9223372036854775808 ≤ n ∧ n ≤ 9223372036854775807 := by
  simp only [ArgL, Try.underlying3] at h
  obtain ⟨n, h, hw⟩ := h.int_ Try.underlying3
  cases h
  simp [Lit.wf, IntKind.min, IntKind.max, IntKind.signed, IntKind.bits] at hw
  exact ⟨n, rfl, hw⟩
theorem arg26 {S : St} {u : Value} (h : ArgL Try.prog S 26 u) : ∃ (c : Cf) (ps : List Pt) (qs : List Qt) (rs : List Rt) (a b d : Lay), u = c.val ∧ CfAt S c ps qs rs a b d := by
  simp only [ArgL, Try.underlying26] at h
  obtain ⟨us, rfl, h⟩ := h
  obtain ⟨c, ps, qs, rs, a, b, d, rfl, h2⟩ := lies26 h
  exact ⟨c, ps, qs, rs, a, b, d, rfl, h2⟩
theorem arg3 {S : St} {u : Value} (h : ArgL Try.prog S 3 u) : ∃ n, u = .int .i64 n := by
  simp only [ArgL, Try.underlying3] at h
  obtain ⟨n, h⟩ := lies3 h
  cases h
  exact ⟨n, rfl⟩
end Go.Proofs.Ytoikfhpbkpljlaa
