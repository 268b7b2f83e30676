/- Regions that draw their order and in which more than one heavy operation may come up; for any program whose types stand in a table. -/
import Derived.Test.YtpgiiidnimbdgaaAbP
namespace Go.Ab
open Go.RowKit
set_option linter.unusedVariables false
set_option linter.unusedSimpArgs false

section
variable {P : Program} {T : Tab} {m : Nat} {f : Fr} {S T0 : St} {ops : Array Oper} {K : Fr → St → Prop} {L : List Nat}

/-- The operations of kinds 0 and 3 are taken first; what is listed behind them. -/
def planE (ops : Array Oper) (L : List Nat) : List (Nat × Nat) → Array Bool → Option (Array Bool)
  | [], listed => some listed
  | (i, 0) :: p, listed => if (Region.ready .any ops listed).contains i && Region.free .any ops listed i && L.contains i && ((ops[i]?).map (lightB ·.op)).getD false then planE ops L p (listed.setIfInBounds i true) else none
  | (i, 3) :: p, listed => if (Region.ready .any ops listed).contains i && Region.free .any ops listed i && ((ops[i]?).map (lightB ·.op)).getD false then planE ops L p (listed.setIfInBounds i true) else none
  | _, _ => none

theorem aPlan_first {fuel : Nat} {l' : Array Bool} : ∀ (p : List (Nat × Nat)) (listed : Array Bool) (f : Fr), planE ops L p listed = some l' → Le T0 S →
    aPlan P T m ops T0 (fun f' S' => S' = S → aAny P T m ops L T0 K fuel l' f' S') p f S → aAny P T m ops L T0 K (fuel + p.length) listed f S
  | [], listed, f, hB, _, h => by
    simp only [planE, Option.some.injEq] at hB
    subst hB
    exact h rfl
  | (i, 0) :: p, listed, f, hB, hS, h => by
    simp only [planE] at hB
    split at hB
    · rename_i hc
      simp only [Bool.and_eq_true] at hc
      obtain ⟨⟨⟨hr, hfr⟩, hL⟩, hl⟩ := hc
      obtain ⟨oi, v, hi, hy, hk⟩ := aOpI_light hl h
      exact aAny_first hi (.inr ⟨rfl, by simpa using hL⟩) (fuel + p.length) listed f S (Region.free_spec hi hfr) (by simpa using hr) hy hS (aPlan_first p _ _ hB hS hk)
    · cases hB
  | (i, 1) :: p, listed, f, hB, hS, h => by simp [planE] at hB
  | (i, 2) :: p, listed, f, hB, hS, h => by simp [planE] at hB
  | (i, 3) :: p, listed, f, hB, hS, h => by
    simp only [planE] at hB
    split at hB
    · rename_i hc
      simp only [Bool.and_eq_true] at hc
      obtain ⟨⟨hr, hfr⟩, hl⟩ := hc
      obtain ⟨oi, v, hi, hy, hk⟩ := aOpI_light hl h
      exact aAny_first (T1 := []) hi (.inl rfl) (fuel + p.length) listed f S (Region.free_spec hi hfr) (by simpa using hr) hy (le_nil S) (aPlan_first p _ _ hB hS hk)
    · cases hB
  | (i, k + 4) :: p, listed, f, hB, hS, h => by simp [planE] at hB

theorem aAny_end {listed : Array Bool} (hr : Region.ready .any ops listed = []) (h : K f S) : aAny P T m ops L T0 K 0 listed f S := ⟨hr, h⟩
theorem aAny_one {i fuel : Nat} {listed : Array Bool} (hr : Region.ready .any ops listed = [i]) (h : aOpI P T m ops i f S (fun f' S' => Le T0 S' ∧ aAny P T m ops L T0 K fuel (listed.setIfInBounds i true) f' S')) :
    aAny P T m ops L T0 K (fuel + 1) listed f S := by
  refine ⟨fun h0 => (by rw [hr] at h0; cases h0), fun j hj => ?_⟩
  rw [hr] at hj
  obtain rfl : j = i := by simpa using hj
  unfold aOpI at h ⊢
  split at h
  · exact h.elim
  · exact aOp_mono h fun f' S' q => ⟨fun _ _ => q.1, q.2⟩
theorem aAny_fork {i j fuel : Nat} {listed : Array Bool} (hr : Region.ready .any ops listed = [i, j])
    (h1 : aOpI P T m ops i f S (fun f' S' => Le T0 S' ∧ aAny P T m ops L T0 K fuel (listed.setIfInBounds i true) f' S'))
    (h2 : aOpI P T m ops j f S (fun f' S' => Le T0 S' ∧ aAny P T m ops L T0 K fuel (listed.setIfInBounds j true) f' S')) : aAny P T m ops L T0 K (fuel + 1) listed f S := by
  refine ⟨fun h0 => (by rw [hr] at h0; cases h0), fun k hk => ?_⟩
  rw [hr] at hk
  simp only [List.mem_cons, List.not_mem_nil, or_false] at hk
  rcases hk with rfl | rfl
  · unfold aOpI at h1 ⊢
    split at h1
    · exact h1.elim
    · exact aOp_mono h1 fun f' S' q => ⟨fun _ _ => q.1, q.2⟩
  · unfold aOpI at h2 ⊢
    split at h2
    · exact h2.elim
    · exact aOp_mono h2 fun f' S' q => ⟨fun _ _ => q.1, q.2⟩
end

section
variable {P : Program} {T : Tab} {m n : Nat} {Q : Exit → Fr → St → Prop} {f : Fr} {S : St}
/-- A region that draws its order: some are taken first, the rest is looked at order by order. -/
theorem AWp.draws (ok : TabOk P T) (hm : P.follows .mixedOrders = true) {id : Nat} {ops : Array Oper} (p : List (Nat × Nat)) (T0 : St) (fuel : Nat) (l' : Array Bool)
    (hB : planE ops (lightsOf p) p (Array.replicate ops.size false) = some l') (hsz : fuel + p.length = ops.size) (hT : Le T0 S)
    (h : ∀ K : Fr → St → Prop, (∀ f S, Q .normal f S → K f S) → aPlan P T m ops T0 (fun f' S' => S' = S → aAny P T m ops (lightsOf p) T0 K fuel l' f' S') p f S) : AWp P m n (.region id ops true) Q f S := by
  intro σ base w0 w tmps hn hs hf
  refine wp_region_any hm ?_
  have := aPlan_first (fuel := fuel) p _ f hB hT (h _ fun _ _ q => q)
  rw [hsz] at this
  refine aAny_sound ok _ _ f S σ tmps _ (hs.drawn _) hf this (fun f' S' σ' tmps' w' h1 h2 h3 h4 => ?_)
  refine ⟨rfl, f', S', σ', (List.take_prefix _ _).trans h1, ?_, h2, h3, h4⟩
  have := h1.length_le
  rw [← h2.len]
  have := hs.len
  omega
end
end Go.Ab
