/- Cuts, parts, interface values and the like over abstract values; all operations that only read, as one function, and that the model's operations come to the same; for any program whose types stand in a table. -/
import Derived.Test.YtpgiiidnimbdgaaAbC
namespace Go.Ab
set_option linter.unusedVariables false
set_option linter.unusedSimpArgs false
open Go.RowKit

/-- A bound of a cut: at most y. -/
def bnd (d : Nat) (y : Nat) : Option Value → Option Nat
  | none => some d
  | some (.int _ j) => if 0 ≤ j ∧ j ≤ y then some j.toNat else none
  | _ => none

def sliceA (T : Tab) (t : TypeId) (x : Value) (lo hi : Option Value) : Option Value :=
  match T t, x with
  | some ⟨.string, _, _, _⟩, .string s =>
    match bnd s.size s.size hi with
    | none => none
    | some h => match bnd 0 h lo with
      | none => none
      | some l => some (.string (s.extract l h))
  | some ⟨.slice e, _, _, _⟩, .slice none 0 0 =>
    match T e with
    | none => none
    | some _ =>
      match bnd 0 0 hi with
      | none => none
      | some h => match bnd 0 h lo with
        | none => none
        | some _ => some (.slice none 0 0)
  | some ⟨.slice e, _, _, _⟩, .slice (some ⟨o, k, none⟩) n s =>
    match T e with
    | none => none
    | some i =>
      if i.size = 0 ∨ s ≠ 0 ∧ s ≠ i.size then none else
      match bnd n n hi with
      | none => none
      | some h => match bnd 0 h lo with
        | none => none
        | some l => some (.slice (some ⟨o, k + l * i.size, none⟩) (h - l) s)
  | some ⟨.array n e, _, _, _⟩, .pointer (some ⟨o, k, none⟩) =>
    match T e with
    | none => none
    | some i =>
      if i.size = 0 ∨ 9223372036854775807 < n then none else
      match bnd n n hi with
      | none => none
      | some h => match bnd 0 h lo with
        | none => none
        | some l => some (.slice (some ⟨o, k + l * i.size, none⟩) (h - l) 0)
  | _, _ => none

theorem bnd_run {P : Program} {σ : Sg} {w : World} {d y y' r : Nat} {x : Option Value} {x' : Option Value} (hyy : y ≤ y') (h : bnd d y x = some r)
    (hx : ∀ v, x = some v → ∃ v', x' = some v' ∧ Rep σ v v') (hn : x = none → x' = none) (code : BoundsCode) :
    (match x' with | some v => (Instr.sliceBound v y' code) | none => (pure d : Sem Nat)).run P w = .ok r w ∧ (x = none → r = d) ∧ (x ≠ none → r ≤ y) := by
  cases x with
  | none =>
    rw [hn rfl]
    simp [bnd] at h
    subst h
    simp
  | some v =>
    obtain ⟨v', rfl, hv⟩ := hx v rfl
    cases v <;> simp only [bnd] at h <;> first | (cases h; done) | skip
    rename_i k j
    obtain rfl := hv.int_
    split at h
    · rename_i hb
      cases h
      have hb' : 0 ≤ j ∧ j ≤ (y' : Int) := ⟨hb.1, by omega⟩
      refine ⟨?_, (fun h => by cases h), (fun _ => by omega)⟩
      simp only [Instr.sliceBound, asIntOf, Sem.run_bind, Sem.run_pure, Result.andThen_ok]
      rw [if_pos hb']
      rfl
    · cases h

theorem bounds_run {P : Program} {σ : Sg} {w : World} {isS : Bool} {len cap h l : Nat} {lo hi lo' hi' : Option Value} (hc : len ≤ cap)
    (h1 : bnd len len hi = some h) (h2 : bnd 0 h lo = some l)
    (hh : ∀ v, hi = some v → ∃ v', hi' = some v' ∧ Rep σ v v') (hhn : hi = none → hi' = none)
    (hl : ∀ v, lo = some v → ∃ v', lo' = some v' ∧ Rep σ v v') (hln : lo = none → lo' = none) :
    (Instr.sliceBounds isS len cap lo' hi' none).run P w = .ok (l, h, cap) w ∧ l ≤ h ∧ h ≤ len := by
  have a2 := bnd_run (P := P) (w := w) (y' := h) (Nat.le_refl _) h2 hl hln .sliceB
  have hle : h ≤ len := by
    have a1 := bnd_run (P := P) (w := w) (y' := cap) hc h1 hh hhn .sliceAcap
    cases hi with
    | none => rw [a1.2.1 rfl]; exact Nat.le_refl _
    | some v => exact a1.2.2 (by simp)
  have hll : l ≤ h := by
    cases lo with
    | none => rw [a2.2.1 rfl]; omega
    | some v => exact a2.2.2 (by simp)
  refine ⟨?_, hll, hle⟩
  have a1 := fun code => (bnd_run (P := P) (w := w) (y' := cap) hc h1 hh hhn code).1
  have b2 := a2.1
  unfold Instr.sliceBounds
  cases hi' with
  | none =>
    cases lo' with
    | none =>
      have c1 := a1 .sliceAcap
      simp only [Sem.run_pure] at c1 b2
      cases c1; cases b2
      simp
    | some v =>
      have c1 := a1 .sliceAcap
      simp only [Sem.run_pure] at c1
      cases c1
      simp only [Sem.run_bind, Sem.run_pure, Result.andThen_ok, Option.isSome_none, Bool.false_eq_true, if_false]
      simp only at b2
      rw [b2]
      rfl
  | some u =>
    cases lo' with
    | none =>
      have c1 := a1 (if isS then .sliceAcap else .sliceAlen)
      simp only at c1
      simp only [Sem.run_pure] at b2
      cases b2
      simp only [Sem.run_bind, Sem.run_pure, Result.andThen_ok, Option.isSome_none, Bool.false_eq_true, if_false, c1]
    | some v =>
      have c1 := a1 (if isS then .sliceAcap else .sliceAlen)
      simp only at c1 b2
      simp only [Sem.run_bind, Sem.run_pure, Result.andThen_ok, Option.isSome_none, Bool.false_eq_true, if_false, c1, b2]

theorem sliceA_sound {P : Program} {T : Tab} (ok : TabOk P T) {σ : Sg} {w : World} {t : TypeId} {x x' v : Value} {lo hi lo' hi' : Option Value} (hx : Rep σ x x')
    (hh : ∀ v, hi = some v → ∃ v', hi' = some v' ∧ Rep σ v v') (hhn : hi = none → hi' = none)
    (hl : ∀ v, lo = some v → ∃ v', lo' = some v' ∧ Rep σ v v') (hln : lo = none → lo' = none)
    (h : sliceA T t x lo hi = some v) : ∃ v', (Instr.sliceAt t x' lo' hi' none).run P w = .ok v' w ∧ Rep σ v v' := by
  unfold sliceA at h
  split at h
  · rename_i a b c s hi1
    obtain rfl := hx.string_
    have hu : (underlying t).run P w = .ok .string w := ok.run_under hi1 w
    split at h
    · cases h
    · rename_i hv e1
      split at h
      · cases h
      · rename_i lv e2
        cases h
        obtain ⟨r1, _, _⟩ := bounds_run (P := P) (w := w) (isS := false) (Nat.le_refl _) e1 e2 hh hhn hl hln
        refine ⟨_, ?_, .const _ rfl⟩
        simp only [Instr.sliceAt, Instr.slice, Sem.run_bind, hu, Result.andThen_ok, Option.isSome_none, Bool.false_eq_true, if_false, r1, Sem.run_pure]
  · rename_i e a b c hi1
    obtain rfl := hx.snil_
    have hu : (underlying t).run P w = .ok (.slice e) w := ok.run_under hi1 w
    split at h
    · cases h
    · rename_i i he
      have hsz := ok.run_size he w
      split at h
      · cases h
      · rename_i hv e1
        split at h
        · cases h
        · rename_i lv e2
          cases h
          obtain ⟨r1, h3, h4⟩ := bounds_run (P := P) (w := w) (isS := true) (Nat.le_refl 0) e1 e2 hh hhn hl hln
          obtain rfl : hv = 0 := by omega
          obtain rfl : lv = 0 := by omega
          refine ⟨.slice none 0 0, ?_, .const _ rfl⟩
          simp only [Instr.sliceAt, Instr.slice, Sem.run_bind, hu, Result.andThen_ok, r1, hsz, Sem.run_pure]
          simp
  · rename_i e a b c o k n s hi1
    have hu : (underlying t).run P w = .ok (.slice e) w := ok.run_under hi1 w
    split at h
    · cases h
    · rename_i i he
      have hsz := ok.run_size he w
      split at h
      · cases h
      · rename_i hst
        split at h
        · cases h
        · rename_i hv e1
          split at h
          · cases h
          · rename_i lv e2
            cases h
            have hob := hx.slice_.2.2
            rcases hx.slice_.2.1 with ⟨l, c', hl1, hc, hm, hN, rfl⟩ | ⟨rfl, hk0, A, rfl⟩
            · dsimp only at hN hl1
              obtain ⟨r1, h3, h4⟩ := bounds_run (P := P) (w := w) (isS := true) hc e1 e2 hh hhn hl hln
              refine ⟨.slice (if c' = lv then some ⟨l.b, l.off + k, none⟩ else (some ⟨l.b, l.off + k, none⟩ : Option Addr).map (·.add (lv * i.size))) (hv - lv) (c' - lv), ?_, ?_⟩
              · simp only [Instr.sliceAt, Instr.slice, Sem.run_bind, hu, Result.andThen_ok, r1, hsz, Sem.run_pure]
              · by_cases hcl : c' = lv
                · rw [if_pos hcl]
                  have z1 : hv - lv = 0 := by omega
                  have z2 : c' - lv = 0 := by omega
                  rw [z1, z2]
                  by_cases hl0 : lv = 0
                  · subst hl0
                    rw [Nat.zero_mul, Nat.add_zero]
                    subst hcl
                    exact .slice o k 0 s 0 l hl1 (Nat.le_refl _) (by unfold maxLen; omega) hN
                  · refine .sliceE _ _ _ _ (.inl fun q => ?_) (List.getElem?_eq_some_iff.1 hl1).1
                    have := Nat.mul_pos (Nat.pos_of_ne_zero hl0) (Nat.pos_of_ne_zero (fun q => hst (.inl q)))
                    omega
                · rw [if_neg hcl]
                  simp only [Option.map_some, addr_add]
                  rw [Nat.add_assoc]
                  refine .slice o (k + lv * i.size) _ s _ l hl1 (by omega) (by omega) (fun N hN1 => ?_)
                  rcases hN N hN1 with h0 | h0
                  · exact .inl h0
                  · by_cases hs0 : s = 0
                    · exact .inl hs0
                    · right
                      have hsi : s = i.size := by
                        rcases Decidable.em (s = i.size) with q | q
                        · exact q
                        · exact absurd (.inr ⟨hs0, q⟩) hst
                      subst hsi
                      have : c' * i.size = lv * i.size + (c' - lv) * i.size := by rw [← Nat.add_mul]; congr 1; omega
                      omega
            · obtain ⟨r1, h3, h4⟩ := bounds_run (P := P) (w := w) (isS := true) (Nat.le_refl 0) e1 e2 hh hhn hl hln
              obtain rfl : hv = 0 := by omega
              obtain rfl : lv = 0 := by omega
              refine ⟨.slice A 0 0, ?_, .sliceE _ _ _ _ (by dsimp only at hk0; omega) hob⟩
              simp only [Instr.sliceAt, Instr.slice, Sem.run_bind, hu, Result.andThen_ok, r1, hsz, Sem.run_pure]
              simp
  · rename_i n e a b c o k hi1
    have hu : (underlying t).run P w = .ok (.array n e) w := ok.run_under hi1 w
    obtain ⟨l, hl1, _, rfl⟩ := hx.ptr_
    split at h
    · cases h
    · rename_i i he
      have hsz := ok.run_size he w
      split at h
      · cases h
      · rename_i hmax
        split at h
        · cases h
        · rename_i hv e1
          split at h
          · cases h
          · rename_i lv e2
            cases h
            obtain ⟨r1, h3, h4⟩ := bounds_run (P := P) (w := w) (isS := false) (Nat.le_refl n) e1 e2 hh hhn hl hln
            refine ⟨.slice (some (if n = lv then ⟨l.b, l.off + k, none⟩ else (⟨l.b, l.off + k, none⟩ : Addr).add (lv * i.size))) (hv - lv) (n - lv), ?_, ?_⟩
            · simp only [Instr.sliceAt, Instr.sureAddr, Sem.run_bind, hu, Result.andThen_ok, r1, hsz, Sem.run_pure]
            · by_cases hcl : n = lv
              · rw [if_pos hcl]
                have z1 : hv - lv = 0 := by omega
                have z2 : n - lv = 0 := by omega
                rw [z1, z2]
                by_cases hl0 : lv = 0
                · subst hl0
                  rw [Nat.zero_mul, Nat.add_zero]
                  exact .slice o k 0 0 0 l hl1 (Nat.le_refl _) (by unfold maxLen; omega) (fun N hN1 => .inl rfl)
                · refine .sliceE _ _ _ _ (.inl fun q => ?_) (List.getElem?_eq_some_iff.1 hl1).1
                  have := Nat.mul_pos (Nat.pos_of_ne_zero hl0) (Nat.pos_of_ne_zero (fun q => hmax (.inl q)))
                  omega
              · rw [if_neg hcl]
                simp only [addr_add]
                rw [Nat.add_assoc]
                exact .slice o (k + lv * i.size) _ 0 _ l hl1 (by omega) (by unfold maxLen; omega) (fun N _ => .inl rfl)
  · cases h

end Go.Ab
