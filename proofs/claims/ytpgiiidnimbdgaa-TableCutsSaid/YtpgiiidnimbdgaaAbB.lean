/- Operations that only read, over abstract values, and that the model's operations come to the same; for any program whose types stand in a table. -/
import Derived.Test.YtpgiiidnimbdgaaAbA
namespace Go.Ab
open Go.RowKit

/-- What is known of a type. -/
structure TI where
  desc : TypeDesc
  size : Nat
  zero : Value
  bytes : Nat
abbrev Tab := TypeId → Option TI
/-- A number, a Bool, a string. -/
def simpleD : TypeDesc → Bool
  | .int _ | .bool | .string => true
  | _ => false
structure TabOk (P : Program) (T : Tab) : Prop where
  under : ∀ t i, T t = some i → P.underlying t = some i.desc
  info : ∀ t i, T t = some i → ∃ j, P.info? t = some j ∧ j.size = i.size ∧ j.bytes = i.bytes ∧ j.zero = some i.zero
  plain : ∀ t i, T t = some i → ∀ v ∈ i.zero.cells.toList, okc v = true
  cmp : ∀ t i fs, T t = some i → i.desc = .struct fs → (∀ f ∈ fs.toList, ∃ j, T f.type = some j ∧ (simpleD j.desc = true ∨ ∃ n e i', j.desc = .array n e ∧ T e = some i' ∧ simpleD i'.desc = true)) → P.stoodInHeld t = false ∧ P.eqGuardType P.depth t = false

def isAggD : TypeDesc → Bool
  | .struct _ | .array _ _ => true
  | _ => false

theorem okc_one {v : Value} (h : okc v = true) : v.oneCell' = true := by cases v <;> simp_all [okc, Value.oneCell']

section
variable {P : Program} {T : Tab}
theorem TabOk.run_under (ok : TabOk P T) {t : TypeId} {i : TI} (h : T t = some i) (w : World) : (underlying t).run P w = .ok i.desc w := by
  simp [underlying, ok.under t i h]
theorem TabOk.run_info (ok : TabOk P T) {t : TypeId} {i : TI} (h : T t = some i) (w : World) : ∃ j, P.info? t = some j ∧ j.size = i.size ∧ j.bytes = i.bytes ∧ j.zero = some i.zero ∧ (typeInfo t).run P w = .ok j w := by
  obtain ⟨j, h1, h2, h3, h4⟩ := ok.info t i h
  exact ⟨j, h1, h2, h3, h4, by simp [typeInfo, h1]⟩
theorem TabOk.run_size (ok : TabOk P T) {t : TypeId} {i : TI} (h : T t = some i) (w : World) : (sizeOf t).run P w = .ok i.size w := by
  obtain ⟨j, h1, h2, _, _, h6⟩ := ok.run_info h w
  simp [sizeOf, h6, h2]
theorem TabOk.run_zero (ok : TabOk P T) {t : TypeId} {i : TI} (h : T t = some i) (w : World) : (zeroValue t).run P w = .ok i.zero w := by
  obtain ⟨j, h1, _, _, h4, h6⟩ := ok.run_info h w
  simp [zeroValue, h6, h4]
theorem TabOk.run_isAgg (ok : TabOk P T) {t : TypeId} {i : TI} (h : T t = some i) (w : World) : (isAgg t).run P w = .ok (isAggD i.desc) w := by
  simp only [isAgg, Sem.run_bind, ok.run_under h, Result.andThen_ok]
  cases i.desc <;> rfl
end

theorem addr_add (b off n : Nat) : (⟨b, off, none⟩ : Addr).add n = ⟨b, off + n, none⟩ := by unfold Addr.add; split <;> simp_all

theorem run_loadCells {P : Program} {w : World} {b off : Nat} : ∀ (n i : Nat) (vs : List Value) (acc : Array Value), vs.length = n → (∀ j v, vs[j]? = some v → w.cell? ⟨b, off + i + j, none⟩ = some v) →
    (loadCellsFrom ⟨b, off, none⟩ i n acc).run P w = .ok (acc ++ vs.toArray) w
  | 0, i, vs, acc, hl, _ => by
    obtain rfl : vs = [] := List.eq_nil_of_length_eq_zero hl
    simp [loadCellsFrom]
  | n + 1, i, [], acc, hl, _ => by simp at hl
  | n + 1, i, v :: vs, acc, hl, h => by
    have h0 := h 0 v rfl
    simp only [Nat.add_zero] at h0
    have ih := run_loadCells (P := P) (w := w) (b := b) (off := off) n (i + 1) vs (acc.push v) (by simpa using hl) (fun j u hj => by
      have := h (j + 1) u (by simpa using hj)
      rw [← this]; congr 2; omega)
    simp only [loadCellsFrom, Sem.run_bind, addr_add, run_load, h0, Result.andThen_ok, ih]
    simp

/-- A load. -/
def loadA (T : Tab) (S : St) (t : TypeId) : Value → Option Value
  | .pointer (some ⟨o, k, none⟩) =>
    match T t with
    | none => none
    | some i =>
      match S[o]? with
      | some (.row _ _ cs) => if isAggD i.desc then (if k + i.size ≤ cs.length then some (.agg ((cs.drop k).take i.size).toArray) else none) else cs[k]?
      | _ => none
  | _ => none

theorem exists_list {p : Nat → Value → Value → Prop} : ∀ (cs : List Value), (∀ (i : Nat) v, cs[i]? = some v → ∃ v', p i v v') →
    ∃ cs' : List Value, cs'.length = cs.length ∧ ∀ (i : Nat) v v', cs[i]? = some v → cs'[i]? = some v' → p i v v' := by
  intro cs h
  induction cs generalizing p with
  | nil => exact ⟨[], rfl, fun i v v' h => by simp at h⟩
  | cons c cs ih =>
    obtain ⟨c', hc⟩ := h 0 c rfl
    obtain ⟨cs', hl, hcs⟩ := ih (p := fun i => p (i + 1)) (fun i v hv => h (i + 1) v (by simpa using hv))
    refine ⟨c' :: cs', by simp [hl], fun i v v' h1 h2 => ?_⟩
    cases i with
    | zero => simp at h1 h2; subst h1; subst h2; exact hc
    | succ i => exact hcs i v v' (by simpa using h1) (by simpa using h2)

theorem loadA_sound {P : Program} {T : Tab} (ok : TabOk P T) {σ : Sg} {S : St} {base : Nat} {w0 w : World} (hs : Sim σ S base w0 w) {t : TypeId} {x x' v : Value}
    (hx : Rep σ x x') (h : loadA T S t x = some v) : ∃ v', (Instr.loadAt t x').run P w = .ok v' w ∧ Rep σ v v' := by
  unfold loadA at h
  split at h
  · rename_i o k
    obtain ⟨l, hl, _, rfl⟩ := hx.ptr_
    dsimp only at hl
    split at h
    · cases h
    · rename_i i hi
      split at h
      · rename_i ty rw cs hS
        simp only [Instr.loadAt, Instr.sureAddr, loadVar, Sem.run_bind, Sem.run_pure, Result.andThen_ok, ok.run_isAgg hi]
        by_cases ha : isAggD i.desc = true
        · rw [if_pos ha] at h ⊢
          split at h
          · rename_i hle
            cases h
            obtain ⟨vs, hvl, hvs⟩ := exists_list (p := fun j u u' => w.cell? ⟨l.b, l.off + k + j, none⟩ = some u' ∧ Rep σ u u' ∧ u'.oneCell' = true) ((cs.drop k).take i.size) (fun j u hu => by
              rw [List.getElem?_take] at hu
              split at hu
              · rw [List.getElem?_drop] at hu
                obtain ⟨u', h1, h2, h3⟩ := hs.cell o l ty rw cs hS hl (k + j) u hu
                exact ⟨u', by rw [← h1]; congr 2; omega, h2, h3⟩
              · cases hu)
            have hlen : vs.length = i.size := by rw [hvl]; simp; omega
            have hload := run_loadCells (P := P) (w := w) (b := l.b) (off := l.off + k) i.size 0 vs #[] hlen (fun j u hu => by
              have hj : j < ((cs.drop k).take i.size).length := by rw [← hvl]; exact (List.getElem?_eq_some_iff.1 hu).1
              exact (hvs j _ u (List.getElem?_eq_getElem hj) hu).1)
            refine ⟨.agg vs.toArray, ?_, .agg _ _ (by simp [hvl]) (fun j u u' h1 h2 => (hvs j u u' (by simpa using h1) (by simpa using h2)).2.1) (fun j u' h2 => ?_)⟩
            · simp only [Sem.run_bind, ok.run_size hi, Result.andThen_ok, loadCells, hload]
              simp
            · have h2' : vs[j]? = some u' := by simpa using h2
              have hj : j < ((cs.drop k).take i.size).length := by rw [← hvl]; exact (List.getElem?_eq_some_iff.1 h2').1
              exact (hvs j _ u' (List.getElem?_eq_getElem hj) h2').2.2
          · cases h
        · rw [if_neg ha] at h ⊢
          obtain ⟨v', h1, h2, _⟩ := hs.cell o l ty rw cs hS hl k v h
          exact ⟨v', by simp [run_load, h1], h2⟩
      · cases h
  · cases h

def fieldA (T : Tab) (s : TypeId) (fd : Nat) : Value → Option Value
  | .pointer (some ⟨o, k, none⟩) =>
    match T s with
    | some ⟨.struct fs, _, _, _⟩ =>
      match fs[fd]? with
      | some g => if ((T g.type).map (·.size)).getD 0 = 0 then none else some (.pointer (some ⟨o, k + g.offset, none⟩))
      | none => none
    | _ => none
  | _ => none

theorem fieldA_sound {P : Program} {T : Tab} (ok : TabOk P T) {σ : Sg} {w : World} {s : TypeId} {fd : Nat} {x x' v : Value}
    (hx : Rep σ x x') (h : fieldA T s fd x = some v) : ∃ v', (Instr.fieldAt s x' fd).run P w = .ok v' w ∧ Rep σ v v' := by
  unfold fieldA at h
  split at h
  · rename_i o k
    obtain ⟨l, hl, _, rfl⟩ := hx.ptr_
    split at h
    · rename_i fs a b c hi
      split at h
      · rename_i g hg
        split at h
        · cases h
        · rename_i hz
          cases h
          have hu : (underlying s).run P w = .ok (.struct fs) w := ok.run_under hi w
          cases hg2 : T g.type with
          | none => simp [hg2] at hz
          | some j =>
            have hsz := ok.run_size hg2 w
            refine ⟨.pointer (some ⟨l.b, l.off + (k + g.offset), none⟩), ?_, .ptr o _ l hl⟩
            have hj : ¬ j.size = 0 := by simpa [hg2] using hz
            simp only [Instr.fieldAt, Sem.run_bind, hu, Result.andThen_ok, hg, Instr.sureAddr, Sem.run_pure, fieldPlace, hsz, if_neg hj, addr_add, Nat.add_assoc]
      · cases h
    · cases h
  · cases h

/-- The address of an element: of a slice, of an array. -/
def indexA (T : Tab) (t : TypeId) : Value → Value → Option Value
  | .slice (some ⟨o, k, none⟩) n _, .int _ j =>
    match T t with
    | some ⟨.slice e, _, _, _⟩ =>
      match T e with
      | some i => if 0 ≤ j ∧ j < n then some (.pointer (some ⟨o, k + j.toNat * i.size, none⟩)) else none
      | none => none
    | _ => none
  | .pointer (some ⟨o, k, none⟩), .int _ j =>
    match T t with
    | some ⟨.array n e, _, _, _⟩ =>
      match T e with
      | some i => if 0 ≤ j ∧ j < n then some (.pointer (some ⟨o, k + j.toNat * i.size, none⟩)) else none
      | none => none
    | _ => none
  | _, _ => none

theorem indexA_sound {P : Program} {T : Tab} (ok : TabOk P T) {σ : Sg} {w : World} {t : TypeId} {x x' y y' v : Value}
    (hx : Rep σ x x') (hy : Rep σ y y') (h : indexA T t x y = some v) : ∃ v', (Instr.indexAt t x' y').run P w = .ok v' w ∧ Rep σ v v' := by
  unfold indexA at h
  split at h
  · rename_i o k n s ki j
    obtain rfl := hy.int_
    split at h
    · rename_i e a b c hi
      split at h
      · rename_i i he
        split at h
        · rename_i hb
          cases h
          have hu : (underlying t).run P w = .ok (.slice e) w := ok.run_under hi w
          have hsz := ok.run_size he w
          rcases hx.slice_.2.1 with ⟨l, c', hl, hc, _, _, rfl⟩ | ⟨rfl, _, A, rfl⟩
          · refine ⟨.pointer (some ⟨l.b, l.off + (k + j.toNat * i.size), none⟩), ?_, .ptr o _ l hl⟩
            simp only [Instr.indexAt, asIntOf, Sem.run_bind, Sem.run_pure, Result.andThen_ok, hu, hb, and_self, if_true, hsz, addr_add, Nat.add_assoc]
          · exact absurd hb.2 (by omega)
        · cases h
      · cases h
    · cases h
  · rename_i o k ki j
    obtain rfl := hy.int_
    obtain ⟨l, hl, _, rfl⟩ := hx.ptr_
    split at h
    · rename_i n e a b c hi
      split at h
      · rename_i i he
        split at h
        · rename_i hb
          cases h
          have hu : (underlying t).run P w = .ok (.array n e) w := ok.run_under hi w
          have hsz := ok.run_size he w
          refine ⟨.pointer (some ⟨l.b, l.off + (k + j.toNat * i.size), none⟩), ?_, .ptr o _ l hl⟩
          simp only [Instr.indexAt, Instr.sureAddr, asIntOf, Sem.run_bind, Sem.run_pure, Result.andThen_ok, hu, hb, and_self, if_true, hsz, addr_add, Nat.add_assoc]
        · cases h
      · cases h
    · cases h
  · cases h

end Go.Ab
