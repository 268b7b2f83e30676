/- All operations that only read, over abstract values, as one function, and that the model's operations come to the same; for any program whose types stand in a table. -/
import Derived.Test.YtpgiiidnimbdgaaAbD
namespace Go.Ab
open Go.RowKit
set_option linter.unusedVariables false
set_option linter.unusedSimpArgs false

/-- Known to be no blank. -/
def solid : Value → Bool
  | .tuple _ | .chan _ => false
  | _ => true

theorem okc_cells {v : Value} (h : okc v = true) : v.cells = #[v] := by cases v <;> simp_all [okc, Value.cells]

def Flat (cs : Array Value) : Prop := ∀ (i : Nat) v, cs[i]? = some v → v.oneCell' = true
theorem flat_one {v : Value} (h : v.oneCell' = true) : Flat #[v] := fun i u hu => by
  cases i with
  | zero => simp at hu; subst hu; exact h
  | succ i => simp at hu
theorem rep_flat {σ : Sg} {v v' : Value} (h : Rep σ v v') (hs : solid v = true) : Flat v'.cells := by
  cases h with
  | top => simp [solid] at hs
  | const _ h => rw [okc_cells h]; exact flat_one (okc_one h)
  | agg cs cs' hz h h1 => exact h1
  | tuple cs cs' => simp [solid] at hs
  | _ => exact flat_one rfl

theorem rep_cells {σ : Sg} {v v' : Value} (h : Rep σ v v') (hs : solid v = true) : v.cells.size = v'.cells.size ∧ ∀ (i : Nat) u u', v.cells[i]? = some u → v'.cells[i]? = some u' → Rep σ u u' := by
  cases h with
  | top => simp [solid] at hs
  | const _ h =>
    rw [okc_cells h]
    refine ⟨rfl, fun i u u' h1 h2 => ?_⟩
    cases i with
    | zero => simp at h1 h2; subst h1; subst h2; exact .const _ h
    | succ i => simp at h1
  | ptr o i l h => exact ⟨rfl, fun j u u' h1 h2 => by
      cases j with
      | zero => simp [Value.cells] at h1 h2; subst h1; subst h2; exact .ptr o i l h
      | succ j => simp [Value.cells] at h1⟩
  | slice o i n s c l h hc hm hN => exact ⟨rfl, fun j u u' h1 h2 => by
      cases j with
      | zero => simp [Value.cells] at h1 h2; subst h1; subst h2; exact .slice o i n s c l h hc hm hN
      | succ j => simp [Value.cells] at h1⟩
  | sliceE o i s A hi ho => exact ⟨rfl, fun j u u' h1 h2 => by
      cases j with
      | zero => simp [Value.cells] at h1 h2; subst h1; subst h2; exact .sliceE o i s A hi ho
      | succ j => simp [Value.cells] at h1⟩
  | iface T v v' h => exact ⟨rfl, fun j u u' h1 h2 => by
      cases j with
      | zero => simp [Value.cells] at h1 h2; subst h1; subst h2; exact .iface T v v' h
      | succ j => simp [Value.cells] at h1⟩
  | agg cs cs' hz h h1 => exact ⟨hz, h⟩
  | tuple cs cs' => simp [solid] at hs
  | func fn cs cs' ds ds' a b c d => exact ⟨rfl, fun j u u' h1 h2 => by
      cases j with
      | zero => simp [Value.cells] at h1 h2; subst h1; subst h2; exact .func fn cs cs' ds ds' a b c d
      | succ j => simp [Value.cells] at h1⟩

/-- Rows of values, cell by cell. -/
def Reps (σ : Sg) (cs cs' : Array Value) : Prop := cs.size = cs'.size ∧ ∀ (i : Nat) v v', cs[i]? = some v → cs'[i]? = some v' → Rep σ v v'
theorem Reps.get {σ : Sg} {cs cs' : Array Value} (h : Reps σ cs cs') {i : Nat} {v : Value} (hv : cs[i]? = some v) : ∃ v', cs'[i]? = some v' ∧ Rep σ v v' := by
  have hi : i < cs.size := (Array.getElem?_eq_some_iff.1 hv).1
  have hi' : i < cs'.size := by rw [← h.1]; exact hi
  exact ⟨cs'[i], Array.getElem?_eq_getElem hi', h.2 i v _ hv (Array.getElem?_eq_getElem hi')⟩
theorem Reps.extract {σ : Sg} {cs cs' : Array Value} (h : Reps σ cs cs') (a b : Nat) : Reps σ (cs.extract a b) (cs'.extract a b) := by
  refine ⟨by simp [h.1], fun i v v' h1 h2 => ?_⟩
  rw [Array.getElem?_extract] at h1 h2
  split at h1
  · rename_i hi
    rw [if_pos (by rw [← h.1]; exact hi)] at h2
    exact h.2 _ v v' h1 h2
  · cases h1

/-- A part of a struct or an array. -/
def partA (T : Tab) (t : TypeId) (cs : Array Value) (off : Nat) : Option Value :=
  match T t with
  | none => none
  | some i => if isAggD i.desc then some (.agg (cs.extract off (off + i.size))) else cs[off]?
theorem partA_sound {P : Program} {T : Tab} (ok : TabOk P T) {σ : Sg} {w : World} {t : TypeId} {cs cs' : Array Value} {off : Nat} {v : Value} (hr : Reps σ cs cs') (hfl : Flat cs')
    (h : partA T t cs off = some v) : ∃ v', (part t cs' off).run P w = .ok v' w ∧ Rep σ v v' := by
  unfold partA at h
  split at h
  · cases h
  · rename_i i hi
    simp only [part, Sem.run_bind, ok.run_isAgg hi, Result.andThen_ok]
    split at h
    · rename_i ha
      cases h
      rw [if_pos ha]
      refine ⟨.agg (cs'.extract off (off + i.size)), ?_, ?_⟩
      · simp only [Sem.run_bind, ok.run_size hi, Result.andThen_ok, Sem.run_pure]
      · have := hr.extract off (off + i.size)
        refine .agg _ _ this.1 this.2 (fun j u hu => ?_)
        rw [Array.getElem?_extract] at hu
        split at hu
        · exact hfl _ u hu
        · cases hu
    · rename_i ha
      rw [if_neg ha]
      obtain ⟨v', h1, h2⟩ := hr.get h
      exact ⟨v', by simp [h1], h2⟩

def fieldV (T : Tab) (t : TypeId) (fd : Nat) : Value → Option Value
  | .agg cs =>
    match T t with
    | some ⟨.struct fs, _, _, _⟩ =>
      match fs[fd]? with
      | some g => partA T g.type cs g.offset
      | none => none
    | _ => none
  | _ => none
theorem fieldV_sound {P : Program} {T : Tab} (ok : TabOk P T) {σ : Sg} {w : World} {t : TypeId} {fd : Nat} {x x' v : Value} (hx : Rep σ x x')
    (h : fieldV T t fd x = some v) : ∃ v', (Instr.field t x' fd).run P w = .ok v' w ∧ Rep σ v v' := by
  unfold fieldV at h
  split at h
  · rename_i cs
    obtain ⟨cs', rfl, hr, hfl⟩ := hx.agg_
    split at h
    · rename_i fs a b c hi
      have hu : (underlying t).run P w = .ok (.struct fs) w := ok.run_under hi w
      split at h
      · rename_i g hg
        obtain ⟨v', h1, h2⟩ := partA_sound ok (w := w) hr hfl h
        exact ⟨v', by simp only [Instr.field, Sem.run_bind, hu, Result.andThen_ok, hg, asAgg, Sem.run_pure, h1], h2⟩
      · cases h
    · cases h
  · cases h

/-- An array's element, a string's byte. -/
def indexV (T : Tab) (t : TypeId) (x y : Value) : Option Value :=
  match T t, x, y with
  | some ⟨.array n e, _, _, _⟩, .agg cs, .int _ j =>
    match T e with
    | some i => if 0 ≤ j ∧ j < n then partA T e cs (j.toNat * i.size) else none
    | none => none
  | some ⟨.string, _, _, _⟩, .string s, .int _ j =>
    if 0 ≤ j then (s[j.toNat]?).map (fun b => .int .u8 b.toNat) else none
  | _, _, _ => none
theorem indexV_sound {P : Program} {T : Tab} (ok : TabOk P T) {σ : Sg} {w : World} {t : TypeId} {x x' y y' v : Value} (hx : Rep σ x x') (hy : Rep σ y y')
    (h : indexV T t x y = some v) : ∃ v', (Instr.index t x' y').run P w = .ok v' w ∧ Rep σ v v' := by
  unfold indexV at h
  split at h
  · rename_i n e a b c cs k j hi
    obtain ⟨cs', rfl, hr, hfl⟩ := hx.agg_
    obtain rfl := hy.int_
    have hu : (underlying t).run P w = .ok (.array n e) w := ok.run_under hi w
    split at h
    · rename_i i he
      split at h
      · rename_i hb
        obtain ⟨v', h1, h2⟩ := partA_sound ok (w := w) hr hfl h
        refine ⟨v', ?_, h2⟩
        simp only [Instr.index, asIntOf, Sem.run_bind, Sem.run_pure, Result.andThen_ok, hu]
        rw [if_pos hb]
        simp only [Sem.run_bind, ok.run_size he, Result.andThen_ok, h1]
      · cases h
    · cases h
  · rename_i a b c s k j hi
    obtain rfl := hx.string_
    obtain rfl := hy.int_
    have hu : (underlying t).run P w = .ok .string w := ok.run_under hi w
    split at h
    · rename_i h0
      cases hb : s[j.toNat]? with
      | none => simp [hb] at h
      | some q =>
        simp only [hb, Option.map_some, Option.some.injEq] at h
        subst h
        refine ⟨_, ?_, .const _ rfl⟩
        simp only [Instr.index, asIntOf, Sem.run_bind, Sem.run_pure, Result.andThen_ok, hu]
        rw [if_pos h0, hb]
        rfl
    · cases h
  · cases h

def extractA (j : Nat) : Value → Option Value
  | .tuple vs => vs[j]?
  | _ => none
theorem extractA_sound {P : Program} {σ : Sg} {w : World} {j : Nat} {x x' v : Value} (hx : Rep σ x x') (h : extractA j x = some v) : ∃ v', (Instr.extract x' j).run P w = .ok v' w ∧ Rep σ v v' := by
  unfold extractA at h
  split at h
  · rename_i vs
    obtain ⟨cs', rfl, hr⟩ := hx.tuple_
    obtain ⟨v', h1, h2⟩ := Reps.get hr h
    exact ⟨v', by simp [Instr.extract, h1], h2⟩
  · cases h

def nilA : Value → Option Value
  | .pointer (some a) => some (.pointer (some a))
  | .iface T v => some (.iface T v)
  | .func (.func g) a b => some (.func (.func g) a b)
  | _ => none

def ifaceA (T : Tab) (t : TypeId) (x : Value) : Option Value :=
  match T t with
  | some i => if isIfaceD i.desc then none else some (.iface t x)
  | none => none
theorem ifaceA_sound {P : Program} {T : Tab} (ok : TabOk P T) {σ : Sg} {w : World} {t : TypeId} {x x' v : Value} (hx : Rep σ x x') (h : ifaceA T t x = some v) :
    ∃ v', (Instr.makeInterface t x').run P w = .ok v' w ∧ Rep σ v v' := by
  unfold ifaceA at h
  split at h
  · rename_i i hi
    split at h
    · cases h
    · rename_i hd
      cases h
      refine ⟨.iface t x', ?_, .iface _ _ _ hx⟩
      simp only [Instr.makeInterface, Sem.run_bind, ok.run_under hi, Result.andThen_ok]
      cases hq : i.desc <;> first | rfl | (simp [hq, isIfaceD] at hd)
  · cases h

theorem zero_rep {P : Program} {T : Tab} (ok : TabOk P T) {t : TypeId} {i : TI} (h : T t = some i) (σ : Sg) : Rep σ i.zero i.zero := by
  have hp := ok.plain t i h
  cases hz : i.zero with
  | agg cs =>
    have hq : ∀ (j : Nat) v, cs[j]? = some v → okc v = true := fun j v h1 => hp v (by rw [hz]; exact Array.mem_toList_iff.2 (Array.mem_of_getElem? h1))
    refine .agg _ _ rfl (fun j v v' h1 h2 => ?_) (fun j v h1 => okc_one (hq j v h1))
    rw [h1] at h2
    cases h2
    exact .const _ (hq j v h1)
  | tuple cs => exact absurd (hp (.tuple cs) (by rw [hz]; simp [Value.cells])) (by simp [okc])
  | _ =>
    refine .const _ (hp _ ?_)
    rw [hz]
    simp [Value.cells]

def assertA (T : Tab) (asserted : TypeId) (ok2 : Bool) (x : Value) : Option Value :=
  match T asserted with
  | none => none
  | some i =>
    if isIfaceD i.desc then none else
    match x with
    | .iface t v => if t = asserted then some (if ok2 then .tuple #[v, .bool true] else v) else if ok2 then some (.tuple #[i.zero, .bool false]) else none
    | .nilIface => if ok2 then some (.tuple #[i.zero, .bool false]) else none
    | _ => none
theorem rep_pair {σ : Sg} {a a' b b' : Value} (h : Rep σ a a') (k : Rep σ b b') : Rep σ (.tuple #[a, b]) (.tuple #[a', b']) := by
  refine .tuple _ _ rfl (fun i v v' h1 h2 => ?_)
  match i with
  | 0 => simp at h1 h2; subst h1; subst h2; exact h
  | 1 => simp at h1 h2; subst h1; subst h2; exact k
  | n + 2 => simp at h1
theorem assertA_sound {P : Program} {T : Tab} (ok : TabOk P T) {σ : Sg} {w : World} {xt a : TypeId} {ok2 : Bool} {x x' v : Value} (hx : Rep σ x x') (h : assertA T a ok2 x = some v) :
    ∃ v', (Instr.typeAssert x' xt a ok2).run P w = .ok v' w ∧ Rep σ v v' := by
  unfold assertA at h
  split at h
  · cases h
  · rename_i i hi
    have hu := ok.run_under hi w
    have hz := ok.run_zero hi w
    split at h
    · cases h
    · rename_i hd
      split at h
      · rename_i t u
        obtain ⟨u', rfl, hu'⟩ := hx.iface_
        split at h
        · rename_i ht
          cases h
          refine ⟨if ok2 then .tuple #[u', .bool true] else u', ?_, ?_⟩
          · simp only [Instr.typeAssert, Sem.run_bind, hu, Result.andThen_ok]
            cases hq : i.desc <;> first | (simp [ht]; done) | (simp [hq, isIfaceD] at hd)
          · cases ok2
            · exact hu'
            · exact rep_pair hu' (.const _ rfl)
        · rename_i ht
          split at h
          · rename_i h2
            cases h
            subst h2
            refine ⟨.tuple #[i.zero, .bool false], ?_, rep_pair (zero_rep ok hi σ) (.const _ rfl)⟩
            simp only [Instr.typeAssert, Sem.run_bind, hu, Result.andThen_ok]
            cases hq : i.desc <;> first | (simp [ht, hz]; done) | (simp [hq, isIfaceD] at hd)
          · cases h
      · obtain rfl := hx.nilIface_
        split at h
        · rename_i h2
          cases h
          subst h2
          refine ⟨.tuple #[i.zero, .bool false], ?_, rep_pair (zero_rep ok hi σ) (.const _ rfl)⟩
          simp only [Instr.typeAssert, Sem.run_bind, hu, Result.andThen_ok]
          cases hq : i.desc <;> first | (simp [hz]; done) | (simp [hq, isIfaceD] at hd)
        · cases h
      · cases h

/-- A struct or an array out of its parts. -/
theorem fill_sound {σ : Sg} {place : Nat → Option (Nat × Nat)} : ∀ (ps ps' : List (Nat × Value)) (cs cs' r : Array Value), Reps σ cs cs' →
    ps.length = ps'.length → (∀ (j : Nat) p p', ps[j]? = some p → ps'[j]? = some p' → p.1 = p'.1 ∧ solid p.2 = true ∧ Rep σ p.2 p'.2) →
    Flat cs' → Instr.fill place cs ps = some r → ∃ r', Instr.fill place cs' ps' = some r' ∧ Reps σ r r' ∧ Flat r'
  | [], [], cs, cs', r, hr, _, _, hfl, h => by
    simp only [Instr.fill, Option.some.injEq] at h
    subst h
    exact ⟨cs', rfl, hr, hfl⟩
  | [], p :: ps', cs, cs', r, _, hl, _, _, _ => by simp at hl
  | p :: ps, [], cs, cs', r, _, hl, _, _, _ => by simp at hl
  | (i, v) :: ps, (i', v') :: ps', cs, cs', r, hr, hl, hp, hfl, h => by
    obtain ⟨hi, hso, hv⟩ := hp 0 _ _ rfl rfl
    dsimp only at hi hso hv
    subst hi
    obtain ⟨hz, hc⟩ := rep_cells hv hso
    simp only [Instr.fill] at h ⊢
    cases hpl : place i with
    | none => simp [hpl] at h
    | some q =>
      obtain ⟨off, size⟩ := q
      simp only [hpl] at h ⊢
      by_cases hbad : (v.cells.size ≠ size || off + v.cells.size > cs.size) = true
      · rw [if_pos hbad] at h; cases h
      · rw [if_neg hbad] at h
        rw [if_neg (by rw [← hz, ← hr.1]; exact hbad)]
        refine fill_sound ps ps' _ _ r ?_ (by simpa using hl) (fun j p p' h1 h2 => hp (j + 1) p p' (by simpa using h1) (by simpa using h2)) ?_ h
        case refine_2 =>
          have hset : ∀ (l : List (Value × Nat)) (a : Array Value), Flat a → (∀ x ∈ l, x.1.oneCell' = true) → Flat (l.foldl (fun cs (x : Value × Nat) => cs.setIfInBounds (off + x.2) x.1) a) := by
            intro l
            induction l with
            | nil => intro a ha _; exact ha
            | cons x l ih =>
              intro a ha hl
              rw [List.foldl_cons]
              refine ih _ (fun j u hu => ?_) (fun y hy => hl y (by simp [hy]))
              rw [Array.getElem?_setIfInBounds] at hu
              split at hu
              · split at hu
                · cases hu; exact hl x (by simp)
                · cases hu
              · exact ha j u hu
          rw [← Array.foldl_toList, Array.toList_zipIdx]
          refine hset _ _ hfl (fun x hx => ?_)
          obtain ⟨j, hj⟩ := List.mem_iff_getElem?.1 hx
          rw [List.getElem?_zipIdx] at hj
          cases hq : v'.cells.toList[j]? with
          | none => simp [hq] at hj
          | some u =>
            simp [hq] at hj
            subst hj
            exact rep_flat hv hso j u (by simpa using hq)
        have hsz : ∀ (l : List (Value × Nat)) (a : Array Value), (l.foldl (fun cs (x : Value × Nat) => cs.setIfInBounds (off + x.2) x.1) a).size = a.size := by
          intro l
          induction l with
          | nil => intro a; rfl
          | cons x l ih => intro a; rw [List.foldl_cons, ih]; simp
        have hget : ∀ (l l' : List (Value × Nat)) (a a' : Array Value), Reps σ a a' → l.length = l'.length → (∀ (j : Nat) x x', l[j]? = some x → l'[j]? = some x' → x.2 = x'.2 ∧ Rep σ x.1 x'.1) →
            Reps σ (l.foldl (fun cs (x : Value × Nat) => cs.setIfInBounds (off + x.2) x.1) a) (l'.foldl (fun cs (x : Value × Nat) => cs.setIfInBounds (off + x.2) x.1) a') := by
          intro l
          induction l with
          | nil => intro l' a a' h1 h2 _; cases l' with | nil => exact h1 | cons => simp at h2
          | cons x l ih =>
            intro l' a a' h1 h2 h3
            cases l' with
            | nil => simp at h2
            | cons x' l' =>
              rw [List.foldl_cons, List.foldl_cons]
              obtain ⟨e1, e2⟩ := h3 0 x x' rfl rfl
              refine ih l' _ _ ⟨by simp [h1.1], fun j u u' g1 g2 => ?_⟩ (by simpa using h2) (fun j y y' g1 g2 => h3 (j + 1) y y' (by simpa using g1) (by simpa using g2))
              rw [Array.getElem?_setIfInBounds] at g1 g2
              rw [← e1, ← h1.1] at g2
              split at g1
              · rename_i q
                rw [if_pos q] at g2
                split at g1
                · rename_i q2
                  rw [if_pos q2] at g2
                  cases g1; cases g2
                  exact e2
                · cases g1
              · rename_i q
                rw [if_neg q] at g2
                exact h1.2 j u u' g1 g2
        have hfold : ∀ (x y : Array Value), (x.zipIdx.foldl (fun cs (c, j) => cs.setIfInBounds (off + j) c) y) = (x.toList.zipIdx.foldl (fun cs (z : Value × Nat) => cs.setIfInBounds (off + z.2) z.1) y) := by
          intro x y
          rw [← Array.foldl_toList, Array.toList_zipIdx]
        rw [hfold, hfold]
        refine hget _ _ _ _ hr (by simp [hz]) (fun j x x' h1 h2 => ?_)
        rw [List.getElem?_zipIdx] at h1 h2
        cases a1 : v.cells.toList[j]? with
        | none => simp [a1] at h1
        | some u =>
          cases a2 : v'.cells.toList[j]? with
          | none => simp [a2] at h2
          | some u' =>
            simp [a1] at h1
            simp [a2] at h2
            subst h1
            subst h2
            exact ⟨rfl, hc j u u' (by simpa using a1) (by simpa using a2)⟩

end Go.Ab
