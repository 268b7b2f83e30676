/- All operations that make or write memory as one function; what a call is; a store that says more lets read all that a store that says less lets read; for any program whose types stand in a table. -/
import Derived.Test.YtpgiiidnimbdgaaAbI
namespace Go.Ab
open Go.RowKit
set_option linter.unusedVariables false
set_option linter.unusedSimpArgs false

def heavy (T : Tab) (m : Nat) (f : Nat → Value) (S : St) (op : Op) : Option (Value × St) :=
  match op with
  | .alloc e => allocA T S e
  | .box e x => match ev m f x with
    | some v => boxA S e v
    | none => none
  | .store t x y => match ev m f x with
    | none => none
    | some a => match ev m f y with
      | none => none
      | some v => match storeA T S t a v with
        | some S' => some (undef, S')
        | none => none
  | .buildSlice t n ps => match evParts m f ps.toList with
    | some vs => buildSliceA T S t n vs
    | none => none
  | .makeSlice t l c => match ev m f l with
    | none => none
    | some a => match ev m f c with
      | none => none
      | some b => makeA T S t a b
  | .call c => match c.callee with
    | .builtin .append => match c.args.toList, c.argTypes.toList with
      | [x, y], [t, t'] => if t = t' then (match ev m f x with
        | none => none
        | some a => match ev m f y with
          | none => none
          | some b => appendA T S t a b) else none
      | _, _ => none
    | _ => none
  | _ => none

theorem heavy_sound {P : Program} {T : Tab} (ok : TabOk P T) {σ : Sg} {S : St} {base : Nat} {w0 w : World} (hs : Sim σ S base w0 w) {m : Nat} {f : Nat → Value} {tmps : Array Value} {d : List Deferred} (hf : FRep σ m f tmps)
    {o : Oper} {v : Value} {S' : St} (h : heavy T m f S o.op = some (v, S')) : Comes P σ base w0 w (execOp (Act.eval ⟨tmps, d⟩) o) v S' := by
  unfold heavy at h
  split at h
  · rename_i e he
    simp only [execOp, he]
    exact allocA_sound ok hs h
  · rename_i e x he
    split at h
    · rename_i u hu
      simp only [execOp, he]
      exact boxA_sound hs (ev_rep hf hu) h
    · cases h
  · rename_i t x y he
    split at h
    · cases h
    · rename_i a ha
      split at h
      · cases h
      · rename_i u hu
        split at h
        · rename_i S1 hS1
          cases h
          obtain ⟨w', h1, h2⟩ := storeA_sound ok hs (ev_rep (d := d) hf ha) (ev_rep (d := d) hf hu) hS1
          exact ⟨.skip, w', σ, by simp only [execOp, he, Sem.run_bind, h1, Result.andThen_ok]; rfl, .inr ⟨rfl, rfl⟩, List.prefix_refl _, h2⟩
        · cases h
  · rename_i t n ps he
    split at h
    · rename_i vs hv
      obtain ⟨h1, h2⟩ := evParts_rep (d := d) hf _ _ hv
      simp only [execOp, he]
      refine buildSliceA_sound ok hs (by simp [h1]) (fun j p p' q1 q2 => ?_) h
      rw [Array.getElem?_map] at q2
      cases hq : ps[j]? with
      | none => simp [hq] at q2
      | some z =>
        simp [hq] at q2
        subst q2
        exact h2 j p z q1 (by simpa using hq)
    · cases h
  · rename_i t l c he
    split at h
    · cases h
    · rename_i a ha
      split at h
      · cases h
      · rename_i b hb
        simp only [execOp, he]
        exact makeA_sound ok hs (ev_rep hf ha) (ev_rep hf hb) h
  · rename_i c he
    split at h
    · rename_i hc
      split at h
      · rename_i x y t t' hx ht
        split at h
        · rename_i htt
          subst htt
          split at h
          · cases h
          · rename_i a ha
            split at h
            · cases h
            · rename_i b hb
              have := appendA_sound (ty := o.type) ok hs (ev_rep (d := d) hf ha) (ev_rep (d := d) hf hb) h
              have e1 : c.args = #[x, y] := Array.toList_inj.1 hx
              have e2 : c.argTypes = #[t, t] := Array.toList_inj.1 ht
              simp only [execOp, he, resolve, hc, invoke, builtin, e1, e2]
              simpa using this
        · cases h
      · cases h
    · cases h
  · cases h

/-- A call of a function of the program: which, and with what. -/
def callA (m : Nat) (f : Nat → Value) (op : Op) : Option (FuncId × List Value) :=
  match op with
  | .call c => match c.callee with
    | .value x => match ev m f x with
      | some (.func (.func g) first cap) => match evs m f c.args.toList with
        | some vs => some (g, first.toList ++ vs ++ cap.toList)
        | none => none
      | _ => none
    | _ => none
  | _ => none

/-- Arguments. -/
def ArgsRep (σ : Sg) (args : List Value) (cargs : Array Value) : Prop := cargs.size = args.length ∧ ∀ (i : Nat) v c, args[i]? = some v → cargs[i]? = some c → Rep σ v c

theorem callA_sound {P : Program} {σ : Sg} {m : Nat} {f : Nat → Value} {tmps : Array Value} {d : List Deferred} (hf : FRep σ m f tmps)
    {o : Oper} {g : FuncId} {args : List Value} (h : callA m f o.op = some (g, args)) (w : World) :
    ∃ cargs, (execOp (Act.eval ⟨tmps, d⟩) o).run P w = (callFunc g cargs).run P w ∧ ArgsRep σ args cargs := by
  unfold callA at h
  split at h
  · rename_i c he
    split at h
    · rename_i x hc
      split at h
      · rename_i g' first cap hx
        split at h
        · rename_i vs hv
          cases h
          obtain ⟨cs, ds, q1, q2, q3, q4, q5⟩ := (ev_rep (d := d) hf hx).func_
          obtain ⟨h1, h2⟩ := evs_rep (d := d) hf _ _ hv
          refine ⟨cs ++ c.args.map (Act.eval ⟨tmps, d⟩) ++ ds, ?_, ?_, ?_⟩
          · simp only [execOp, he, resolve, hc, q1, Deferred.ofValue, Sem.run_bind, Sem.run_pure, Result.andThen_ok, invoke]
          · simp [h1, q2, q4]
          · intro i v u hi hu
            have key : ∀ (i : Nat) v u, (first.toList ++ vs)[i]? = some v → (cs ++ c.args.map (Act.eval ⟨tmps, d⟩))[i]? = some u → Rep σ v u := by
              intro i v u hi hu
              rcases Nat.lt_or_ge i first.size with hlt | hge
              · rw [List.getElem?_append_left (by simpa using hlt)] at hi
                rw [Array.getElem?_append_left (by omega)] at hu
                exact q3 i v u (by simpa using hi) hu
              · rw [List.getElem?_append_right (by simpa using hge)] at hi
                rw [Array.getElem?_append_right (by omega)] at hu
                rw [Array.getElem?_map] at hu
                simp only [Array.length_toList] at hi
                rw [← q2] at hu
                cases hq : c.args[i - first.size]? with
                | none => simp [hq] at hu
                | some z => simp [hq] at hu; subst hu; exact h2 _ v z hi (by simpa using hq)
            have hl : (first.toList ++ vs).length = (cs ++ c.args.map (Act.eval ⟨tmps, d⟩)).size := by simp [h1, q2]
            rcases Nat.lt_or_ge i (first.toList ++ vs).length with hlt | hge
            · rw [List.getElem?_append_left hlt] at hi
              rw [Array.getElem?_append_left (by omega)] at hu
              exact key i v u hi hu
            · rw [List.getElem?_append_right hge] at hi
              rw [Array.getElem?_append_right (by omega)] at hu
              rw [hl] at hi
              exact q5 _ v u (by simpa using hi) hu
        · cases h
      · cases h
    · cases h
  · cases h

/-! a store that says more -/
/-- All that S says S' says (S' may have more objects). -/
def Le (S S' : St) : Prop := ∀ (o : Nat) ty rw cs, S[o]? = some (.row ty rw cs) → S'[o]? = some (.row ty rw cs)
theorem Le.refl (S : St) : Le S S := fun _ _ _ _ h => h
theorem Le.trans {S S' S'' : St} (h : Le S S') (h' : Le S' S'') : Le S S'' := fun o ty rw cs q => h' o ty rw cs (h o ty rw cs q)
theorem Le.append (S R : St) : Le S (S ++ R) := fun o ty rw cs q => by rw [List.getElem?_append_left (List.getElem?_eq_some_iff.1 q).1]; exact q

theorem loadA_le {T : Tab} {S S' : St} (h : Le S S') {t : TypeId} {x v : Value} (hl : loadA T S t x = some v) : loadA T S' t x = some v := by
  unfold loadA at hl ⊢
  split at hl
  · rename_i o k
    split at hl
    · cases hl
    · rename_i i hi
      split at hl
      · rename_i ty rw cs hS
        simp only [h o ty rw cs hS]
        exact hl
      · cases hl
  · cases hl

theorem convA_le {T : Tab} {S S' : St} (h : Le S S') {s d : TypeId} {x v : Value} (hl : convA T S s d x = some v) : convA T S' s d x = some v := by
  unfold convA at hl ⊢
  split at hl
  · exact hl
  · exact hl
  · exact hl
  · split at hl
    · split at hl
      · rename_i ty rw cs hS
        simp only [h _ ty rw cs hS]
        exact hl
      · cases hl
    · cases hl
  · cases hl

theorem light_le {T : Tab} {m : Nat} {f : Nat → Value} {S S' : St} (h : Le S S') {op : Op} {v : Value} (hl : light T m f S op = some v) : light T m f S' op = some v := by
  unfold light at hl ⊢
  split at hl
  all_goals first
    | exact hl
    | skip
  · split at hl
    · exact loadA_le h hl
    · cases hl
  · split at hl
    · exact convA_le h hl
    · cases hl

end Go.Ab
