/- A function's body under a call; what it hands back; regions that draw their order; for any program whose types stand in a table. -/
import Derived.Test.YtpgiiidnimbdgaaAbK
namespace Go.Ab
open Go.RowKit
set_option linter.unusedVariables false
set_option linter.unusedSimpArgs false

def resA (T : Tab) (m : Nat) (f : Fr) (S : St) : ResultVar → Option Value
  | .tmp t => if t < m then some (f t) else none
  | .cell a t => if a < m then loadA T S t (f a) else none
def ressA (T : Tab) (m : Nat) (f : Fr) (S : St) : List ResultVar → Option (List Value)
  | [] => some []
  | r :: rs => match resA T m f S r with
    | none => none
    | some v => match ressA T m f S rs with
      | none => none
      | some vs => some (v :: vs)
def resC (tmps : Array Value) : ResultVar → Sem Value
  | .tmp t => pure (tmps.getD t undef)
  | .cell a t => do loadVar t (← asAddr (tmps.getD a undef))
def wrapA : List Value → Value
  | [v] => v
  | vs => .tuple vs.toArray

section
variable {P : Program} {T : Tab} {σ : Sg} {S : St} {base : Nat} {w0 w : World} {m : Nat} {f : Fr} {tmps : Array Value}

theorem resA_sound (ok : TabOk P T) (hs : Sim σ S base w0 w) (hf : FRep σ m f tmps) {r : ResultVar} {v : Value} (h : resA T m f S r = some v) :
    ∃ c, (resC tmps r).run P w = .ok c w ∧ Rep σ v c := by
  unfold resA at h
  split at h
  · rename_i t
    split at h
    · rename_i ht
      cases h
      exact ⟨_, rfl, hf.at_ t ht⟩
    · cases h
  · rename_i a t
    split at h
    · rename_i ha
      obtain ⟨c, h1, h2⟩ := loadA_sound (P := P) ok hs (hf.at_ a ha) h
      refine ⟨c, ?_, h2⟩
      have hx : ∃ ad, tmps.getD a undef = .pointer (some ad) := by
        unfold loadA at h
        split at h
        · rename_i o k hfa
          have := hf.at_ a ha
          rw [hfa] at this
          obtain ⟨l, _, _, q⟩ := this.ptr_
          exact ⟨_, q⟩
        · cases h
      obtain ⟨ad, hx⟩ := hx
      rw [hx] at h1
      simp only [resC]
      rw [hx]
      simpa [Instr.loadAt, Instr.sureAddr, asAddr] using h1
    · cases h

theorem ressA_sound (ok : TabOk P T) (hs : Sim σ S base w0 w) (hf : FRep σ m f tmps) : ∀ (rs : List ResultVar) (vs : List Value), ressA T m f S rs = some vs →
    ∃ cs : List Value, (rs.mapM (resC tmps)).run P w = .ok cs w ∧ cs.length = vs.length ∧
      ∀ (i : Nat) v c, vs[i]? = some v → cs[i]? = some c → Rep σ v c
  | [], vs, h => by
    simp [ressA] at h
    subst h
    exact ⟨[], rfl, rfl, fun i v c h => by simp at h⟩
  | r :: rs, vs, h => by
    simp only [ressA] at h
    split at h
    · cases h
    · rename_i v hv
      split at h
      · cases h
      · rename_i ws hw
        cases h
        obtain ⟨c, h1, h2⟩ := resA_sound ok hs hf hv
        obtain ⟨cs, h3, h4, h5⟩ := ressA_sound ok hs hf rs ws hw
        refine ⟨c :: cs, ?_, by simp [h4], fun i u e hu he => ?_⟩
        · simp only [List.mapM_cons, Sem.run_bind, h1, Result.andThen_ok, h3, Sem.run_pure]
        · cases i with
          | zero => simp at hu he; subst hu; subst he; exact h2
          | succ i => exact h5 i u e (by simpa using hu) (by simpa using he)

theorem wrap_rep {vs cs : List Value} (hl : cs.length = vs.length) (h : ∀ (i : Nat) v c, vs[i]? = some v → cs[i]? = some c → Rep σ v c) :
    Rep σ (wrapA vs) (if h : cs.toArray.size = 1 then cs.toArray[0] else .tuple cs.toArray) := by
  match vs, cs, hl with
  | [v], [c], _ => exact h 0 v c rfl rfl
  | [], [], _ => exact .tuple _ _ rfl (fun i v v' h1 => by simp at h1)
  | v1 :: v2 :: vs, c1 :: c2 :: cs, hl =>
    rw [dif_neg (by simp)]
    exact .tuple _ _ (by simpa using hl.symm) (fun i v v' h1 h2 => h i v v' (by simpa using h1) (by simpa using h2))

theorem resultsA_sound (ok : TabOk P T) (hs : Sim σ S base w0 w) (hf : FRep σ m f tmps) {fn : Func} {vs : List Value} (h : ressA T m f S fn.results.toList = some vs) :
    ∃ c, (results fn tmps).run P w = .ok c w ∧ Rep σ (wrapA vs) c := by
  obtain ⟨cs, h1, h2, h3⟩ := ressA_sound ok hs hf _ _ h
  refine ⟨_, ?_, wrap_rep h2 h3⟩
  have e0 : results fn tmps = (do
    let vs ← fn.results.mapM (resC tmps)
    pure (if h : vs.size = 1 then vs[0] else .tuple vs)) := by
    unfold results
    congr 1
  rw [e0]
  have e : fn.results.mapM (resC tmps) =
      (List.toArray <$> fn.results.toList.mapM (resC tmps)) := by
    rw [Array.mapM_eq_mapM_toList]
  simp only [Sem.run_bind]
  have e2 : (fn.results.mapM (resC tmps)).run P w = .ok cs.toArray w := by
    rw [e]
    simp only [map_eq_pure_bind, Sem.run_bind, h1, Result.andThen_ok, Sem.run_pure]
  rw [e2]
  simp only [Result.andThen_ok, Sem.run_pure]
end

/-- The frame at the start. -/
def fr0 (args : List Value) : Fr := fun i => args.getD i undef

/-- Values that lead to the first n objects only. -/
inductive Closed (n : Nat) : Value → Prop where
  | top : Closed n (.chan none)
  | const (v : Value) (h : okc v = true) : Closed n v
  | ptr (o i : Nat) (h : o < n) : Closed n (.pointer (some ⟨o, i, none⟩))
  | slice (o i k s : Nat) (h : o < n) : Closed n (.slice (some ⟨o, i, none⟩) k s)
  | iface (T : TypeId) (v : Value) (h : Closed n v) : Closed n (.iface T v)
  | agg (cs : Array Value) (h : ∀ (i : Nat) v, cs[i]? = some v → Closed n v) : Closed n (.agg cs)
  | tuple (cs : Array Value) (h : ∀ (i : Nat) v, cs[i]? = some v → Closed n v) : Closed n (.tuple cs)
  | func (fn : Fn) (cs ds : Array Value) (h : ∀ (i : Nat) v, cs[i]? = some v → Closed n v) (h2 : ∀ (i : Nat) v, ds[i]? = some v → Closed n v) : Closed n (.func fn cs ds)

theorem get_of_size {cs cs' : Array Value} (hs : cs.size = cs'.size) {i : Nat} {v : Value} (h : cs[i]? = some v) : ∃ v', cs'[i]? = some v' :=
  ⟨_, Array.getElem?_eq_getElem (by rw [← hs]; exact (Array.getElem?_eq_some_iff.1 h).1)⟩

theorem Rep.closed {σ : Sg} {v v' : Value} (h : Rep σ v v') : Closed σ.length v := by
  induction h with
  | top v => exact .top
  | const v h => exact .const v h
  | ptr o i l h => exact .ptr o i (List.getElem?_eq_some_iff.1 h).1
  | slice o i n s c l h => exact .slice o i n s (List.getElem?_eq_some_iff.1 h).1
  | sliceE o i s A hi ho => exact .slice o i 0 s ho
  | iface T v v' _ ih => exact .iface T v ih
  | agg cs cs' hs _ h1 ih => exact .agg cs fun i v hv => let ⟨v', hv'⟩ := get_of_size hs hv; ih i v v' hv hv'
  | tuple cs cs' hs _ ih => exact .tuple cs fun i v hv => let ⟨v', hv'⟩ := get_of_size hs hv; ih i v v' hv hv'
  | func fn cs cs' ds ds' hs _ hs2 _ ih ih2 =>
    exact .func fn cs ds (fun i v hv => let ⟨v', hv'⟩ := get_of_size hs hv; ih i v v' hv hv') (fun i v hv => let ⟨v', hv'⟩ := get_of_size hs2 hv; ih2 i v v' hv hv')

def ClosedSt (n : Nat) (S : St) : Prop := ∀ (o : Nat) ty rw cs, S[o]? = some (.row ty rw cs) → ∀ v ∈ cs, Closed n v

theorem Sim.closed {σ : Sg} {S : St} {base : Nat} {w0 w : World} (h : Sim σ S base w0 w) : ClosedSt S.length S := by
  intro o ty rw cs hS v hv
  obtain ⟨i, hi⟩ := List.mem_iff_getElem?.1 hv
  have ho : o < σ.length := by rw [h.len]; exact (List.getElem?_eq_some_iff.1 hS).1
  obtain ⟨v', _, hr, _⟩ := h.cell o _ ty rw cs hS (List.getElem?_eq_getElem ho) i v hi
  rw [← h.len]
  exact hr.closed

/-- What is asked of a body's end. -/
def EndA (T : Tab) (m : Nat) (rs : List ResultVar) (Q : Value → St → Prop) : Exit → Fr → St → Prop
  | .normal, f, S | .ret, f, S => match ressA T m f S rs with
    | some vs => Q (wrapA vs) S
    | none => False
  | _, _, _ => False

theorem fr0_rep {σ : Sg} {args : List Value} {cargs : Array Value} (h : ArgsRep σ args cargs) (m : Nat) (hm : args.length ≤ m) :
    FRep σ m (fr0 args) (cargs ++ Array.replicate (m - cargs.size) undef) := by
  refine ⟨by simp [h.1]; omega, fun i hi => ?_⟩
  unfold fr0
  rcases Nat.lt_or_ge i args.length with hlt | hge
  · have h1 : i < cargs.size := by rw [h.1]; exact hlt
    have e1 : args.getD i undef = args[i] := by simp [hlt]
    have e2 : (cargs ++ Array.replicate (m - cargs.size) undef).getD i undef = cargs[i] := by
      simp [Array.getElem?_append_left h1, h1]
    rw [e1, e2]
    exact h.2 i _ _ (List.getElem?_eq_getElem hlt) (Array.getElem?_eq_getElem h1)
  · have h1 : cargs.size ≤ i := by rw [h.1]; exact hge
    have e1 : args.getD i undef = undef := by simp [hge]
    have e2 : (cargs ++ Array.replicate (m - cargs.size) undef).getD i undef = undef := by
      have h2 : i - cargs.size < m - cargs.size := by omega
      simp [Array.getElem?_append_right h1, h2]
    rw [e1, e2]
    exact undef_rep σ

/-- **A call, by its function's body.** -/
theorem ACalls.of {P : Program} {T : Tab} (ok : TabOk P T) {g : FuncId} {fn : Func} {c : Code} {args : List Value} {S : St} {Q : Value → St → Prop}
    (henter : ∀ cargs w, (callFunc g cargs).run P w = .ok (.enter g cargs) w) (hf : P.funcs[g]? = some fn) (hb : fn.body = some c) {m : Nat} (hm : fn.ntmps = m) (hle : args.length ≤ m)
    {rs : List ResultVar} (hrs : fn.results.toList = rs)
    (h : ClosedSt S.length S → (∀ v ∈ args, Closed S.length v) → AWp P m S.length c (EndA T m rs Q) (fr0 args) S) : ACalls P g args S Q := by
  refine ⟨henter, fun σ base w0 w cargs hs ha => ?_⟩
  subst hm
  have hcl : ∀ v ∈ args, Closed S.length v := fun v hv => by
    obtain ⟨i, hi⟩ := List.mem_iff_getElem?.1 hv
    have : i < cargs.size := by rw [ha.1]; exact (List.getElem?_eq_some_iff.1 hi).1
    rw [← hs.len]
    exact (ha.2 i v _ hi (Array.getElem?_eq_getElem this)).closed
  refine calls_of_wp hf hb (wp_mono (h hs.closed hcl σ base w0 w _ (Nat.le_refl _) hs (fr0_rep ha _ hle)) fun e a w' hl => ?_)
  obtain ⟨h1, f', S', σ', h2, h3, h4, h5, h6⟩ := hl
  have hσ : σ <+: σ' := by rw [← hs.len, List.take_length] at h2; exact h2
  have fin : ∀ {vs : List Value}, ressA T fn.ntmps f' S' fn.results.toList = some vs → Q (wrapA vs) S' →
      ∃ v, (results fn a.tmps).run P w' = .ok v w' ∧ ∃ c r S' σ', Ending.returned v = .returned c ∧ Q r S' ∧ σ <+: σ' ∧ Rep σ' r c ∧ Sim σ' S' base w0 w' := fun hv hq => by
    obtain ⟨c, q1, q2⟩ := resultsA_sound (P := P) ok h4 h5 hv
    exact ⟨c, q1, c, _, S', σ', rfl, hq, hσ, q2, h4⟩
  subst hrs
  cases e with
  | normal =>
    simp only [EndA] at h6
    split at h6
    · rename_i vs hv; exact ⟨h1, fin hv h6⟩
    · exact h6.elim
  | ret =>
    simp only [EndA] at h6
    split at h6
    · rename_i vs hv; exact ⟨h1, fin hv h6⟩
    · exact h6.elim
  | exit id => exact h6.elim
  | goto l => exact h6.elim
  | panic ch => exact h6.elim
  | outgrown => exact h6.elim

end Go.Ab
