/- All operations that only read, over abstract values, as one function, and that the model's operations come to the same; for any program whose types stand in a table. -/
import Derived.Test.YtpgiiidnimbdgaaAbE
import Derived.Laws.Tables
namespace Go.Ab
open Go.RowKit
set_option linter.unusedVariables false
set_option linter.unusedSimpArgs false

def buildA (T : Tab) (t : TypeId) (parts : List (Nat × Value)) : Option Value :=
  match T t with
  | some ⟨.array _ e, _, z, _⟩ =>
    match T e with
    | some ie => if parts.all (fun p => solid p.2) then (Instr.fill (fun i => some (i * ie.size, ie.size)) z.cells parts).map .agg else none
    | none => none
  | some ⟨.struct fields, _, z, _⟩ =>
    match fields.toList.mapM (fun f => (T f.type).map fun i => (f.offset, i.size)) with
    | some places => if parts.all (fun p => solid p.2) then (Instr.fill (places.toArray[·]?) z.cells parts).map .agg else none
    | none => none
  | _ => none

theorem places_tab {P : Program} {T : Tab} (ok : TabOk P T) : ∀ (fs : List Field) (places : List (Nat × Nat)), fs.mapM (fun f => (T f.type).map fun i => (f.offset, i.size)) = some places →
    fs.mapM (fun f => (P.info? f.type).map fun i => (f.offset, i.size)) = some places
  | [], places, h => by simpa using h
  | f :: fs, places, h => by
    simp only [List.mapM_cons, Option.bind_eq_bind, Option.pure_def] at h ⊢
    cases hi : T f.type with
    | none => simp [hi] at h
    | some i =>
      obtain ⟨j, h1, h2, _⟩ := ok.info f.type i hi
      cases hr : fs.mapM (fun f => (T f.type).map fun i => (f.offset, i.size)) with
      | none => simp [hi, hr] at h
      | some rest =>
        simp [hi, hr] at h
        subst h
        have := places_tab ok fs rest hr
        simp [h1, h2, this]

theorem zeros_reps {P : Program} {T : Tab} (ok : TabOk P T) {t : TypeId} {i : TI} (h : T t = some i) (σ : Sg) : Reps σ i.zero.cells i.zero.cells :=
  ⟨rfl, fun j v v' h1 h2 => by
    rw [h1] at h2
    cases h2
    exact .const _ (ok.plain t i h v (Array.mem_toList_iff.2 (Array.mem_of_getElem? h1)))⟩

theorem buildA_sound {P : Program} {T : Tab} (ok : TabOk P T) {σ : Sg} {w : World} {t : TypeId} {ps : List (Nat × Value)} {ps' : Array (Nat × Value)} {v : Value}
    (hl : ps.length = ps'.size) (hp : ∀ (j : Nat) p p', ps[j]? = some p → ps'[j]? = some p' → p.1 = p'.1 ∧ Rep σ p.2 p'.2)
    (h : buildA T t ps = some v) : ∃ v', (Instr.build t ps').run P w = .ok v' w ∧ Rep σ v v' := by
  have hp' : ps.all (fun p => solid p.2) = true → ∀ (j : Nat) p p', ps[j]? = some p → ps'.toList[j]? = some p' → p.1 = p'.1 ∧ solid p.2 = true ∧ Rep σ p.2 p'.2 := by
    intro hs j p p' h1 h2
    obtain ⟨a, b⟩ := hp j p p' h1 (by simpa using h2)
    exact ⟨a, List.all_eq_true.1 hs p (List.mem_of_getElem? h1), b⟩
  unfold buildA at h
  split at h
  · rename_i n e a z c hi
    split at h
    · rename_i ie he
      split at h
      · rename_i hs
        cases hf : Instr.fill (fun i => some (i * ie.size, ie.size)) z.cells ps with
        | none => simp [hf] at h
        | some r =>
          simp only [hf, Option.map_some, Option.some.injEq] at h
          subst h
          obtain ⟨r', h1, h2, h3⟩ := fill_sound ps ps'.toList z.cells z.cells r (zeros_reps ok hi σ) (by simpa using hl) (hp' hs) (fun j u hu => okc_one (ok.plain t _ hi u (Array.mem_toList_iff.2 (Array.mem_of_getElem? hu)))) hf
          refine ⟨.agg r', run_build w t ps' r' ?_, .agg _ _ h2.1 h2.2 h3⟩
          obtain ⟨j, q1, q2, q3, q4⟩ := ok.info t _ hi
          obtain ⟨j2, p1, p2, _, _⟩ := ok.info e _ he
          simp only [Program.built, q1, ok.under t _ hi, q4, p1, p2, h1]
      · cases h
    · cases h
  · rename_i fields a z c hi
    split at h
    · rename_i places hpl
      split at h
      · rename_i hs
        cases hf : Instr.fill (places.toArray[·]?) z.cells ps with
        | none => rw [hf] at h; cases h
        | some r =>
          rw [hf] at h
          simp only [Option.map_some, Option.some.injEq] at h
          subst h
          obtain ⟨r', h1, h2, h3⟩ := fill_sound ps ps'.toList z.cells z.cells r (zeros_reps ok hi σ) (by simpa using hl) (hp' hs) (fun j u hu => okc_one (ok.plain t _ hi u (Array.mem_toList_iff.2 (Array.mem_of_getElem? hu)))) hf
          refine ⟨.agg r', run_build w t ps' r' ?_, .agg _ _ h2.1 h2.2 h3⟩
          obtain ⟨j, q1, q2, q3, q4⟩ := ok.info t _ hi
          simp only [Program.built, q1, ok.under t _ hi, q4, places_tab ok _ _ hpl, h1]
      · cases h
    · cases h
  · cases h

/-- len. -/
def lenA (T : Tab) (t : TypeId) (x : Value) : Option Value :=
  match T t, x with
  | some ⟨.string, _, _, _⟩, .string s => some (.int .i64 s.size)
  | some ⟨.slice _, _, _, _⟩, .slice (some _) n _ => some (.int .i64 n)
  | some ⟨.slice _, _, _, _⟩, .slice none 0 0 => some (.int .i64 0)
  | some ⟨.array n _, _, _, _⟩, _ => some (.int .i64 n)
  | some ⟨.map _ _, _, _, _⟩, .map none => some (.int .i64 0)
  | _, _ => none
theorem lenA_sound {P : Program} {T : Tab} (ok : TabOk P T) {σ : Sg} {w : World} {t ty : TypeId} {x x' v : Value} (hx : Rep σ x x') (h : lenA T t x = some v) :
    ∃ v', (Builtin.len_ #[t] ty #[x']).run P w = .ok v' w ∧ Rep σ v v' := by
  unfold lenA at h
  split at h
  · rename_i a b c s hi
    obtain rfl := hx.string_
    cases h
    have hu : (underlying t).run P w = .ok .string w := ok.run_under hi w
    exact ⟨_, (by simp [Builtin.len_, hu, goInt] : (Builtin.len_ _ ty _).run P w = .ok (.int .i64 _) w), .const _ rfl⟩
  · rename_i e a b c A n s hi
    cases h
    have hu : (underlying t).run P w = .ok (.slice e) w := ok.run_under hi w
    rcases hx.slice_.2.1 with ⟨l, c', _, _, _, _, rfl⟩ | ⟨rfl, _, A, rfl⟩
    · exact ⟨_, (by simp [Builtin.len_, hu, goInt] : (Builtin.len_ _ ty _).run P w = .ok (.int .i64 _) w), .const _ rfl⟩
    · exact ⟨_, (by simp [Builtin.len_, hu, goInt] : (Builtin.len_ _ ty _).run P w = .ok (.int .i64 _) w), .const _ rfl⟩
  · rename_i e a b c hi
    obtain rfl := hx.snil_
    cases h
    have hu : (underlying t).run P w = .ok (.slice e) w := ok.run_under hi w
    exact ⟨_, (by simp [Builtin.len_, hu, goInt] : (Builtin.len_ _ ty _).run P w = .ok (.int .i64 _) w), .const _ rfl⟩
  · rename_i n e a b c hi
    cases h
    have hu : (underlying t).run P w = .ok (.array n e) w := ok.run_under hi w
    exact ⟨_, (by simp [Builtin.len_, hu, goInt] : (Builtin.len_ _ ty _).run P w = .ok (.int .i64 _) w), .const _ rfl⟩
  · rename_i k e a b c hi
    have : x' = .map none := by cases hx; rfl
    subst this
    cases h
    have hu : (underlying t).run P w = .ok (.map k e) w := ok.run_under hi w
    exact ⟨_, (by simp [Builtin.len_, hu, goInt] : (Builtin.len_ _ ty _).run P w = .ok (.int .i64 _) w), .const _ rfl⟩
  · cases h

/-- max, min of two numbers. -/
def maxA : List Value → Option Value
  | [.int k a, .int _ b] => some (.int k (if b > a then b else a))
  | _ => none
def minA : List Value → Option Value
  | [.int k a, .int _ b] => some (.int k (if b < a then b else a))
  | _ => none

/-- An operand. -/
def okConst : Value → Bool
  | .agg cs => cs.all okc
  | v => okc v
def ev (m : Nat) (f : Nat → Value) : Operand → Option Value
  | .tmp t => if t < m then some (f t) else none
  | .const v => if okConst v then some v else none
  | .func g => some (.func (.func g) #[] #[])
  | .global _ => none

def evs (m : Nat) (f : Nat → Value) : List Operand → Option (List Value)
  | [] => some []
  | x :: xs => match ev m f x with
    | none => none
    | some v => match evs m f xs with
      | none => none
      | some vs => some (v :: vs)
def evParts (m : Nat) (f : Nat → Value) : List (Nat × Operand) → Option (List (Nat × Value))
  | [] => some []
  | (i, x) :: xs => match ev m f x with
    | none => none
    | some v => match evParts m f xs with
      | none => none
      | some vs => some ((i, v) :: vs)
def evO (m : Nat) (f : Nat → Value) : Option Operand → Option (Option Value)
  | none => some none
  | some x => (ev m f x).map some

/-- A frame. -/
structure FRep (σ : Sg) (m : Nat) (f : Nat → Value) (tmps : Array Value) : Prop where
  size : tmps.size = m
  at_ : ∀ i, i < m → Rep σ (f i) (tmps.getD i undef)

theorem FRep.mono {σ σ' : Sg} (h : σ <+: σ') {m : Nat} {f : Nat → Value} {tmps : Array Value} (r : FRep σ m f tmps) : FRep σ' m f tmps := ⟨r.size, fun i hi => (r.at_ i hi).mono h⟩

theorem const_rep {σ : Sg} {v : Value} (h : okConst v = true) : Rep σ v v := by
  cases v with
  | agg cs =>
    simp only [okConst, Array.all_eq_true_iff_forall_mem] at h
    refine .agg _ _ rfl (fun i v v' h1 h2 => ?_) (fun i v h1 => okc_one (h v (Array.mem_of_getElem? h1)))
    rw [h1] at h2
    cases h2
    exact .const _ (h v (Array.mem_of_getElem? h1))
  | _ => exact .const _ h

theorem ev_rep {σ : Sg} {m : Nat} {f : Nat → Value} {tmps : Array Value} {d : List Deferred} (hf : FRep σ m f tmps) {x : Operand} {v : Value} (h : ev m f x = some v) : Rep σ v (Act.eval ⟨tmps, d⟩ x) := by
  cases x with
  | tmp t =>
    simp only [ev] at h
    split at h
    · rename_i ht
      cases h
      exact hf.at_ t ht
    · cases h
  | const u =>
    simp only [ev] at h
    split at h
    · rename_i ho
      cases h
      exact const_rep ho
    · cases h
  | func g =>
    simp only [ev, Option.some.injEq] at h
    subst h
    exact .func _ _ _ _ _ rfl (fun i v v' h1 h2 => by simp at h1) rfl (fun i v v' h1 h2 => by simp at h1)
  | global g => simp [ev] at h

theorem evs_rep {σ : Sg} {m : Nat} {f : Nat → Value} {tmps : Array Value} {d : List Deferred} (hf : FRep σ m f tmps) : ∀ (xs : List Operand) (vs : List Value), evs m f xs = some vs →
    vs.length = xs.length ∧ ∀ (j : Nat) v x, vs[j]? = some v → xs[j]? = some x → Rep σ v (Act.eval ⟨tmps, d⟩ x)
  | [], vs, h => by simp [evs] at h; subst h; simp
  | x :: xs, vs, h => by
    simp only [evs] at h
    split at h
    · cases h
    · rename_i v hv
      split at h
      · cases h
      · rename_i ws hw
        cases h
        obtain ⟨h1, h2⟩ := evs_rep (d := d) hf xs ws hw
        refine ⟨by simp [h1], fun j u y hu hy => ?_⟩
        cases j with
        | zero => simp at hu hy; subst hu; subst hy; exact ev_rep hf hv
        | succ j => exact h2 j u y (by simpa using hu) (by simpa using hy)

theorem evParts_rep {σ : Sg} {m : Nat} {f : Nat → Value} {tmps : Array Value} {d : List Deferred} (hf : FRep σ m f tmps) : ∀ (xs : List (Nat × Operand)) (vs : List (Nat × Value)), evParts m f xs = some vs →
    vs.length = xs.length ∧ ∀ (j : Nat) p x, vs[j]? = some p → xs[j]? = some x → p.1 = x.1 ∧ Rep σ p.2 (Act.eval ⟨tmps, d⟩ x.2)
  | [], vs, h => by simp [evParts] at h; subst h; simp
  | (i, x) :: xs, vs, h => by
    simp only [evParts] at h
    split at h
    · cases h
    · rename_i v hv
      split at h
      · cases h
      · rename_i ws hw
        cases h
        obtain ⟨h1, h2⟩ := evParts_rep (d := d) hf xs ws hw
        refine ⟨by simp [h1], fun j u y hu hy => ?_⟩
        cases j with
        | zero => simp at hu hy; subst hu; subst hy; exact ⟨rfl, ev_rep hf hv⟩
        | succ j => exact h2 j u y (by simpa using hu) (by simpa using hy)

/-- The builtins that only read. -/
def callL (T : Tab) (m : Nat) (f : Nat → Value) (c : Call) : Option Value :=
  match c.callee with
  | .builtin .len =>
    match c.args.toList, c.argTypes.toList with
    | [x], [t] => match ev m f x with
      | some v => lenA T t v
      | none => none
    | _, _ => none
  | .builtin .max => match evs m f c.args.toList with
    | some vs => maxA vs
    | none => none
  | .builtin .min => match evs m f c.args.toList with
    | some vs => minA vs
    | none => none
  | _ => none

/-- The operations that only read. -/
def light (T : Tab) (m : Nat) (f : Nat → Value) (S : St) (op : Op) : Option Value :=
  match op with
  | .move x | .assign x => ev m f x
  | .pick c a b => match ev m f c with
    | some (.bool true) => ev m f a
    | some (.bool false) => ev m f b
    | _ => none
  | .load t x => match ev m f x with
    | some v => loadA T S t v
    | none => none
  | .nilCheck x => match ev m f x with
    | some v => nilA v
    | none => none
  | .binOp op t x y _ => match ev m f x with
    | none => none
    | some a => match ev m f y with
      | none => none
      | some b => binA T (isConst x || isConst y) op t a b
  | .unOp op _ x => match ev m f x with
    | some v => unA op v
    | none => none
  | .convert s d x => match ev m f x with
    | some v => convA T S s d v
    | none => none
  | .makeInterface t x => match ev m f x with
    | some v => ifaceA T t v
    | none => none
  | .makeFunc fn first cap => match evs m f first.toList with
    | none => none
    | some a => match evs m f cap.toList with
      | none => none
      | some b => some (.func fn a.toArray b.toArray)
  | .slice t x lo hi none => match ev m f x with
    | none => none
    | some v => match evO m f lo with
      | none => none
      | some l => match evO m f hi with
        | none => none
        | some h => sliceA T t v l h
  | .fieldAddr s x fd => match ev m f x with
    | some v => fieldA T s fd v
    | none => none
  | .field t x fd => match ev m f x with
    | some v => fieldV T t fd v
    | none => none
  | .indexAddr t x i => match ev m f x with
    | none => none
    | some a => match ev m f i with
      | none => none
      | some b => indexA T t a b
  | .index t x i => match ev m f x with
    | none => none
    | some a => match ev m f i with
      | none => none
      | some b => indexV T t a b
  | .extract x j => match ev m f x with
    | some v => extractA j v
    | none => none
  | .typeAssert x _ a ok2 => match ev m f x with
    | some v => assertA T a ok2 v
    | none => none
  | .build t ps => match evParts m f ps.toList with
    | some vs => buildA T t vs
    | none => none
  | .call c => callL T m f c
  | _ => none

theorem eq_of_list2 {xs : Array Operand} {vs : List Value} {σ : Sg} {ρ : Operand → Value} {k k' : IntKind} {a b : Int}
    (h1 : vs.length = xs.toList.length) (h2 : ∀ (j : Nat) v x, vs[j]? = some v → xs.toList[j]? = some x → Rep σ v (ρ x)) (he : vs = [.int k a, .int k' b]) :
    xs.map ρ = #[.int k a, .int k' b] := by
  subst he
  obtain ⟨l⟩ := xs
  match l, h1 with
  | [x, y], _ =>
    have e1 := h2 0 _ x rfl rfl
    have e2 := h2 1 _ y rfl rfl
    simp [e1.int_, e2.int_]

theorem evO_rep {σ : Sg} {m : Nat} {f : Nat → Value} {tmps : Array Value} {d : List Deferred} (hf : FRep σ m f tmps) {x : Option Operand} {v : Option Value} (h : evO m f x = some v) :
    (∀ u, v = some u → ∃ u', x.map (Act.eval ⟨tmps, d⟩) = some u' ∧ Rep σ u u') ∧ (v = none → x.map (Act.eval ⟨tmps, d⟩) = none) := by
  cases x with
  | none => simp [evO] at h; subst h; simp
  | some x =>
    cases hx : ev m f x with
    | none => simp [evO, hx] at h
    | some u =>
      simp [evO, hx] at h
      subst h
      exact ⟨fun u' hu => by cases hu; exact ⟨_, rfl, ev_rep hf hx⟩, fun h => by cases h⟩

theorem light_sound {P : Program} {T : Tab} (ok : TabOk P T) {σ : Sg} {S : St} {base : Nat} {w0 w : World} (hs : Sim σ S base w0 w) {m : Nat} {f : Nat → Value} {tmps : Array Value} {d : List Deferred} (hf : FRep σ m f tmps)
    {o : Oper} {v : Value} (h : light T m f S o.op = some v) : ∃ v', (execOp (Act.eval ⟨tmps, d⟩) o).run P w = .ok (.value v') w ∧ Rep σ v v' := by
  have one : ∀ {s : Sem Value} {x : Value}, (∃ v', s.run P w = .ok v' w ∧ Rep σ x v') → ∃ v', ((do pure (.value (← s))) : Sem Next).run P w = .ok (.value v') w ∧ Rep σ x v' := by
    rintro s x ⟨v', h1, h2⟩
    exact ⟨v', by simp [h1], h2⟩
  unfold light at h
  split at h
  · rename_i x he; exact ⟨_, by simp only [execOp, he]; rfl, ev_rep hf h⟩
  · rename_i x he; exact ⟨_, by simp only [execOp, he]; rfl, ev_rep hf h⟩
  · rename_i c a b he
    split at h
    · rename_i hc
      have := (ev_rep (d := d) hf hc).bool_
      exact ⟨_, by simp only [execOp, he, this]; rfl, ev_rep hf h⟩
    · rename_i hc
      have := (ev_rep (d := d) hf hc).bool_
      exact ⟨_, by simp only [execOp, he, this]; rfl, ev_rep hf h⟩
    · cases h
  · rename_i t x he
    split at h
    · rename_i u hu; simp only [execOp, he]; exact one (loadA_sound ok hs (ev_rep hf hu) h)
    · cases h
  · rename_i x he
    split at h
    · rename_i u hu
      have hr := ev_rep (d := d) hf hu
      unfold nilA at h
      split at h
      · rename_i a
        cases h
        obtain ⟨l, h1, h2, h3⟩ := hr.ptr_
        refine ⟨Act.eval ⟨tmps, d⟩ x, by simp only [execOp, he, h3]; rfl, hr⟩
      · rename_i T1 v1
        cases h
        obtain ⟨v2, h3, _⟩ := hr.iface_
        refine ⟨Act.eval ⟨tmps, d⟩ x, by simp only [execOp, he, h3]; rfl, hr⟩
      · rename_i g a b
        cases h
        obtain ⟨cs, ds, h3, _⟩ := hr.func_
        refine ⟨Act.eval ⟨tmps, d⟩ x, by simp only [execOp, he, h3]; rfl, hr⟩
      · cases h
    · cases h
  · rename_i op t x y yt he
    split at h
    · cases h
    · rename_i a ha
      split at h
      · cases h
      · rename_i b hb
        simp only [execOp, he]
        exact one (binA_sound ok (ev_rep hf ha) (ev_rep hf hb) h)
  · rename_i op t x he
    split at h
    · rename_i u hu; simp only [execOp, he]; exact one (unA_sound (ev_rep hf hu) h)
    · cases h
  · rename_i s dd x he
    split at h
    · rename_i u hu; simp only [execOp, he]; exact one (convA_sound ok hs (ev_rep hf hu) h)
    · cases h
  · rename_i t x he
    split at h
    · rename_i u hu; simp only [execOp, he]; exact one (ifaceA_sound ok (ev_rep hf hu) h)
    · cases h
  · rename_i fn first cap he
    split at h
    · cases h
    · rename_i a ha
      split at h
      · cases h
      · rename_i b hb
        cases h
        obtain ⟨h1, h2⟩ := evs_rep (d := d) hf _ _ ha
        obtain ⟨h3, h4⟩ := evs_rep (d := d) hf _ _ hb
        refine ⟨.func fn (first.map (Act.eval ⟨tmps, d⟩)) (cap.map (Act.eval ⟨tmps, d⟩)), by simp only [execOp, he]; rfl, .func _ _ _ _ _ (by simp [h1]) (fun i u u' q1 q2 => ?_) (by simp [h3]) (fun i u u' q1 q2 => ?_)⟩
        · rw [Array.getElem?_map] at q2
          cases hq : first[i]? with
          | none => simp [hq] at q2
          | some z => simp [hq] at q2; subst q2; exact h2 i u z (by simpa using q1) (by simpa using hq)
        · rw [Array.getElem?_map] at q2
          cases hq : cap[i]? with
          | none => simp [hq] at q2
          | some z => simp [hq] at q2; subst q2; exact h4 i u z (by simpa using q1) (by simpa using hq)
  · rename_i t x lo hi he
    split at h
    · cases h
    · rename_i u hu
      split at h
      · cases h
      · rename_i l hl
        split at h
        · cases h
        · rename_i hh hhh
          simp only [execOp, he]
          obtain ⟨l1, l2⟩ := evO_rep (d := d) hf hl
          obtain ⟨g1, g2⟩ := evO_rep (d := d) hf hhh
          exact one (sliceA_sound ok (ev_rep hf hu) g1 g2 l1 l2 h)
  · rename_i s x fd he
    split at h
    · rename_i u hu; simp only [execOp, he]; exact one (fieldA_sound ok (ev_rep hf hu) h)
    · cases h
  · rename_i s x fd he
    split at h
    · rename_i u hu; simp only [execOp, he]; exact one (fieldV_sound ok (ev_rep hf hu) h)
    · cases h
  · rename_i t x i he
    split at h
    · cases h
    · rename_i a ha
      split at h
      · cases h
      · rename_i b hb
        simp only [execOp, he]
        exact one (indexA_sound ok (ev_rep hf ha) (ev_rep hf hb) h)
  · rename_i t x i he
    split at h
    · cases h
    · rename_i a ha
      split at h
      · cases h
      · rename_i b hb
        simp only [execOp, he]
        exact one (indexV_sound ok (ev_rep hf ha) (ev_rep hf hb) h)
  · rename_i x j he
    split at h
    · rename_i u hu; simp only [execOp, he]; exact one (extractA_sound (ev_rep hf hu) h)
    · cases h
  · rename_i x xt a ok2 he
    split at h
    · rename_i u hu; simp only [execOp, he]; exact one (assertA_sound ok (ev_rep hf hu) h)
    · cases h
  · rename_i t ps he
    split at h
    · rename_i vs hv
      obtain ⟨h1, h2⟩ := evParts_rep (d := d) hf _ _ hv
      simp only [execOp, he]
      refine one (buildA_sound ok (by simp [h1]) (fun j p p' q1 q2 => ?_) h)
      rw [Array.getElem?_map] at q2
      cases hq : ps[j]? with
      | none => simp [hq] at q2
      | some z =>
        simp [hq] at q2
        subst q2
        exact h2 j p z q1 (by simpa using hq)
    · cases h
  · rename_i c he
    unfold callL at h
    split at h
    · rename_i hc
      split at h
      · rename_i x t hx ht
        split at h
        · rename_i u hu
          obtain ⟨v', h1, h2⟩ := lenA_sound ok (w := w) (ty := o.type) (ev_rep (d := d) hf hu) h
          refine ⟨v', ?_, h2⟩
          have e1 : c.args = #[x] := Array.toList_inj.1 hx
          have e2 : c.argTypes = #[t] := Array.toList_inj.1 ht
          simp only [execOp, he, resolve, hc, invoke, builtin, Sem.run_bind, Sem.run_pure, Result.andThen_ok, e1, e2]
          simp [h1]
        · cases h
      · cases h
    · rename_i hc
      split at h
      · rename_i vs hv
        obtain ⟨h1, h2⟩ := evs_rep (d := d) hf _ _ hv
        unfold maxA at h
        split at h
        · rename_i k a k' b
          cases h
          have hx := eq_of_list2 h1 h2 rfl
          refine ⟨_, ?_, .const _ rfl⟩
          simp only [execOp, he, resolve, hc, invoke, builtin, Sem.run_bind, Sem.run_pure, Result.andThen_ok, hx, Builtin.max_]
          simp [Builtin.max2]
        · cases h
      · cases h
    · rename_i hc
      split at h
      · rename_i vs hv
        obtain ⟨h1, h2⟩ := evs_rep (d := d) hf _ _ hv
        unfold minA at h
        split at h
        · rename_i k a k' b
          cases h
          have hx := eq_of_list2 h1 h2 rfl
          refine ⟨_, ?_, .const _ rfl⟩
          simp only [execOp, he, resolve, hc, invoke, builtin, Sem.run_bind, Sem.run_pure, Result.andThen_ok, hx, Builtin.min_]
          simp [Builtin.min2]
        · cases h
      · cases h
    · cases h
  · cases h

end Go.Ab
