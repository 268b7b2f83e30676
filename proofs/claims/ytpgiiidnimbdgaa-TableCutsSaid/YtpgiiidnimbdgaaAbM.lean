/- The table of a program's types; rules by which a walk over abstract frames and stores is computed; for any program. -/
import Derived.Test.YtpgiiidnimbdgaaAbL
namespace Go.Ab
open Go.RowKit
set_option linter.unusedVariables false
set_option linter.unusedSimpArgs false

/-- A number, a Bool, a string, or an array of such. -/
def fieldB (P : Program) : TypeDesc → Bool
  | .array _ e => (P.underlying e).any simpleD
  | d => simpleD d
/-- A struct of simple fields whose values the model does not compare. -/
def oddD (P : Program) (t : TypeId) : TypeDesc → Bool
  | .struct fs => fs.toList.all (fun f => (P.underlying f.type).any (fieldB P)) && (P.stoodInHeld t || P.eqGuardType P.depth t)
  | _ => false
/-- The table of a program's types. -/
def tabOf (P : Program) : Tab := fun t =>
  match P.underlying t, P.info? t with
  | some d, some j => match j.zero with
    | some z => if z.cells.toList.all okc && !oddD P t d then some ⟨d, j.size, z, j.bytes⟩ else none
    | none => none
  | _, _ => none
theorem tabOf_under {P : Program} {t : TypeId} {i : TI} (h : tabOf P t = some i) : P.underlying t = some i.desc ∧ oddD P t i.desc = false := by
  unfold tabOf at h
  split at h
  · rename_i d j h1 h2
    split at h
    · rename_i z hz
      split at h
      · rename_i ha
        cases h
        rw [Bool.and_eq_true, Bool.not_eq_true'] at ha
        exact ⟨h1, ha.2⟩
      · cases h
    · cases h
  · cases h

theorem tabOf_ok (P : Program) : TabOk P (tabOf P) where
  under := fun t i h => by
    unfold tabOf at h
    split at h
    · rename_i d j h1 h2
      split at h
      · rename_i z hz
        split at h
        · cases h; exact h1
        · cases h
      · cases h
    · cases h
  info := fun t i h => by
    unfold tabOf at h
    split at h
    · rename_i d j h1 h2
      split at h
      · rename_i z hz
        split at h
        · cases h; exact ⟨j, h2, rfl, rfl, hz⟩
        · cases h
      · cases h
    · cases h
  plain := fun t i h => by
    unfold tabOf at h
    split at h
    · rename_i d j h1 h2
      split at h
      · rename_i z hz
        split at h
        · rename_i ha
          cases h
          rw [Bool.and_eq_true] at ha
          exact fun v hv => List.all_eq_true.1 ha.1 v hv
        · cases h
      · cases h
    · cases h
  cmp := fun t i fs h hd hf => by
    have h1 := (tabOf_under h).2
    rw [hd] at h1
    simp only [oddD, Bool.and_eq_false_iff] at h1
    rcases h1 with h1 | h1
    · exfalso
      have : fs.toList.all (fun f => (P.underlying f.type).any (fieldB P)) = true := by
        rw [List.all_eq_true]
        intro f hfm
        obtain ⟨j, hj, hs⟩ := hf f hfm
        rw [(tabOf_under hj).1]
        rcases hs with hs | ⟨n, e, i', h2, h3, h4⟩
        · show fieldB P j.desc = true
          unfold fieldB
          split
          · rename_i n e hd
            rw [hd] at hs
            simp [simpleD] at hs
          · exact hs
        · show fieldB P j.desc = true
          rw [h2]
          show (P.underlying e).any simpleD = true
          rw [(tabOf_under h3).1]
          exact h4
      rw [this] at h1
      cases h1
    · simpa using h1

/-! one operation, by its kind -/
def on {α : Type} (x : Option α) (K : α → Prop) : Prop := match x with
  | some a => K a
  | none => False
theorem on_some {α : Type} (a : α) (K : α → Prop) : on (some a) K = K a := rfl
theorem on_none {α : Type} (K : α → Prop) : on none K = False := rfl
theorem on_ite {α : Type} (c : Prop) [Decidable c] (x : Option α) (K : α → Prop) : on (if c then x else none) K = (c ∧ on x K) := by
  by_cases h : c <;> simp [h, on]
theorem on_ite' {α : Type} (c : Prop) [Decidable c] (x : Option α) (K : α → Prop) : on (if c then none else x) K = (¬ c ∧ on x K) := by
  by_cases h : c <;> simp [h, on]
theorem on_map {α β : Type} (x : Option α) (g : α → β) (K : β → Prop) : on (x.map g) K = on x (fun a => K (g a)) := by cases x <;> rfl
theorem on_intro {α : Type} {x : Option α} {a : α} {K : α → Prop} (h : x = some a) (hK : K a) : on x K := by rw [h]; exact hK

section
variable {P : Program} {T : Tab} {m : Nat} {d : Option Tmp} {ty : TypeId} {p : String} {af : Array Edge} {g : Option (Nat × Bool)} {f : Fr} {S : St} {K : Fr → St → Prop}
theorem putF_some (f : Fr) (d : Nat) (v : Value) : putF f (some d) v = upd f d v := rfl
theorem putF_none (f : Fr) (v : Value) : putF f none v = f := rfl
theorem upd_eq (f : Fr) (d : Nat) (v : Value) : upd f d v d = v := by simp [upd]

/-! what follows an operation, without a lambda: so a walk by rewriting does not go into it before its time -/
def kp (K : Fr → St → Prop) (f : Fr) (d : Option Tmp) (S : St) (v : Value) : Prop := K (putF f d v) S
def kp2 (K : Fr → St → Prop) (f : Fr) (d : Option Tmp) (u : Value × St) : Prop := K (putF f d u.1) u.2
def kpS (K : Fr → St → Prop) (f : Fr) (d : Option Tmp) (S' : St) : Prop := K (putF f d undef) S'
def kr (K : Fr → St → Prop) (f : Fr) (d : Option Tmp) (v : Value) (S : St) : Prop := K (putF f d v) S
def k1 {α : Type} (g : Value → Option α) (K : α → Prop) (v : Value) : Prop := on (g v) K
def k2 {α : Type} (g : Value → Value → Option α) (y : Option Value) (K : α → Prop) (a : Value) : Prop := on y (k1 (g a) K)
def kL {α : Type} (g : List Value → Option α) (K : α → Prop) (v : List Value) : Prop := on (g v) K
def kLP {α : Type} (g : List (Nat × Value) → Option α) (K : α → Prop) (v : List (Nat × Value)) : Prop := on (g v) K
def kPick (a b : Option Value) (K : Value → Prop) (v : Value) : Prop :=
  match v with
  | .bool true => on a K
  | .bool false => on b K
  | _ => False
def kFn2 (fn : Fn) (u : List Value) (K : Value → Prop) (v : List Value) : Prop := K (.func fn u.toArray v.toArray)
def kFn (fn : Fn) (y : Option (List Value)) (K : Value → Prop) (u : List Value) : Prop := on y (kFn2 fn u K)
def kSl3 (T : Tab) (t : TypeId) (v : Value) (l : Option Value) (K : Value → Prop) (h : Option Value) : Prop := on (sliceA T t v l h) K
def kSl2 (T : Tab) (t : TypeId) (v : Value) (hi : Option (Option Value)) (K : Value → Prop) (l : Option Value) : Prop := on hi (kSl3 T t v l K)
def kSl (T : Tab) (t : TypeId) (lo hi : Option (Option Value)) (K : Value → Prop) (v : Value) : Prop := on lo (kSl2 T t v hi K)
def kC2 (P : Program) (h : FuncId) (a b : List Value) (S : St) (K : Value → St → Prop) (vs : List Value) : Prop := ACalls P h (a ++ vs ++ b) S K
def kC (P : Program) (vs : Option (List Value)) (S : St) (K : Value → St → Prop) (v : Value) : Prop :=
  match v with
  | .func (.func h) a b => on vs (kC2 P h a.toList b.toList S K)
  | _ => False
theorem kPick_t (a b : Option Value) (K : Value → Prop) : kPick a b K (.bool true) = on a K := rfl
theorem kPick_f (a b : Option Value) (K : Value → Prop) : kPick a b K (.bool false) = on b K := rfl
theorem kC_f (P : Program) (vs : Option (List Value)) (S : St) (K : Value → St → Prop) (h : FuncId) (a b : Array Value) : kC P vs S K (.func (.func h) a b) = on vs (kC2 P h a.toList b.toList S K) := rfl

theorem aStep_move (x : Operand) : aStep P T m ⟨d, .move x, ty, p, af, g⟩ f S K = on (ev m f x) (kp K f d S) := by
  simp only [aStep, light, heavy, callA]
  cases ev m f x <;> rfl
theorem aStep_assign (x : Operand) : aStep P T m ⟨d, .assign x, ty, p, af, g⟩ f S K = on (ev m f x) (kp K f d S) := by
  simp only [aStep, light, heavy, callA]
  cases ev m f x <;> rfl
theorem aStep_load (t : TypeId) (x : Operand) : aStep P T m ⟨d, .load t x, ty, p, af, g⟩ f S K = on (ev m f x) (k1 (loadA T S t) (kp K f d S)) := by
  simp only [aStep, light, heavy, callA, k1, kp, kp2]
  cases ev m f x with
  | none => rfl
  | some v => simp only [on_some, k1, kL, kLP, kFn, kSl]; cases loadA T S t v <;> rfl
theorem aStep_nilCheck (x : Operand) : aStep P T m ⟨d, .nilCheck x, ty, p, af, g⟩ f S K = on (ev m f x) (k1 (nilA) (kp K f d S)) := by
  simp only [aStep, light, heavy, callA, k1, kp, kp2]
  cases ev m f x with
  | none => rfl
  | some v => simp only [on_some, k1, kL, kLP, kFn, kSl]; cases nilA v <;> rfl
theorem aStep_binOp (op : BinOp) (t yt : TypeId) (x y : Operand) : aStep P T m ⟨d, .binOp op t x y yt, ty, p, af, g⟩ f S K = on (ev m f x) (k2 (binA T (isConst x || isConst y) op t) (ev m f y) (kp K f d S)) := by
  simp only [aStep, light, heavy, callA, callL, k2, k1, kp, kp2, kpS, if_true]
  cases ev m f x with
  | none => rfl
  | some a => simp only [on_some, k2]; cases ev m f y with
    | none => rfl
    | some b => simp only [on_some, k1]; cases binA T (isConst x || isConst y) op t a b <;> rfl
theorem aStep_unOp (op : UnOp) (t : TypeId) (x : Operand) : aStep P T m ⟨d, .unOp op t x, ty, p, af, g⟩ f S K = on (ev m f x) (k1 (unA op) (kp K f d S)) := by
  simp only [aStep, light, heavy, callA, k1, kp, kp2]
  cases ev m f x with
  | none => rfl
  | some v => simp only [on_some, k1, kL, kLP, kFn, kSl]; cases unA op v <;> rfl
theorem aStep_convert (s t : TypeId) (x : Operand) : aStep P T m ⟨d, .convert s t x, ty, p, af, g⟩ f S K = on (ev m f x) (k1 (convA T S s t) (kp K f d S)) := by
  simp only [aStep, light, heavy, callA, k1, kp, kp2]
  cases ev m f x with
  | none => rfl
  | some v => simp only [on_some, k1, kL, kLP, kFn, kSl]; cases convA T S s t v <;> rfl
theorem aStep_makeInterface (t : TypeId) (x : Operand) : aStep P T m ⟨d, .makeInterface t x, ty, p, af, g⟩ f S K = on (ev m f x) (k1 (ifaceA T t) (kp K f d S)) := by
  simp only [aStep, light, heavy, callA, k1, kp, kp2]
  cases ev m f x with
  | none => rfl
  | some v => simp only [on_some, k1, kL, kLP, kFn, kSl]; cases ifaceA T t v <;> rfl
theorem aStep_typeAssert (t a : TypeId) (x : Operand) (c : Bool) : aStep P T m ⟨d, .typeAssert x t a c, ty, p, af, g⟩ f S K = on (ev m f x) (k1 (assertA T a c) (kp K f d S)) := by
  simp only [aStep, light, heavy, callA, k1, kp, kp2]
  cases ev m f x with
  | none => rfl
  | some v => simp only [on_some, k1, kL, kLP, kFn, kSl]; cases assertA T a c v <;> rfl
theorem aStep_extract (x : Operand) (j : Nat) : aStep P T m ⟨d, .extract x j, ty, p, af, g⟩ f S K = on (ev m f x) (k1 (extractA j) (kp K f d S)) := by
  simp only [aStep, light, heavy, callA, k1, kp, kp2]
  cases ev m f x with
  | none => rfl
  | some v => simp only [on_some, k1, kL, kLP, kFn, kSl]; cases extractA j v <;> rfl
theorem aStep_fieldAddr (t : TypeId) (x : Operand) (j : Nat) : aStep P T m ⟨d, .fieldAddr t x j, ty, p, af, g⟩ f S K = on (ev m f x) (k1 (fieldA T t j) (kp K f d S)) := by
  simp only [aStep, light, heavy, callA, k1, kp, kp2]
  cases ev m f x with
  | none => rfl
  | some v => simp only [on_some, k1, kL, kLP, kFn, kSl]; cases fieldA T t j v <;> rfl
theorem aStep_field (t : TypeId) (x : Operand) (j : Nat) : aStep P T m ⟨d, .field t x j, ty, p, af, g⟩ f S K = on (ev m f x) (k1 (fieldV T t j) (kp K f d S)) := by
  simp only [aStep, light, heavy, callA, k1, kp, kp2]
  cases ev m f x with
  | none => rfl
  | some v => simp only [on_some, k1, kL, kLP, kFn, kSl]; cases fieldV T t j v <;> rfl
theorem aStep_indexAddr (t : TypeId) (x y : Operand) : aStep P T m ⟨d, .indexAddr t x y, ty, p, af, g⟩ f S K = on (ev m f x) (k2 (indexA T t) (ev m f y) (kp K f d S)) := by
  simp only [aStep, light, heavy, callA, callL, k2, k1, kp, kp2, kpS, if_true]
  cases ev m f x with
  | none => rfl
  | some a => simp only [on_some, k2]; cases ev m f y with
    | none => rfl
    | some b => simp only [on_some, k1]; cases indexA T t a b <;> rfl
theorem aStep_index (t : TypeId) (x y : Operand) : aStep P T m ⟨d, .index t x y, ty, p, af, g⟩ f S K = on (ev m f x) (k2 (indexV T t) (ev m f y) (kp K f d S)) := by
  simp only [aStep, light, heavy, callA, callL, k2, k1, kp, kp2, kpS, if_true]
  cases ev m f x with
  | none => rfl
  | some a => simp only [on_some, k2]; cases ev m f y with
    | none => rfl
    | some b => simp only [on_some, k1]; cases indexV T t a b <;> rfl
theorem aStep_build (t : TypeId) (ps : Array (Nat × Operand)) : aStep P T m ⟨d, .build t ps, ty, p, af, g⟩ f S K = on (evParts m f ps.toList) (kLP (buildA T t) (kp K f d S)) := by
  simp only [aStep, light, heavy, callA, kLP, kp]
  cases evParts m f ps.toList with
  | none => rfl
  | some v => simp only [on_some, k1, kL, kLP, kFn, kSl]; cases buildA T t v <;> rfl
theorem aStep_makeFunc (fn : Fn) (a b : Array Operand) : aStep P T m ⟨d, .makeFunc fn a b, ty, p, af, g⟩ f S K = on (evs m f a.toList) (kFn fn (evs m f b.toList) (kp K f d S)) := by
  simp only [aStep, light, heavy, callA, kFn, kFn2, kp]
  cases evs m f a.toList with
  | none => rfl
  | some v => simp only [on_some, k1, kL, kLP, kFn, kSl]; cases evs m f b.toList <;> rfl
theorem aStep_slice (t : TypeId) (x : Operand) (lo hi : Option Operand) : aStep P T m ⟨d, .slice t x lo hi none, ty, p, af, g⟩ f S K =
    on (ev m f x) (kSl T t (evO m f lo) (evO m f hi) (kp K f d S)) := by
  simp only [aStep, light, heavy, callA, kSl, kSl2, kSl3, kp]
  cases ev m f x with
  | none => rfl
  | some v => simp only [on_some, k1, kL, kLP, kFn, kSl]; cases evO m f lo with
    | none => rfl
    | some l => simp only [on_some, kSl2]; cases evO m f hi with
      | none => rfl
      | some h => simp only [on_some, kSl3]; cases sliceA T t v l h <;> rfl
theorem aStep_pick (c a b : Operand) : aStep P T m ⟨d, .pick c a b, ty, p, af, g⟩ f S K = on (ev m f c) (kPick (ev m f a) (ev m f b) (kp K f d S)) := by
  simp only [aStep, light, heavy, callA, kp]
  cases ev m f c with
  | none => rfl
  | some v =>
    simp only [on_some]
    cases v with
    | bool q =>
      cases q with
      | true => simp only [kPick_t]; cases ev m f a <;> rfl
      | false => simp only [kPick_f]; cases ev m f b <;> rfl
    | _ => rfl
theorem aStep_len (x : Operand) (t : TypeId) : aStep P T m ⟨d, .call ⟨.builtin .len, #[x], #[t]⟩, ty, p, af, g⟩ f S K = on (ev m f x) (k1 (lenA T t) (kp K f d S)) := by
  simp only [aStep, light, heavy, callA, callL, k1, kp]
  cases ev m f x with
  | none => rfl
  | some v => simp only [on_some, k1, kL, kLP, kFn, kSl]; cases lenA T t v <;> rfl
theorem aStep_max (xs : Array Operand) (ts : Array TypeId) : aStep P T m ⟨d, .call ⟨.builtin .max, xs, ts⟩, ty, p, af, g⟩ f S K = on (evs m f xs.toList) (kL maxA (kp K f d S)) := by
  simp only [aStep, light, heavy, callA, callL, kL, kp]
  cases evs m f xs.toList with
  | none => rfl
  | some v => simp only [on_some, k1, kL, kLP, kFn, kSl]; cases maxA v <;> rfl
theorem aStep_min (xs : Array Operand) (ts : Array TypeId) : aStep P T m ⟨d, .call ⟨.builtin .min, xs, ts⟩, ty, p, af, g⟩ f S K = on (evs m f xs.toList) (kL minA (kp K f d S)) := by
  simp only [aStep, light, heavy, callA, callL, kL, kp]
  cases evs m f xs.toList with
  | none => rfl
  | some v => simp only [on_some, k1, kL, kLP, kFn, kSl]; cases minA v <;> rfl
theorem aStep_alloc (e : TypeId) : aStep P T m ⟨d, .alloc e, ty, p, af, g⟩ f S K = on (allocA T S e) (kp2 K f d) := by
  simp only [aStep, light, heavy, callA]
  cases allocA T S e <;> rfl
theorem aStep_box (e : TypeId) (x : Operand) : aStep P T m ⟨d, .box e x, ty, p, af, g⟩ f S K = on (ev m f x) (k1 (boxA S e) (kp2 K f d)) := by
  simp only [aStep, light, heavy, callA, k1, kp, kp2]
  cases ev m f x with
  | none => rfl
  | some v => simp only [on_some, k1, kL, kLP, kFn, kSl]; cases boxA S e v <;> rfl
theorem aStep_store (t : TypeId) (x y : Operand) : aStep P T m ⟨d, .store t x y, ty, p, af, g⟩ f S K = on (ev m f x) (k2 (storeA T S t) (ev m f y) (kpS K f d)) := by
  simp only [aStep, light, heavy, callA, callL, k2, k1, kp, kp2, kpS, if_true]
  cases ev m f x with
  | none => rfl
  | some a => simp only [on_some, k2]; cases ev m f y with
    | none => rfl
    | some b => simp only [on_some, k1]; cases storeA T S t a b <;> rfl
theorem aStep_buildSlice (t : TypeId) (n : Nat) (ps : Array (Nat × Operand)) : aStep P T m ⟨d, .buildSlice t n ps, ty, p, af, g⟩ f S K = on (evParts m f ps.toList) (kLP (buildSliceA T S t n) (kp2 K f d)) := by
  simp only [aStep, light, heavy, callA, kLP, kp2]
  cases evParts m f ps.toList with
  | none => rfl
  | some v => simp only [on_some, k1, kL, kLP, kFn, kSl]; cases buildSliceA T S t n v <;> rfl
theorem aStep_makeSlice (t : TypeId) (x y : Operand) : aStep P T m ⟨d, .makeSlice t x y, ty, p, af, g⟩ f S K = on (ev m f x) (k2 (makeA T S t) (ev m f y) (kp2 K f d)) := by
  simp only [aStep, light, heavy, callA, callL, k2, k1, kp, kp2, kpS, if_true]
  cases ev m f x with
  | none => rfl
  | some a => simp only [on_some, k2]; cases ev m f y with
    | none => rfl
    | some b => simp only [on_some, k1]; cases makeA T S t a b <;> rfl
theorem aStep_append (x y : Operand) (t : TypeId) : aStep P T m ⟨d, .call ⟨.builtin .append, #[x, y], #[t, t]⟩, ty, p, af, g⟩ f S K = on (ev m f x) (k2 (appendA T S t) (ev m f y) (kp2 K f d)) := by
  simp only [aStep, light, heavy, callA, callL, k2, k1, kp, kp2, kpS, if_true]
  cases ev m f x with
  | none => rfl
  | some a => simp only [on_some, k2]; cases ev m f y with
    | none => rfl
    | some b => simp only [on_some, k1]; cases appendA T S t a b <;> rfl
theorem aStep_call (x : Operand) (xs : Array Operand) (ts : Array TypeId) : aStep P T m ⟨d, .call ⟨.value x, xs, ts⟩, ty, p, af, g⟩ f S K = on (ev m f x) (kC P (evs m f xs.toList) S (kr K f d)) := by
  simp only [aStep, light, heavy, callA, callL]
  cases ev m f x with
  | none => rfl
  | some v =>
    simp only [on_some]
    cases v with
    | func fn a b =>
      cases fn with
      | func h => simp only [kC_f]; cases evs m f xs.toList <;> rfl
      | _ => rfl
    | _ => rfl

theorem aOp_plain (ops : Array Oper) (o : Op) : aOp P T m ops ⟨d, o, ty, p, af, none⟩ f S K = aStep P T m ⟨d, o, ty, p, af, none⟩ f S K := rfl
theorem aOp_guard (ops : Array Oper) (o : Op) (j : Nat) (b : Bool) : aOp P T m ops ⟨d, o, ty, p, af, some (j, b)⟩ f S K =
    match wantedA ops m f ⟨d, o, ty, p, af, some (j, b)⟩ with
    | some true => aStep P T m ⟨d, o, ty, p, af, some (j, b)⟩ f S K
    | some false => K (putF f d undef) S
    | none => False := rfl
theorem aList_cons (ops : Array Oper) (o : Oper) (l : List Oper) : aList P T m ops K (o :: l) f S = aOp P T m ops o f S (aList P T m ops K l) := rfl
theorem aList_nil (ops : Array Oper) : aList P T m ops K [] f S = K f S := rfl
end

/-! a store's objects -/
theorem at_new (S : St) (x : AObj) (R : List AObj) : (S ++ x :: R)[S.length]? = some x := by simp
theorem at_new1 (S : St) (x : AObj) (R : List AObj) (k : Nat) : (S ++ x :: R)[S.length + (k + 1)]? = R[k]? := by
  rw [List.getElem?_append_right (by omega)]
  have : S.length + (k + 1) - S.length = k + 1 := by omega
  rw [this]
  rfl
theorem at_old {S : St} {o : Nat} {x : AObj} (h : S[o]? = some x) (R : List AObj) : (S ++ R)[o]? = some x := by
  rw [List.getElem?_append_left (List.getElem?_eq_some_iff.1 h).1]
  exact h
theorem set_new (S : St) (x y : AObj) (R : List AObj) : (S ++ x :: R).set S.length y = S ++ y :: R := by simp
theorem set_new1 (S : St) (x y : AObj) (R : List AObj) (k : Nat) : (S ++ x :: R).set (S.length + (k + 1)) y = S ++ x :: R.set k y := by
  rw [List.set_append_right _ _ (by omega)]
  have : S.length + (k + 1) - S.length = k + 1 := by omega
  rw [this]
  rfl
theorem snoc_snoc (S R : St) (x : AObj) : (S ++ R) ++ [x] = S ++ (R ++ [x]) := List.append_assoc _ _ _

section
variable {P : Program} {T : Tab} {m n : Nat} {Q : Exit → Fr → St → Prop} {f : Fr} {S : St}
theorem AWp.seq_region (ok : TabOk P T) {id : Nat} {l : List Oper} {y : Code} (h : ∀ K : Fr → St → Prop, (∀ f S, AWp P m n y Q f S → K f S) → aList P T m l.toArray K l f S) :
    AWp P m n (.seq (.region id l.toArray false) y) Q f S := .seq (.region ok (h _ fun _ _ q => q))
theorem AWp.regionK (ok : TabOk P T) {id : Nat} {l : List Oper} (h : ∀ K : Fr → St → Prop, (∀ f S, Q .normal f S → K f S) → aList P T m l.toArray K l f S) :
    AWp P m n (.region id l.toArray false) Q f S := .region ok (h _ fun _ _ q => q)
theorem AWp.seqK {x y : Code} (h : ∀ K : Fr → St → Prop, (∀ f S, AWp P m n y Q f S → K f S) → AWp P m n x (ThenA K Q) f S) : AWp P m n (.seq x y) Q f S := .seq (h _ fun _ _ q => q)
end
end Go.Ab
