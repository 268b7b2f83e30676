/- Slices that begin as nil and grow by appending: one form for both; and objects of which nothing is known. -/
import Derived.Test.YtpgiiidnimbdgaaAbV
namespace Go.Ab
open Go.RowKit
set_option linter.unusedVariables false
set_option linter.unusedSimpArgs false

/-- A slice of n elements of s cells in object o; nil while it has none. -/
def growV (o n s : Nat) : Value := if n = 0 then .slice none 0 0 else .slice (some ⟨o, 0, none⟩) n s
/-- Its row; nothing while it has none. -/
def growR (e : TypeId) (cs : List Value) : AObj := if cs = [] then .dead else .row e true cs

theorem growV_zero (o s : Nat) : growV o 0 s = .slice none 0 0 := rfl
theorem growV_pos {o n s : Nat} (h : 0 < n) : growV o n s = .slice (some ⟨o, 0, none⟩) n s := by unfold growV; rw [if_neg (by omega)]
theorem growR_nil (e : TypeId) : growR e [] = .dead := rfl
theorem growR_pos {e : TypeId} {cs : List Value} (h : cs ≠ []) : growR e cs = .row e true cs := by unfold growR; rw [if_neg h]
theorem solid_grow (o n s : Nat) : solid (growV o n s) = true := by unfold growV; split <;> rfl
theorem cells_grow (o n s : Nat) : (growV o n s).cells = #[growV o n s] := by unfold growV; split <;> rfl

theorem Ren.grow {keep : List Nat} {o j : Nat} (h : keep[j]? = some o) (n s : Nat) : Ren keep (growV o n s) (growV j n s) := by
  unfold growV
  split
  · exact .const _ rfl
  · exact .slice _ _ _ _ _ h
theorem Closed.grow {k o : Nat} (h : o < k) (n s : Nat) : Closed k (growV o n s) := by
  unfold growV
  split
  · exact .const _ rfl
  · exact .slice _ _ _ _ h
theorem RowCl.grow {n : Nat} {e : TypeId} {cs : List Value} (h : ∀ v ∈ cs, Closed n v) : RowCl n (growR e cs) := by
  unfold growR
  split
  · exact True.intro
  · exact h

theorem lenA_grow {T : Tab} {t e : TypeId} {a b : Nat} {z : Value} (ht : T t = some ⟨.slice e, a, z, b⟩) (o n s : Nat) : lenA T t (growV o n s) = some (.int .i64 n) := by
  rcases Nat.eq_zero_or_pos n with rfl | hn
  · rw [growV_zero]; unfold lenA; rw [ht]; rfl
  · rw [growV_pos hn]; unfold lenA; rw [ht]

/-- Appending to a growing slice. -/
theorem appendA_grow {T : Tab} {S : St} {t e : TypeId} {i : TI} {a b : Nat} {z x : Value} {o n s m : Nat} {cs news : List Value} (ht : T t = some ⟨.slice e, a, z, b⟩) (he : T e = some i) (hi : i.size = s) (h0 : s ≠ 0) (hz : i.zero.cells.size = s)
    (hS : S[o]? = some (growR e cs)) (hl : cs.length = n * s) (hx : cellsA S s x = some (m, news)) (hm : m ≠ 0) (hb : (n + m) * i.bytes ≤ 140737488355328) (hb2 : n + m ≤ 9223372036854775807) :
    appendA T S t (growV o n s) x = some (.slice (some ⟨S.length, 0, none⟩) (n + m) s, S.set o .dead ++ [.row e true (cs ++ news)]) := by
  have go : ∀ v, appendA T S t v x = match v with
        | .slice none 0 0 =>
          if m * i.bytes ≤ 140737488355328 ∧ m ≤ 9223372036854775807 then
            if m = 0 then some (.slice none 0 0, S) else some (.slice (some ⟨S.length, 0, none⟩) m s, S ++ [.row e true news])
          else none
        | .slice (some ⟨o, 0, none⟩) n s' =>
          match S[o]? with
          | some (.row e' true cs) =>
            if e' = e ∧ s' = s ∧ n * s ≤ cs.length ∧ (n + m) * i.bytes ≤ 140737488355328 ∧ n + m ≤ 9223372036854775807 then
              some (.slice (some ⟨S.length, 0, none⟩) (n + m) s, S.set o .dead ++ [.row e true (cs.take (n * s) ++ news)])
            else none
          | _ => none
        | _ => none := by
    intro v
    unfold appendA
    rw [ht]
    dsimp only
    rw [he]
    dsimp only
    rw [if_neg (by rw [hi, hz]; omega), hi, hx]
    rfl
  rcases Nat.eq_zero_or_pos n with hn | hn
  · subst hn
    have hc : cs = [] := List.eq_nil_of_length_eq_zero (by omega)
    subst hc
    rw [growV_zero, go]
    show (if m * i.bytes ≤ 140737488355328 ∧ m ≤ 9223372036854775807 then (if m = 0 then some (Value.slice none 0 0, S) else some (Value.slice (some ⟨S.length, 0, none⟩) m s, S ++ [AObj.row e true news])) else none) = _
    rw [if_pos ⟨by simpa using hb, by simpa using hb2⟩, if_neg hm]
    have : S.set o AObj.dead = S := by
      refine List.ext_getElem? fun j => ?_
      by_cases hj : o = j
      · subst hj
        rw [List.getElem?_set_self (List.getElem?_eq_some_iff.1 hS).1, hS, growR_nil]
      · rw [List.getElem?_set_ne hj]
    rw [this, Nat.zero_add, List.nil_append]
  · have hc : cs ≠ [] := by
      rintro rfl
      have := Nat.mul_pos hn (Nat.pos_of_ne_zero h0)
      simp at hl
      omega
    rw [growV_pos hn, go]
    show (match S[o]? with
          | some (.row e' true cs) =>
            if e' = e ∧ s = s ∧ n * s ≤ cs.length ∧ (n + m) * i.bytes ≤ 140737488355328 ∧ n + m ≤ 9223372036854775807 then
              some (Value.slice (some ⟨S.length, 0, none⟩) (n + m) s, S.set o AObj.dead ++ [AObj.row e true (cs.take (n * s) ++ news)])
            else none
          | _ => none) = _
    rw [hS, growR_pos hc]
    show (if e = e ∧ s = s ∧ n * s ≤ cs.length ∧ (n + m) * i.bytes ≤ 140737488355328 ∧ n + m ≤ 9223372036854775807 then
              some (Value.slice (some ⟨S.length, 0, none⟩) (n + m) s, S.set o AObj.dead ++ [AObj.row e true (cs.take (n * s) ++ news)])
            else none) = _
    rw [if_pos ⟨rfl, rfl, by omega, hb, hb2⟩, ← hl, List.take_length]

theorem Wk.refl {m n : Nat} {f : Fr} {S : St} : Wk m n f S f S := fun σ base w0 w tmps hn hs hr => ⟨σ, List.take_prefix _ _, hn, hs, hr⟩
theorem Wk.trans {m n : Nat} {f f' f'' : Fr} {S S' S'' : St} (h : Wk m n f S f' S') (h' : Wk m n f' S' f'' S'') : Wk m n f S f'' S'' := by
  intro σ base w0 w tmps hn hs hr
  obtain ⟨σ1, h1, h2, h3, h4⟩ := h σ base w0 w tmps hn hs hr
  obtain ⟨σ2, g1, g2, g3, g4⟩ := h' σ1 base w0 w tmps h2 h3 h4
  have e := take_of_prefix h1 (by rw [hs.len]; exact hn)
  exact ⟨σ2, by rw [e]; exact g1, g2, g3, g4⟩

theorem Sim.dead {σ : Sg} {S : St} {base : Nat} {w0 w : World} (h : Sim σ S base w0 w) : Sim (σ ++ [⟨0, 0, none⟩]) (S ++ [.dead]) base w0 w where
  len := by simp [h.len]
  below := h.below
  size := h.size
  cell := fun o l ty rw cs h1 hl i v hv => by
    rcases get_snoc h1 with ⟨q1, q2⟩ | ⟨_, q1⟩
    · rw [List.getElem?_append_left (by rw [h.len]; exact q2)] at hl
      obtain ⟨v', a, r, c⟩ := h.cell o l ty rw cs q1 hl i v hv
      exact ⟨v', a, r.mono (List.prefix_append _ _), c⟩
    · cases q1
  own := fun o l ty cs h1 hl => by
    rcases get_snoc h1 with ⟨q1, q2⟩ | ⟨_, q1⟩
    · rw [List.getElem?_append_left (by rw [h.len]; exact q2)] at hl
      exact h.own o l ty cs q1 hl
    · cases q1
  apart := fun o o' l l' ty cs ty' rw' cs' hne hh h1 h1' hl hl' => by
    rcases get_snoc h1 with ⟨q1, q2⟩ | ⟨_, q1⟩
    · rcases get_snoc h1' with ⟨p1, p2⟩ | ⟨_, p1⟩
      · rw [List.getElem?_append_left (by rw [h.len]; exact q2)] at hl
        rw [List.getElem?_append_left (by rw [h.len]; exact p2)] at hl'
        exact h.apart o o' l l' ty cs ty' rw' cs' hne hh q1 p1 hl hl'
      · cases p1
    · cases q1

/-- One object more, of which nothing is known. -/
theorem Wk.dead {m n : Nat} {f : Fr} {S : St} : Wk m n f S f (S ++ [.dead]) := by
  intro σ base w0 w tmps hn hs hr
  refine ⟨σ ++ [⟨0, 0, none⟩], (List.take_prefix _ _).trans (List.prefix_append _ _), by simp; omega, hs.dead, hr.mono (List.prefix_append _ _)⟩
theorem Wk.addDead {m n : Nat} {f f' : Fr} {S S' : St} (h : Wk m n f (S ++ [.dead]) f' S') : Wk m n f S f' S' := Wk.dead.trans h

theorem WkR.dead {n : Nat} {r : Value} {S : St} : WkR n r S r (S ++ [.dead]) := by
  intro σ base w0 w c hn hs hr
  exact ⟨σ ++ [⟨0, 0, none⟩], (List.take_prefix _ _).trans (List.prefix_append _ _), hs.dead, hr.mono (List.prefix_append _ _)⟩

/-- Of the later objects those of K are kept; a row may lead to what is kept. -/
theorem Wk.keepR {m : Nat} {f : Fr} {S0 R R' : St} (hc : ClosedSt S0.length S0) (K : List Nat) (hl : R'.length = K.length) (hnd : K.Nodup) (hlt : ∀ k ∈ K, k < R.length)
    (hR : ∀ (j k : Nat) x y, K[j]? = some k → R[k]? = some x → R'[j]? = some y → RowRen (keepOf S0.length K) x y)
    {l : List (Nat × Value)} (hf : ∀ p ∈ l, Ren (keepOf S0.length K) (f p.1) p.2) : Wk m S0.length f (S0 ++ R) (frL l) (S0 ++ R') := Wk.tidy hc K hl hnd hlt hR hf
theorem WkR.keepR {S0 R R' : St} (hc : ClosedSt S0.length S0) (K : List Nat) (hl : R'.length = K.length) (hnd : K.Nodup) (hlt : ∀ k ∈ K, k < R.length)
    (hR : ∀ (j k : Nat) x y, K[j]? = some k → R[k]? = some x → R'[j]? = some y → RowRen (keepOf S0.length K) x y)
    {r r' : Value} (hf : Ren (keepOf S0.length K) r r') : WkR S0.length r (S0 ++ R) r' (S0 ++ R') :=
  WkR.of _ (fun o ho => keepOf_lt o ho) (RenSt.of hc hl hnd hlt hR) hf

theorem le_more {A B S : St} (R : St) (h : A ++ R = B) : Le (S ++ A) (S ++ B) = True := eq_true (by
  subst h
  have := Le.append (S ++ A) R
  rwa [List.append_assoc] at this)

/-- Value by value. -/
def AllRen (keep : List Nat) : List Value → List Value → Prop
  | [], [] => True
  | u :: us, v :: vs => Ren keep u v ∧ AllRen keep us vs
  | _, _ => False
theorem AllRen.get {keep : List Nat} : ∀ {us vs : List Value}, AllRen keep us vs → us.length = vs.length ∧ ∀ (i : Nat) u v, us[i]? = some u → vs[i]? = some v → Ren keep u v
  | [], [], _ => ⟨rfl, fun i u v h => by simp at h⟩
  | u :: us, v :: vs, ⟨h1, h2⟩ => by
    obtain ⟨h3, h4⟩ := AllRen.get h2
    refine ⟨by simp [h3], fun i a b ha hb => ?_⟩
    cases i with
    | zero => simp at ha hb; subst ha; subst hb; exact h1
    | succ i => exact h4 i a b (by simpa using ha) (by simpa using hb)
  | [], _ :: _, h => h.elim
  | _ :: _, [], h => h.elim
theorem Ren.aggL {keep : List Nat} {us vs : List Value} (h : AllRen keep us vs) : Ren keep (.agg us.toArray) (.agg vs.toArray) :=
  .agg _ _ (by simpa using h.get.1) fun i u v h1 h2 => h.get.2 i u v (by simpa using h1) (by simpa using h2)
theorem Ren.tupL {keep : List Nat} {us vs : List Value} (h : AllRen keep us vs) : Ren keep (.tuple us.toArray) (.tuple vs.toArray) :=
  .tuple _ _ (by simpa using h.get.1) fun i u v h1 h2 => h.get.2 i u v (by simpa using h1) (by simpa using h2)
theorem Closed.aggL {n : Nat} {us : List Value} (h : ∀ v ∈ us, Closed n v) : Closed n (.agg us.toArray) := .agg _ fun i v hv => h v (List.mem_of_getElem? (by simpa using hv))
theorem Closed.tupL {n : Nat} {us : List Value} (h : ∀ v ∈ us, Closed n v) : Closed n (.tuple us.toArray) := .tuple _ fun i v hv => h v (List.mem_of_getElem? (by simpa using hv))
/-- A row, value by value. -/
theorem RowRen.all {keep : List Nat} {ty : TypeId} {rw : Bool} {us vs : List Value} (h : AllRen keep us vs) : RowRen keep (.row ty rw us) (.row ty rw vs) :=
  ⟨us, rfl, fun i v hv => by
    have hl := (List.getElem?_eq_some_iff.1 hv).1
    rw [← h.get.1] at hl
    exact ⟨_, List.getElem?_eq_getElem hl, h.get.2 i _ v (List.getElem?_eq_getElem hl) hv⟩⟩
theorem AllRen.cl {n : Nat} {K : List Nat} : ∀ {us : List Value}, (∀ v ∈ us, Closed n v) → AllRen (keepOf n K) us us
  | [], _ => True.intro
  | u :: us, h => ⟨Ren.cl (h u (by simp)), AllRen.cl fun v hv => h v (by simp [hv])⟩
theorem AllRen.append {keep : List Nat} : ∀ {us vs us' vs' : List Value}, AllRen keep us vs → AllRen keep us' vs' → AllRen keep (us ++ us') (vs ++ vs')
  | [], [], _, _, _, h' => h'
  | u :: us, v :: vs, _, _, ⟨h1, h2⟩, h' => ⟨h1, AllRen.append h2 h'⟩
  | [], _ :: _, _, _, h, _ => h.elim
  | _ :: _, [], _, _, h, _ => h.elim

theorem Closed.mono {n n' : Nat} (h : n ≤ n') {v : Value} (hv : Closed n v) : Closed n' v := by
  induction hv with
  | top => exact .top
  | const v h => exact .const v h
  | ptr o i ho => exact .ptr o i (by omega)
  | slice o i k s ho => exact .slice o i k s (by omega)
  | iface T v _ ih => exact .iface T v ih
  | agg cs _ ih => exact .agg cs ih
  | tuple cs _ ih => exact .tuple cs ih
  | func fn cs ds _ _ ih ih2 => exact .func fn cs ds ih ih2
theorem ClosedSt.more {S0 R : St} (hc : ClosedSt S0.length S0) {n : Nat} (hn : S0.length + R.length = n) (hR : ∀ x ∈ R, RowCl n x) : ClosedSt n (S0 ++ R) := by
  intro o ty rw cs hS v hv
  rcases Nat.lt_or_ge o S0.length with ho | ho
  · rw [List.getElem?_append_left ho] at hS
    exact (hc o ty rw cs hS v hv).mono (by omega)
  · rw [List.getElem?_append_right ho] at hS
    exact hR _ (List.mem_of_getElem? hS) v hv
/-- The last objects are forgotten. -/
theorem Wk.drop {m : Nat} {f : Fr} {S0 R R2 : St} (hc : ClosedSt S0.length S0) {k : Nat} (hk : R.length = k) (hR : ∀ x ∈ R, RowCl (S0.length + k) x) {l : List (Nat × Value)} (hf : ∀ p ∈ l, f p.1 = p.2 ∧ Closed (S0.length + k) p.2) :
    Wk m S0.length f (S0 ++ (R ++ R2)) (frL l) (S0 ++ R) := by
  subst hk
  have hcl := hc.more rfl hR
  have hget : ∀ o, o < S0.length + R.length → (List.range (S0.length + R.length))[o]? = some o := fun o ho => by simp [ho]
  refine Wk.of (List.range (S0.length + R.length)) (fun o ho => hget o (by omega)) ⟨by simp, List.nodup_range, fun o ho => ?_, fun j ty rw cs hS => ?_⟩ (frL_ren fun p hp => ?_)
  · have := List.mem_range.1 ho
    simp
    omega
  · have hj : j < S0.length + R.length := by have := (List.getElem?_eq_some_iff.1 hS).1; simpa using this
    refine ⟨j, cs, hget j hj, ?_, fun i v hv => ⟨v, hv, Ren.closed hget (hcl j ty rw cs hS v (List.mem_of_getElem? hv))⟩⟩
    rw [← List.append_assoc, List.getElem?_append_left (by simpa using hj)]
    exact hS
  · obtain ⟨h1, h2⟩ := hf p hp
    rw [h1]
    exact Ren.closed hget h2
end Go.Ab
