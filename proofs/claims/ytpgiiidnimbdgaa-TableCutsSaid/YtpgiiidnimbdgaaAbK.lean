/- Weakest conditions over abstract frames and stores: a call, an operation, a region in order, and the shapes of code; for any program whose types stand in a table. -/
import Derived.Test.YtpgiiidnimbdgaaAbJ
import Derived.Orders
import Derived.Deep.LoopGhost
namespace Go.Ab
open Go.RowKit
set_option linter.unusedVariables false
set_option linter.unusedSimpArgs false

abbrev Fr := Nat → Value
def upd (f : Fr) (d : Nat) (v : Value) : Fr := fun i => if i = d then v else f i
def putF (f : Fr) (dst : Option Nat) (v : Value) : Fr := match dst with
  | none => f
  | some d => upd f d v
theorem upd_apply (f : Fr) (d : Nat) (v : Value) (i : Nat) : upd f d v i = if i = d then v else f i := rfl

theorem FRep.put {σ : Sg} {m : Nat} {f : Fr} {tmps : Array Value} (h : FRep σ m f tmps) (dst : Option Nat) {v c : Value} (hv : Rep σ v c) (ds : List Deferred) :
    ∃ tmps', Act.put ⟨tmps, ds⟩ dst c = ⟨tmps', ds⟩ ∧ FRep σ m (putF f dst v) tmps' := by
  cases dst with
  | none => exact ⟨tmps, rfl, h⟩
  | some d =>
    refine ⟨tmps.setIfInBounds d c, rfl, ⟨by simp [h.size], fun i hi => ?_⟩⟩
    simp only [putF, upd]
    by_cases hd : i = d
    · subst hd
      rw [if_pos rfl]
      have : i < tmps.size := by rw [h.size]; exact hi
      simp [this, hv]
    · rw [if_neg hd]
      have := h.at_ i hi
      simpa [Array.getElem?_setIfInBounds_ne (Ne.symm hd)] using this

/-- A call: it comes to an end, and hands back. -/
def ACalls (P : Program) (g : FuncId) (args : List Value) (S : St) (Q : Value → St → Prop) : Prop :=
  (∀ cargs w, (callFunc g cargs).run P w = .ok (.enter g cargs) w) ∧
  ∀ (σ : Sg) (base : Nat) (w0 w : World) (cargs : Array Value), Sim σ S base w0 w → ArgsRep σ args cargs →
    Calls P g cargs w (fun e w' => ∃ c r S' σ', e = .returned c ∧ Q r S' ∧ σ <+: σ' ∧ Rep σ' r c ∧ Sim σ' S' base w0 w')

theorem ACalls.mono {P : Program} {g : FuncId} {args : List Value} {S : St} {Q Q' : Value → St → Prop} (h : ACalls P g args S Q) (hq : ∀ r S', Q r S' → Q' r S') : ACalls P g args S Q' :=
  ⟨h.1, fun σ base w0 w cargs hs ha => (h.2 σ base w0 w cargs hs ha).mono fun e w' ⟨c, r, S', σ', h1, h2, h3⟩ => ⟨c, r, S', σ', h1, hq _ _ h2, h3⟩⟩

/-- One operation. -/
def aStep (P : Program) (T : Tab) (m : Nat) (o : Oper) (f : Fr) (S : St) (K : Fr → St → Prop) : Prop :=
  match light T m f S o.op with
  | some v => K (putF f o.dst v) S
  | none => match heavy T m f S o.op with
    | some (v, S') => K (putF f o.dst v) S'
    | none => match callA m f o.op with
      | some (g, args) => ACalls P g args S (fun r S' => K (putF f o.dst r) S')
      | none => False

theorem aStep_mono {P : Program} {T : Tab} {m : Nat} {o : Oper} {f : Fr} {S : St} {K K' : Fr → St → Prop} (h : aStep P T m o f S K) (hK : ∀ f' S', K f' S' → K' f' S') : aStep P T m o f S K' := by
  unfold aStep at *
  split at h
  · exact hK _ _ h
  · split at h
    · exact hK _ _ h
    · split at h
      · exact h.mono fun r S' q => hK _ _ q
      · exact h

/-- Is it wanted? -/
def wantedA (ops : Array Oper) (m : Nat) (f : Fr) (o : Oper) : Option Bool :=
  match o.guard with
  | none => some true
  | some (j, want) => match (ops[j]?).bind (·.dst) with
    | none => some false
    | some d => if d < m then match f d with
      | .bool b => some (b == want)
      | .tuple _ => some false
      | _ => none
      else none

theorem wantedA_sound {σ : Sg} {m : Nat} {f : Fr} {tmps : Array Value} (hf : FRep σ m f tmps) {ops : Array Oper} {o : Oper} {b : Bool} (h : wantedA ops m f o = some b) : Region.wanted o (yielded ops tmps) = b := by
  unfold wantedA at h
  unfold Region.wanted yielded
  split at h
  · rename_i hg; rw [hg]; injection h
  · rename_i j want hg
    rw [hg]
    split at h
    · rename_i hd
      simp only [hd, Option.bind_none]
      injection h
    · rename_i d hd
      simp only [hd, Option.bind_some]
      split at h
      · rename_i hdm
        have hr := hf.at_ d hdm
        have hlt : d < tmps.size := by rw [hf.size]; exact hdm
        have hget : tmps.getD d undef = tmps[d] := by simp [hlt]
        rw [hget] at hr
        rw [Array.getElem?_eq_getElem hlt]
        split at h
        · rename_i b' hb
          injection h with h
          subst h
          rw [hb] at hr
          rw [hr.bool_]
          simp
        · rename_i cs hb
          injection h with h
          subst h
          rw [hb] at hr
          obtain ⟨cs', hc, _⟩ := hr.tuple_
          rw [hc]
          rfl
        · cases h
      · cases h

/-- What the program's part takes on. -/
def Onw (σ : Sg) (base : Nat) (w0 : World) (m : Nat) (K : Fr → St → Prop) (K' : Act → World → Prop) : Prop :=
  ∀ (f' : Fr) (S' : St) (σ' : Sg) (tmps' : Array Value) (w' : World), σ <+: σ' → Sim σ' S' base w0 w' → FRep σ' m f' tmps' → K f' S' → K' ⟨tmps', []⟩ w'

theorem Onw.later {σ σ1 : Sg} {base : Nat} {w0 : World} {m : Nat} {K : Fr → St → Prop} {K' : Act → World → Prop} (h : Onw σ base w0 m K K') (hσ : σ <+: σ1) : Onw σ1 base w0 m K K' :=
  fun f' S' σ' tmps' w' h1 => h f' S' σ' tmps' w' (hσ.trans h1)

section
variable {P : Program} {T : Tab} {σ : Sg} {S : St} {base : Nat} {w0 w : World} {m : Nat} {f : Fr} {tmps : Array Value} {o : Oper} {K : Fr → St → Prop} {K' : Act → World → Prop} {Q' : Exit → Act → World → Prop}

theorem aStep_sound (ok : TabOk P T) (hs : Sim σ S base w0 w) (hf : FRep σ m f tmps) (h : aStep P T m o f S K) (hK : Onw σ base w0 m K K') : o.wp P ⟨tmps, []⟩ w K' Q' := by
  unfold aStep at h
  split at h
  · rename_i v hv
    obtain ⟨v', h1, h2⟩ := light_sound (d := []) ok hs hf hv
    obtain ⟨tmps', q1, q2⟩ := hf.put o.dst h2 []
    unfold Oper.wp
    rw [h1, Oper.upon_value, q1]
    exact hK _ _ _ _ _ (List.prefix_refl _) hs q2 h
  · split at h
    · rename_i v S' hv
      obtain ⟨nx, w', σ', h1, h2, h3, h4⟩ := heavy_sound (d := []) ok hs hf hv
      unfold Oper.wp
      rw [h1]
      rcases h2 with ⟨v', rfl, hr⟩ | ⟨rfl, rfl⟩
      · obtain ⟨tmps', q1, q2⟩ := (hf.mono h3).put o.dst hr []
        rw [Oper.upon_value, q1]
        exact hK _ _ _ _ _ h3 h4 q2 h
      · obtain ⟨tmps', q1, q2⟩ := (hf.mono h3).put o.dst (v := undef) (c := undef) (.tuple #[] #[] rfl (fun i v v' h1 => by simp at h1)) []
        rw [Oper.upon_skip, q1]
        exact hK _ _ _ _ _ h3 h4 q2 h
    · split at h
      · rename_i g args hc
        obtain ⟨cargs, h1, h2⟩ := callA_sound (P := P) (d := []) hf hc w
        unfold Oper.wp
        rw [h1, h.1 cargs w, Oper.upon_enter]
        refine (h.2 σ base w0 w cargs hs h2).mono fun e w' ⟨c, r, S', σ', e1, e2, e3, e4, e5⟩ => ?_
        subst e1
        obtain ⟨tmps', q1, q2⟩ := (hf.mono e3).put o.dst e4 []
        simp only [q1]
        exact hK _ _ _ _ _ e3 e5 q2 e2
      · exact h.elim

/-- One operation of a region. -/
def aOp (P : Program) (T : Tab) (m : Nat) (ops : Array Oper) (o : Oper) (f : Fr) (S : St) (K : Fr → St → Prop) : Prop :=
  match wantedA ops m f o with
  | some true => aStep P T m o f S K
  | some false => K (putF f o.dst undef) S
  | none => False

theorem undef_rep (σ : Sg) : Rep σ undef undef := .tuple #[] #[] rfl (fun i v v' h1 => by simp at h1)

theorem aOp_sound (ok : TabOk P T) {ops : Array Oper} (hs : Sim σ S base w0 w) (hf : FRep σ m f tmps) (h : aOp P T m ops o f S K) (hK : Onw σ base w0 m K K') :
    if Region.wanted o (yielded ops tmps) then o.wp P ⟨tmps, []⟩ w K' Q' else K' (Act.put ⟨tmps, []⟩ o.dst undef) w := by
  unfold aOp at h
  split at h
  · rename_i hw
    rw [if_pos (wantedA_sound hf hw)]
    exact aStep_sound ok hs hf h hK
  · rename_i hw
    rw [if_neg (by rw [wantedA_sound hf hw]; simp)]
    obtain ⟨tmps', q1, q2⟩ := hf.put o.dst (undef_rep σ) []
    rw [q1]
    exact hK _ _ _ _ _ (List.prefix_refl _) hs q2 h
  · exact h.elim

/-- A region's operations, in order. -/
def aList (P : Program) (T : Tab) (m : Nat) (ops : Array Oper) (K : Fr → St → Prop) : List Oper → Fr → St → Prop
  | [], f, S => K f S
  | o :: rest, f, S => aOp P T m ops o f S (aList P T m ops K rest)

theorem aList_sound (ok : TabOk P T) {ops : Array Oper} : ∀ (l : List Oper) (f : Fr) (S : St) (σ : Sg) (tmps : Array Value) (w : World), Sim σ S base w0 w → FRep σ m f tmps → aList P T m ops K l f S →
    Onw σ base w0 m K (fun a w => Q' .normal a w) → wpList P ops Q' l ⟨tmps, []⟩ w
  | [], f, S, σ, tmps, w, hs, hf, h, hK => hK _ _ _ _ _ (List.prefix_refl _) hs hf h
  | o :: rest, f, S, σ, tmps, w, hs, hf, h, hK => by
    refine wpList_step fun K1 hK1 => aOp_sound ok hs hf h (fun f' S' σ' tmps' w' h1 h2 h3 h4 => hK1 _ _ (aList_sound ok rest f' S' σ' tmps' w' h2 h3 h4 (hK.later h1)))

end

/-- What holds behind. 'n': so many objects stay where they are. -/
def Lift (σ : Sg) (n base : Nat) (w0 : World) (m : Nat) (Q : Exit → Fr → St → Prop) : Exit → Act → World → Prop := fun e a w' =>
  a.defers = [] ∧ ∃ (f : Fr) (S : St) (σ' : Sg), σ.take n <+: σ' ∧ n ≤ S.length ∧ Sim σ' S base w0 w' ∧ FRep σ' m f a.tmps ∧ Q e f S

def AWp (P : Program) (m n : Nat) (c : Code) (Q : Exit → Fr → St → Prop) (f : Fr) (S : St) : Prop :=
  ∀ (σ : Sg) (base : Nat) (w0 w : World) (tmps : Array Value), n ≤ S.length → Sim σ S base w0 w → FRep σ m f tmps → c.wp P (Lift σ n base w0 m Q) ⟨tmps, []⟩ w

/-- The same, said of another table of places. -/
theorem Lift.mono {σ σ1 : Sg} {n base : Nat} {w0 : World} {m : Nat} {Q Q1 : Exit → Fr → St → Prop} {e : Exit} {a : Act} {w : World} (h : Lift σ1 n base w0 m Q e a w) (hσ : σ.take n = σ1.take n) (hQ : ∀ f S, Q e f S → Q1 e f S) : Lift σ n base w0 m Q1 e a w := by
  obtain ⟨h1, f, S, σ', h2, h3, h4, h5, h6⟩ := h
  exact ⟨h1, f, S, σ', by rw [hσ]; exact h2, h3, h4, h5, hQ _ _ h6⟩

theorem take_of_prefix {σ σ1 : Sg} {n : Nat} (h : σ.take n <+: σ1) (hn : n ≤ σ.length) : σ.take n = σ1.take n := by
  obtain ⟨t, rfl⟩ := h
  rw [List.take_append_of_le_length (by rw [List.length_take]; omega), List.take_take, Nat.min_self]

section
variable {P : Program} {T : Tab} {m n : Nat} {Q : Exit → Fr → St → Prop} {f : Fr} {S : St}

def ThenA (K : Fr → St → Prop) (Q : Exit → Fr → St → Prop) : Exit → Fr → St → Prop
  | .normal, f, S => K f S
  | e, f, S => Q e f S

theorem AWp.mono {c : Code} {Q' : Exit → Fr → St → Prop} (h : AWp P m n c Q f S) (hq : ∀ e f S, Q e f S → Q' e f S) : AWp P m n c Q' f S :=
  fun σ base w0 w tmps hn hs hf => wp_mono (h σ base w0 w tmps hn hs hf) fun e a w' hl => hl.mono rfl (hq e)

theorem AWp.skip (h : Q .normal f S) : AWp P m n .skip Q f S :=
  fun σ base w0 w tmps hn hs hf => wp_skip ⟨rfl, f, S, σ, List.take_prefix _ _, hn, hs, hf, h⟩
theorem AWp.ret (h : Q .ret f S) : AWp P m n .ret Q f S :=
  fun σ base w0 w tmps hn hs hf => wp_ret ⟨rfl, f, S, σ, List.take_prefix _ _, hn, hs, hf, h⟩
theorem AWp.exit {id : Nat} (h : Q (.exit id) f S) : AWp P m n (.exit id) Q f S :=
  fun σ base w0 w tmps hn hs hf => wp_exit ⟨rfl, f, S, σ, List.take_prefix _ _, hn, hs, hf, h⟩

theorem AWp.seq {x y : Code} (h : AWp P m n x (ThenA (AWp P m n y Q) Q) f S) : AWp P m n (.seq x y) Q f S := by
  intro σ base w0 w tmps hn hs hf
  refine wp_seq (wp_mono (h σ base w0 w tmps hn hs hf) fun e a w' hl => ?_)
  have hnσ : n ≤ σ.length := by rw [hs.len]; exact hn
  cases e with
  | normal =>
    obtain ⟨h1, f', S', σ', h2, h3, h4, h5, h6⟩ := hl
    obtain ⟨t, d⟩ := a
    subst h1
    exact wp_mono (h6 σ' base w0 w' t h3 h4 h5) fun e a w1 hl => hl.mono (take_of_prefix h2 hnσ) (fun _ _ q => q)
  | exit id => exact hl
  | goto l => exact hl
  | ret => exact hl
  | panic ch => exact hl
  | outgrown => exact hl

theorem AWp.cond {c : Operand} {x y : Code} {b : Bool} (hc : ev m f c = some (.bool b)) (h : AWp P m n (if b then x else y) Q f S) : AWp P m n (.cond c x y) Q f S :=
  fun σ base w0 w tmps hn hs hf => wp_cond (t := b) ((ev_rep (d := []) hf hc).bool_) (by
    have := h σ base w0 w tmps hn hs hf
    cases b <;> exact this)

theorem AWp.condT {c : Operand} {x y : Code} (hc : ev m f c = some (.bool true)) (h : AWp P m n x Q f S) : AWp P m n (.cond c x y) Q f S := .cond hc h
theorem AWp.condF {c : Operand} {x y : Code} (hc : ev m f c = some (.bool false)) (h : AWp P m n y Q f S) : AWp P m n (.cond c x y) Q f S := .cond hc h
theorem AWp.condP {c : Operand} {x y : Code} (p : Prop) [Decidable p] (hc : ev m f c = some (.bool (decide p))) (h1 : p → AWp P m n x Q f S) (h2 : ¬ p → AWp P m n y Q f S) : AWp P m n (.cond c x y) Q f S := by
  by_cases hp : p
  · exact .cond hc (by simp [hp]; exact h1 hp)
  · exact .cond hc (by simp [hp]; exact h2 hp)

def BlockA (id : Nat) (Q : Exit → Fr → St → Prop) : Exit → Fr → St → Prop
  | .exit id', f, S => if id' = id then Q .normal f S else Q (.exit id') f S
  | e, f, S => Q e f S

theorem AWp.block {id : Nat} {c : Code} (h : AWp P m n c (BlockA id Q) f S) : AWp P m n (.block id c) Q f S := by
  intro σ base w0 w tmps hn hs hf
  refine wp_block (wp_mono (h σ base w0 w tmps hn hs hf) fun e a w' hl => ?_)
  cases e with
  | exit id' =>
    obtain ⟨h1, f', S', σ', h2, h3, h4, h5, h6⟩ := hl
    simp only [Exit.inBlock]
    by_cases he : id' = id
    · rw [if_pos he]
      exact ⟨h1, f', S', σ', h2, h3, h4, h5, by simpa [BlockA, he] using h6⟩
    · rw [if_neg he]
      exact ⟨h1, f', S', σ', h2, h3, h4, h5, by simpa [BlockA, he] using h6⟩
  | normal => exact hl
  | goto l => exact hl
  | ret => exact hl
  | panic ch => exact hl
  | outgrown => exact hl

/-- A region in order. -/
theorem AWp.region (ok : TabOk P T) {id : Nat} {l : List Oper} (h : aList P T m l.toArray (fun f' S' => Q .normal f' S') l f S) : AWp P m n (.region id l.toArray false) Q f S := by
  intro σ base w0 w tmps hn hs hf
  refine wp_region_lit (aList_sound ok l f S σ tmps w hs hf h (fun f' S' σ' tmps' w' h1 h2 h3 h4 => ?_))
  refine ⟨rfl, f', S', σ', (List.take_prefix _ _).trans h1, ?_, h2, h3, h4⟩
  have := h1.length_le
  rw [← h2.len]
  have := hs.len
  omega

/-- A loop, by an invariant that bears a number. -/
theorem AWp.loop {c : Code} (I : Nat → Fr → St → Prop) (k0 : Nat) (h0 : I k0 f S)
    (round : ∀ k f S, I k f S → AWp P m n c (ThenA (fun f' S' => ∃ k', k' < k ∧ I k' f' S') Q) f S) : AWp P m n (.loop c) Q f S := by
  intro σ base w0 w tmps hn hs hf
  have hnσ : n ≤ σ.length := by rw [hs.len]; exact hn
  refine wp_loop_ghost (fun k a w' => a.defers = [] ∧ ∃ (f : Fr) (S : St) (σ' : Sg), σ.take n <+: σ' ∧ n ≤ S.length ∧ Sim σ' S base w0 w' ∧ FRep σ' m f a.tmps ∧ I k f S) k0
    ⟨rfl, f, S, σ, List.take_prefix _ _, hn, hs, hf, h0⟩ ?_
  rintro k ⟨t, d⟩ w1 ⟨h1, f1, S1, σ1, h2, h3, h4, h5, h6⟩
  subst h1
  refine wp_mono (round k f1 S1 h6 σ1 base w0 w1 t h3 h4 h5) fun e a w' hl => ?_
  have hσ := take_of_prefix h2 hnσ
  cases e with
  | normal =>
    obtain ⟨q1, f', S', σ', q2, q3, q4, q5, k', q6, q7⟩ := hl
    exact ⟨k', q6, q1, f', S', σ', by rw [hσ]; exact q2, q3, q4, q5, q7⟩
  | exit id => exact hl.mono hσ (fun _ _ q => q)
  | goto l => exact hl.mono hσ (fun _ _ q => q)
  | ret => exact hl.mono hσ (fun _ _ q => q)
  | panic ch => exact hl.mono hσ (fun _ _ q => q)
  | outgrown => exact hl.mono hσ (fun _ _ q => q)

end
end Go.Ab
