/- Regions that draw their order: one order serves every order; for any program whose types stand in a table. -/
import Derived.Test.YtpgiiidnimbdgaaAbM
namespace Go.Ab
open Go.RowKit
set_option linter.unusedVariables false
set_option linter.unusedSimpArgs false

section
variable {T : Tab} {m : Nat} {f g : Fr} {S : St}

theorem evs_agree {xs : List Operand} (h : ∀ x ∈ xs, ev m f x = ev m g x) : evs m f xs = evs m g xs := by
  induction xs with
  | nil => rfl
  | cons x xs ih => simp only [evs, h x (by simp), ih (fun y hy => h y (by simp [hy]))]
theorem evParts_agree {xs : List (Nat × Operand)} (h : ∀ p ∈ xs, ev m f p.2 = ev m g p.2) : evParts m f xs = evParts m g xs := by
  induction xs with
  | nil => rfl
  | cons x xs ih =>
    obtain ⟨i, x⟩ := x
    simp only [evParts, h (i, x) (by simp), ih (fun y hy => h y (by simp [hy]))]
theorem evO_agree {x : Option Operand} (h : ∀ y ∈ x.toArray.toList, ev m f y = ev m g y) : evO m f x = evO m g x := by
  cases x with
  | none => rfl
  | some x => simp only [evO, h x (by simp)]

theorem parts_mem {ps : Array (Nat × Operand)} (h : ∀ x ∈ (ps.toList.map (·.2)).toArray.toList, ev m f x = ev m g x) : ∀ p ∈ ps.toList, ev m f p.2 = ev m g p.2 :=
  fun p hp => h p.2 (by simp only [List.mem_map]; exact ⟨p, hp, rfl⟩)

theorem callL_agree {c : Call} (h : ∀ x ∈ c.args.toList, ev m f x = ev m g x) : callL T m f c = callL T m g c := by
  unfold callL
  split
  · split
    · rename_i x t hx ht
      rw [h x (by rw [hx]; simp)]
    · rfl
  · rw [evs_agree h]
  · rw [evs_agree h]
  · rfl

theorem light_agree {op : Op} (h : ∀ x ∈ op.operands.toList, ev m f x = ev m g x) : light T m f S op = light T m g S op := by
  cases op <;> simp only [light]
  case move x => exact h x (by simp [Op.operands])
  case assign x => exact h x (by simp [Op.operands])
  case pick c a b => rw [h c (by simp [Op.operands]), h a (by simp [Op.operands]), h b (by simp [Op.operands])]
  case build t ps => rw [evParts_agree (parts_mem h)]
  case load t x => rw [h x (by simp [Op.operands])]
  case nilCheck x => rw [h x (by simp [Op.operands])]
  case binOp op t x y yt => rw [h x (by simp [Op.operands]), h y (by simp [Op.operands])]
  case unOp op t x => rw [h x (by simp [Op.operands])]
  case convert s d x => rw [h x (by simp [Op.operands])]
  case makeInterface t x => rw [h x (by simp [Op.operands])]
  case makeFunc fn a b =>
    rw [evs_agree (f := f) (g := g) (xs := a.toList) (fun x hx => h x (by simp only [Op.operands, Array.toList_append, List.mem_append]; exact .inl hx)),
      evs_agree (f := f) (g := g) (xs := b.toList) (fun x hx => h x (by simp only [Op.operands, Array.toList_append, List.mem_append]; exact .inr hx))]
  case slice t x lo hi mx =>
    cases mx with
    | none =>
      simp only [light]
      rw [h x (by simp [Op.operands]), evO_agree (f := f) (g := g) (x := lo) (fun y hy => h y (by simp only [Op.operands, Array.toList_append, List.mem_append]; exact .inl (.inl (.inr hy)))),
        evO_agree (f := f) (g := g) (x := hi) (fun y hy => h y (by simp only [Op.operands, Array.toList_append, List.mem_append]; exact .inl (.inr hy)))]
    | some mx => rfl
  case fieldAddr t x j => rw [h x (by simp [Op.operands])]
  case field t x j => rw [h x (by simp [Op.operands])]
  case indexAddr t x y => rw [h x (by simp [Op.operands]), h y (by simp [Op.operands])]
  case index t x y => rw [h x (by simp [Op.operands]), h y (by simp [Op.operands])]
  case typeAssert x t a c => rw [h x (by simp [Op.operands])]
  case extract x j => rw [h x (by simp [Op.operands])]
  case call c => exact callL_agree (fun x hx => h x (by simp only [Op.operands, Call.operands, Array.toList_append, List.mem_append]; exact .inr hx))

theorem heavy_agree {op : Op} (h : ∀ x ∈ op.operands.toList, ev m f x = ev m g x) : heavy T m f S op = heavy T m g S op := by
  cases op <;> simp only [heavy]
  case box e x => rw [h x (by simp [Op.operands])]
  case store t x y => rw [h x (by simp [Op.operands]), h y (by simp [Op.operands])]
  case buildSlice t n ps => rw [evParts_agree (parts_mem h)]
  case makeSlice t x y => rw [h x (by simp [Op.operands]), h y (by simp [Op.operands])]
  case call c =>
    have h' : ∀ x ∈ c.args.toList, ev m f x = ev m g x := fun x hx => h x (by simp only [Op.operands, Call.operands, Array.toList_append, List.mem_append]; exact .inr hx)
    split
    · split
      · rename_i x y t t' hx ht
        rw [h' x (by rw [hx]; simp), h' y (by rw [hx]; simp)]
      · rfl
    · rfl

theorem callA_agree {op : Op} (h : ∀ x ∈ op.operands.toList, ev m f x = ev m g x) : callA m f op = callA m g op := by
  cases op <;> simp only [callA]
  case call c =>
    split
    · rename_i x hc
      rw [h x (by simp only [Op.operands, Call.operands, Array.toList_append, List.mem_append]; left; rw [hc]; simp),
        evs_agree (f := f) (g := g) (xs := c.args.toList) (fun x hx => h x (by simp only [Op.operands, Call.operands, Array.toList_append, List.mem_append]; exact .inr hx))]
    · rfl

theorem looks_agree {ops : Array Oper} {o : Oper} {dst : Option Tmp} {u : Value} (h : ∀ d, dst = some d → d ∉ o.looksAt ops) : ∀ x ∈ o.op.operands.toList, ev m (putF f dst u) x = ev m f x := by
  intro x hx
  cases dst with
  | none => rfl
  | some d =>
    cases x with
    | tmp t =>
      have hne : t ≠ d := by
        rintro rfl
        refine h t rfl ?_
        unfold Oper.looksAt
        rw [List.mem_append]
        left
        exact List.mem_filterMap.2 ⟨.tmp t, hx, rfl⟩
      simp only [ev, putF, upd, if_neg hne]
    | _ => rfl

theorem wanted_agree {ops : Array Oper} {o : Oper} {dst : Option Tmp} {u : Value} (h : ∀ d, dst = some d → d ∉ o.looksAt ops) : wantedA ops m (putF f dst u) o = wantedA ops m f o := by
  unfold wantedA
  split
  · rfl
  · rename_i j b hg
    split
    · rfl
    · rename_i d hd
      have : putF f dst u d = f d := by
        cases dst with
        | none => rfl
        | some e =>
          have hne : d ≠ e := by
            rintro rfl
            refine h d rfl ?_
            unfold Oper.looksAt
            rw [List.mem_append]
            right
            simp [hg, hd]
          simp only [putF, upd, if_neg hne]
      rw [this]

theorem putF_comm {d e : Option Tmp} {u v : Value} (h : ∀ x, d = some x → e ≠ some x) : putF (putF f d u) e v = putF (putF f e v) d u := by
  cases d with
  | none => rfl
  | some d =>
    cases e with
    | none => rfl
    | some e =>
      have hne : e ≠ d := fun q => h d rfl (by rw [q])
      funext i
      simp only [putF, upd]
      by_cases h1 : i = e
      · subst h1
        rw [if_pos rfl, if_neg hne, if_pos rfl]
      · rw [if_neg h1]
        by_cases h2 : i = d
        · rw [if_pos h2, if_pos h2]
        · rw [if_neg h2, if_neg h2, if_neg h1]
end

def AYields (T : Tab) (m : Nat) (ops : Array Oper) (T0 : St) (o : Oper) (v : Value) (f : Fr) : Prop :=
  (wantedA ops m f o = some true ∧ light T m f T0 o.op = some v) ∨ (wantedA ops m f o = some false ∧ v = undef)

section
variable {P : Program} {T : Tab} {m : Nat} {f : Fr} {S T0 : St} {ops : Array Oper} {K : Fr → St → Prop} {L : List Nat}

theorem aOp_put {oi oj : Oper} {v : Value} (hap : oi.apart ops oj = true) (hy : AYields T m ops T0 oi v f) (h : aOp P T m ops oj (putF f oi.dst v) S K) :
    aOp P T m ops oj f S (fun f' S' => AYields T m ops T0 oi v f' ∧ K (putF f' oi.dst v) S') := by
  obtain ⟨h1, h2, h3⟩ := Oper.apart_spec hap
  have keep : ∀ (u : Value), AYields T m ops T0 oi v (putF f oj.dst u) := fun u => by
    unfold AYields
    rw [wanted_agree h3, light_agree (looks_agree (ops := ops) h3)]
    exact hy
  have com : ∀ (u : Value), putF (putF f oj.dst u) oi.dst v = putF (putF f oi.dst v) oj.dst u := fun u => by
    refine putF_comm (fun x hx q => h2 x q hx)
  unfold aOp at h ⊢
  rw [wanted_agree h1] at h
  split
  · rename_i hw
    simp only [hw] at h
    unfold aStep at h ⊢
    rw [light_agree (looks_agree (ops := ops) h1), heavy_agree (looks_agree (ops := ops) h1), callA_agree (looks_agree (ops := ops) h1)] at h
    split
    · rename_i u hu
      simp only [hu] at h
      exact ⟨keep u, by rw [com]; exact h⟩
    · rename_i hu
      simp only [hu] at h
      split
      · rename_i u S' hu2
        simp only [hu2] at h
        exact ⟨keep u, by rw [com]; exact h⟩
      · rename_i hu2
        simp only [hu2] at h
        split
        · rename_i g args hc
          simp only [hc] at h
          exact h.mono fun r S' q => ⟨keep r, by rw [com]; exact q⟩
        · rename_i hc
          simp only [hc] at h
  · rename_i hw
    simp only [hw] at h
    exact ⟨keep undef, by rw [com]; exact h⟩
  · rename_i hw
    simp only [hw] at h

theorem aOp_mono {o : Oper} {K' : Fr → St → Prop} (h : aOp P T m ops o f S K) (hK : ∀ f' S', K f' S' → K' f' S') : aOp P T m ops o f S K' := by
  unfold aOp at *
  split
  · rename_i hw; simp only [hw] at h; exact aStep_mono h hK
  · rename_i hw; simp only [hw] at h; exact hK _ _ h
  · rename_i hw; simp only [hw] at h

/-- It comes up when all of L have come up. -/
def lateB (ops : Array Oper) (L : List Nat) (j : Nat) : Bool :=
  match ops[j]? with
  | none => false
  | some o => L.all fun l => o.after.any fun e => Region.binds .any e && e.on == l

def aOpI (P : Program) (T : Tab) (m : Nat) (ops : Array Oper) (i : Nat) (f : Fr) (S : St) (K : Fr → St → Prop) : Prop :=
  match ops[i]? with
  | none => False
  | some o => aOp P T m ops o f S K

/-- Whatever order is picked. -/
def aAny (P : Program) (T : Tab) (m : Nat) (ops : Array Oper) (L : List Nat) (T0 : St) (K : Fr → St → Prop) : Nat → Array Bool → Fr → St → Prop
  | 0, listed, f, S => Region.ready .any ops listed = [] ∧ K f S
  | fuel + 1, listed, f, S => (Region.ready .any ops listed = [] → K f S) ∧
    ∀ i ∈ Region.ready .any ops listed, aOpI P T m ops i f S (fun f' S' => (lateB ops L i = false → Le T0 S → Le T0 S') ∧ aAny P T m ops L T0 K fuel (listed.setIfInBounds i true) f' S')

theorem aAny_sound (ok : TabOk P T) {base : Nat} {w0 : World} {Q' : Exit → Act → World → Prop} : ∀ (fuel : Nat) (listed : Array Bool) (f : Fr) (S : St) (σ : Sg) (tmps : Array Value) (w : World),
    Sim σ S base w0 w → FRep σ m f tmps → aAny P T m ops L T0 K fuel listed f S → Onw σ base w0 m K (fun a w => Q' .normal a w) → wpAny P .any ops Q' fuel listed ⟨tmps, []⟩ w
  | 0, listed, f, S, σ, tmps, w, hs, hf, h, hK => ⟨h.1, hK _ _ _ _ _ (List.prefix_refl _) hs hf h.2⟩
  | fuel + 1, listed, f, S, σ, tmps, w, hs, hf, h, hK => by
    refine ⟨fun hr => hK _ _ _ _ _ (List.prefix_refl _) hs hf (h.1 hr), fun i hi => ?_⟩
    have h1 := h.2 i hi
    unfold aOpI at h1
    unfold wpOp
    split
    · rename_i ho; simp only [ho] at h1
    · rename_i o ho
      simp only [ho] at h1
      have := aOp_sound (Q' := Q') (K' := wpAny P .any ops Q' fuel (listed.setIfInBounds i true)) ok hs hf h1
        (fun f' S' σ' tmps' w' q1 q2 q3 q4 => aAny_sound ok fuel _ f' S' σ' tmps' w' q2 q3 q4.2 (hK.later q1))
      split
      · rename_i hw; rw [if_pos hw] at this; exact .inl this
      · rename_i hw; rw [if_neg hw] at this; exact this

theorem le_nil (S : St) : Le [] S := fun o ty rw cs h => by simp at h

theorem aAny_first {T1 : St} {i : Nat} {oi : Oper} {v : Value} (hi : ops[i]? = some oi) (hL : T1 = [] ∨ (T1 = T0 ∧ i ∈ L)) : ∀ (fuel : Nat) (listed : Array Bool) (f : Fr) (S : St),
    (∀ j oj, ops[j]? = some oj → j ≠ i → listed.getD j true = false → (∀ e ∈ oj.after, Region.binds .any e = true → e.on ≠ i) → oi.apart ops oj = true) →
    i ∈ Region.ready .any ops listed → AYields T m ops T1 oi v f → Le T1 S →
    aAny P T m ops L T0 K fuel (listed.setIfInBounds i true) (putF f oi.dst v) S → aAny P T m ops L T0 K (fuel + 1) listed f S := by
  have own : ∀ {fuel : Nat} {listed : Array Bool} {f : Fr} {S : St}, AYields T m ops T1 oi v f → Le T1 S → aAny P T m ops L T0 K fuel (listed.setIfInBounds i true) (putF f oi.dst v) S →
      aOpI P T m ops i f S (fun f' S' => (lateB ops L i = false → Le T0 S → Le T0 S') ∧ aAny P T m ops L T0 K fuel (listed.setIfInBounds i true) f' S') := by
    intro fuel listed f S hy hS H
    unfold aOpI
    simp only [hi]
    unfold aOp
    rcases hy with ⟨hw, hv⟩ | ⟨hw, rfl⟩
    · simp only [hw]
      unfold aStep
      simp only [light_le hS hv]
      exact ⟨fun _ q => q, H⟩
    · simp only [hw]
      exact ⟨fun _ q => q, H⟩
  intro fuel
  induction fuel with
  | zero =>
    intro listed f S _ hr hy hS H
    refine ⟨fun h => (by rw [h] at hr; cases hr), fun j hj => ?_⟩
    by_cases hji : j = i
    · subst hji; exact own hy hS H
    · have := ready_mono hj hji
      rw [H.1] at this
      cases this
  | succ fuel ih =>
    intro listed f S hfree hr hy hS H
    refine ⟨fun h => (by rw [h] at hr; cases hr), fun j hj => ?_⟩
    by_cases hji : j = i
    · subst hji; exact own hy hS H
    · have h1 := H.2 j (ready_mono hj hji)
      obtain ⟨hjun, oj, hoj, hall⟩ := mem_ready.1 hj
      have hnot : ∀ e ∈ oj.after, Region.binds .any e = true → e.on ≠ i := fun e he hb heq => by
        have h1 := hall e he hb
        have h0 := (mem_ready.1 hr).1
        rw [heq] at h1
        rcases Nat.lt_or_ge i listed.size with h' | h'
        · simp [h'] at h0 h1; rw [h0] at h1; cases h1
        · simp [Array.getElem?_eq_none h'] at h1
      have hlate : i ∈ L → lateB ops L j = false := fun hiL => by
        cases hb : lateB ops L j with
        | false => rfl
        | true =>
          unfold lateB at hb
          simp only [hoj, List.all_eq_true] at hb
          obtain ⟨e, he, hb⟩ := Array.any_eq_true'.1 (hb i hiL)
          simp only [Bool.and_eq_true, beq_iff_eq] at hb
          exact absurd hb.2 (hnot e he hb.1)
      unfold aOpI at h1 ⊢
      simp only [hoj] at h1 ⊢
      have h2 := aOp_put (hfree j oj hoj hji hjun hnot) hy h1
      have hfree' : ∀ k ok, ops[k]? = some ok → k ≠ i → (listed.setIfInBounds j true).getD k true = false →
          (∀ e ∈ ok.after, Region.binds .any e = true → e.on ≠ i) → oi.apart ops ok = true := fun k ok hk hki hun hno => by
        refine hfree k ok hk hki ?_ hno
        by_cases hjk : j = k
        · subst hjk; exact hjun
        · rw [getD_set_ne true hjk] at hun; exact hun
      refine aOp_mono h2 fun f' S' h3 => ⟨h3.2.1, ih (listed.setIfInBounds j true) f' S' hfree' (ready_mono hr (Ne.symm hji)) h3.1 ?_ ?_⟩
      · rcases hL with rfl | ⟨rfl, hiL⟩
        · exact le_nil S'
        · exact h3.2.1 (hlate hiL) hS
      · rw [Array.setIfInBounds_comm _ _ hji]
        exact h3.2.2

/-- An operation that only reads, by its kind. -/
def lightB : Op → Bool
  | .alloc _ | .box _ _ | .store _ _ _ | .buildSlice _ _ _ | .makeSlice _ _ _ | .select _ _ => false
  | .call c => match c.callee with
    | .builtin .append | .value _ => false
    | _ => true
  | _ => true

theorem lightB_none {op : Op} (h : lightB op = true) : heavy T m f S op = none ∧ callA m f op = none := by
  cases op <;> simp_all [lightB, heavy, callA]
  case call c =>
    split at h
    · cases h
    · cases h
    · rename_i h1 h2
      constructor
      · split
        · rename_i hc; exact absurd hc h1
        · rfl
      · split
        · rename_i x hc; exact absurd hc (h2 x)
        · rfl

theorem aStep_light {o : Oper} (hb : lightB o.op = true) (h : aStep P T m o f S K) : ∃ v, light T m f S o.op = some v ∧ K (putF f o.dst v) S := by
  unfold aStep at h
  split at h
  · rename_i v hv; exact ⟨v, hv, h⟩
  · have h1 : heavy T m f S o.op = none := (lightB_none (T := T) (m := m) (f := f) (S := S) hb).1
    have h2 : callA m f o.op = none := (lightB_none (T := T) (m := m) (f := f) (S := S) hb).2
    simp only [h1, h2] at h

/-- An order in which they are carried out: number and kind: 0: only reads, and is taken first; 1: the only one that may come up; 2: the same, and all of kind 0 have come up; else: reads no memory, and is taken first. -/
def planB (ops : Array Oper) (L : List Nat) : List (Nat × Nat) → Array Bool → Bool
  | [], listed => (Region.ready .any ops listed).isEmpty
  | (i, 0) :: p, listed => (Region.ready .any ops listed).contains i && Region.free .any ops listed i && L.contains i && ((ops[i]?).map (lightB ·.op)).getD false && planB ops L p (listed.setIfInBounds i true)
  | (i, 1) :: p, listed => (Region.ready .any ops listed == [i]) && planB ops L p (listed.setIfInBounds i true)
  | (i, 2) :: p, listed => (Region.ready .any ops listed == [i]) && lateB ops L i && p.all (fun q => q.2 != 0 && q.2 != 1) && planB ops L p (listed.setIfInBounds i true)
  | (i, _) :: p, listed => (Region.ready .any ops listed).contains i && Region.free .any ops listed i && ((ops[i]?).map (lightB ·.op)).getD false && planB ops L p (listed.setIfInBounds i true)

def aPlan (P : Program) (T : Tab) (m : Nat) (ops : Array Oper) (T0 : St) (K : Fr → St → Prop) : List (Nat × Nat) → Fr → St → Prop
  | [], f, S => K f S
  | (i, 0) :: p, f, S => aOpI P T m ops i f T0 (fun f' _ => aPlan P T m ops T0 K p f' S)
  | (i, 1) :: p, f, S => aOpI P T m ops i f S (fun f' S' => Le T0 S' ∧ aPlan P T m ops T0 K p f' S')
  | (i, 2) :: p, f, S => aOpI P T m ops i f S (aPlan P T m ops T0 K p)
  | (i, _) :: p, f, S => aOpI P T m ops i f [] (fun f' _ => aPlan P T m ops T0 K p f' S)

theorem aOpI_light {i : Nat} {T1 : St} {K : Fr → Prop} (hl : ((ops[i]?).map (lightB ·.op)).getD false = true) (h : aOpI P T m ops i f T1 (fun f' _ => K f')) :
    ∃ oi v, ops[i]? = some oi ∧ AYields T m ops T1 oi v f ∧ K (putF f oi.dst v) := by
  unfold aOpI at h
  split at h
  · exact h.elim
  · rename_i oi hi
    have hlb : lightB oi.op = true := by simpa [hi] using hl
    refine ⟨oi, ?_⟩
    unfold aOp at h
    split at h
    · rename_i hw
      obtain ⟨v, hv, hk⟩ := aStep_light hlb h
      exact ⟨v, hi, .inl ⟨hw, hv⟩, hk⟩
    · rename_i hw
      exact ⟨undef, hi, .inr ⟨hw, rfl⟩, h⟩
    · exact h.elim

theorem aPlan_sound : ∀ (p : List (Nat × Nat)) (listed : Array Bool) (f : Fr) (S : St), planB ops L p listed = true → (Le T0 S ∨ p.all (fun q => q.2 != 0 && q.2 != 1) = true) → aPlan P T m ops T0 K p f S →
    aAny P T m ops L T0 K p.length listed f S
  | [], listed, f, S, hB, _, h => ⟨by simpa [planB] using hB, h⟩
  | (i, 0) :: p, listed, f, S, hB, hS, h => by
    simp only [planB, Bool.and_eq_true] at hB
    obtain ⟨⟨⟨⟨hr, hfr⟩, hL⟩, hl⟩, hp⟩ := hB
    have hS : Le T0 S := by
      rcases hS with hS | hS
      · exact hS
      · simp at hS
    obtain ⟨oi, v, hi, hy, hk⟩ := aOpI_light hl h
    exact aAny_first hi (.inr ⟨rfl, by simpa using hL⟩) p.length listed f S (Region.free_spec hi hfr) (by simpa using hr) hy hS (aPlan_sound p _ _ S hp (.inl hS) hk)
  | (i, 1) :: p, listed, f, S, hB, hS, h => by
    simp only [planB, Bool.and_eq_true, beq_iff_eq] at hB
    refine ⟨fun hr => (by rw [hB.1] at hr; cases hr), fun j hj => ?_⟩
    rw [hB.1] at hj
    obtain rfl : j = i := by simpa using hj
    simp only [aPlan, aOpI] at h ⊢
    split at h
    · exact h.elim
    · rename_i oi hi
      exact aOp_mono h fun f' S' q => ⟨fun _ _ => q.1, aPlan_sound p _ f' S' hB.2 (.inl q.1) q.2⟩
  | (i, 2) :: p, listed, f, S, hB, hS, h => by
    simp only [planB, Bool.and_eq_true, beq_iff_eq] at hB
    obtain ⟨⟨⟨hr, hlate⟩, hall⟩, hp⟩ := hB
    refine ⟨fun hr' => (by rw [hr] at hr'; cases hr'), fun j hj => ?_⟩
    rw [hr] at hj
    obtain rfl : j = i := by simpa using hj
    simp only [aPlan, aOpI] at h ⊢
    split at h
    · exact h.elim
    · rename_i oi hi
      exact aOp_mono h fun f' S' q => ⟨fun hl => (by rw [hl] at hlate; cases hlate), aPlan_sound p _ f' S' hp (.inr hall) q⟩
  | (i, k + 3) :: p, listed, f, S, hB, hS, h => by
    simp only [planB, Bool.and_eq_true] at hB
    obtain ⟨⟨⟨hr, hfr⟩, hl⟩, hp⟩ := hB
    obtain ⟨oi, v, hi, hy, hk⟩ := aOpI_light hl h
    refine aAny_first (T1 := []) hi (.inl rfl) p.length listed f S (Region.free_spec hi hfr) (by simpa using hr) hy (le_nil S) (aPlan_sound p _ _ S hp ?_ hk)
    rcases hS with hS | hS
    · exact .inl hS
    · right
      rw [List.all_cons, Bool.and_eq_true] at hS
      exact hS.2
end

def lightsOf (p : List (Nat × Nat)) : List Nat := (p.filter (fun q => q.2 == 0)).map (·.1)
def planOk (ops : Array Oper) (p : List (Nat × Nat)) : Bool := p.length == ops.size && planB ops (lightsOf p) p (Array.replicate ops.size false)

section
variable {P : Program} {T : Tab} {m n : Nat} {Q : Exit → Fr → St → Prop} {f : Fr} {S : St}
/-- A region that draws its order. -/
theorem AWp.draw (ok : TabOk P T) (hm : P.follows .mixedOrders = true) {id : Nat} {ops : Array Oper} (p : List (Nat × Nat)) (T0 : St) (hB : planOk ops p = true) (hT : Le T0 S)
    (h : aPlan P T m ops T0 (fun f' S' => Q .normal f' S') p f S) : AWp P m n (.region id ops true) Q f S := by
  intro σ base w0 w tmps hn hs hf
  simp only [planOk, Bool.and_eq_true, beq_iff_eq] at hB
  refine wp_region_any hm ?_
  have := aPlan_sound p _ f S hB.2 (.inl hT) h
  rw [hB.1] at this
  refine aAny_sound ok _ _ f S σ tmps _ (hs.drawn _) hf this (fun f' S' σ' tmps' w' h1 h2 h3 h4 => ?_)
  refine ⟨rfl, f', S', σ', (List.take_prefix _ _).trans h1, ?_, h2, h3, h4⟩
  have := h1.length_le
  rw [← h2.len]
  have := hs.len
  omega
theorem AWp.drawK (ok : TabOk P T) (hm : P.follows .mixedOrders = true) {id : Nat} {ops : Array Oper} (p : List (Nat × Nat)) (T0 : St) (hB : planOk ops p = true) (hT : Le T0 S)
    (h : ∀ K : Fr → St → Prop, (∀ f S, Q .normal f S → K f S) → aPlan P T m ops T0 K p f S) : AWp P m n (.region id ops true) Q f S := .draw ok hm p T0 hB hT (h _ fun _ _ q => q)
theorem AWp.seq_draw (ok : TabOk P T) (hm : P.follows .mixedOrders = true) {id : Nat} {ops : Array Oper} {y : Code} (p : List (Nat × Nat)) (T0 : St) (hB : planOk ops p = true) (hT : Le T0 S)
    (h : ∀ K : Fr → St → Prop, (∀ f S, AWp P m n y Q f S → K f S) → aPlan P T m ops T0 K p f S) : AWp P m n (.seq (.region id ops true) y) Q f S := .seq (.draw ok hm p T0 hB hT (h _ fun _ _ q => q))
end
end Go.Ab
