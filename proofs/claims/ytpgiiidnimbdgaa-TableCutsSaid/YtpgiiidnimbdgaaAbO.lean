/- What is no longer needed is let go: objects and temporaries; loops over tidy states; calls that leave nothing behind; for any program whose types stand in a table. -/
import Derived.Test.YtpgiiidnimbdgaaAbN
namespace Go.Ab
open Go.RowKit
set_option linter.unusedVariables false
set_option linter.unusedSimpArgs false

/-- Nothing is known. -/
abbrev top_ : Value := .chan none

/-- A value as it reads when object keep[j] is called j. -/
inductive Ren (keep : List Nat) : Value → Value → Prop where
  | top (v : Value) : Ren keep v (.chan none)
  | const (v : Value) (h : okc v = true) : Ren keep v v
  | ptr (o j i : Nat) (h : keep[j]? = some o) : Ren keep (.pointer (some ⟨o, i, none⟩)) (.pointer (some ⟨j, i, none⟩))
  | slice (o j i n s : Nat) (h : keep[j]? = some o) : Ren keep (.slice (some ⟨o, i, none⟩) n s) (.slice (some ⟨j, i, none⟩) n s)
  | iface (T : TypeId) (v v' : Value) (h : Ren keep v v') : Ren keep (.iface T v) (.iface T v')
  | agg (cs cs' : Array Value) (hs : cs.size = cs'.size) (h : ∀ (i : Nat) (v v' : Value), cs[i]? = some v → cs'[i]? = some v' → Ren keep v v') : Ren keep (.agg cs) (.agg cs')
  | tuple (cs cs' : Array Value) (hs : cs.size = cs'.size) (h : ∀ (i : Nat) (v v' : Value), cs[i]? = some v → cs'[i]? = some v' → Ren keep v v') : Ren keep (.tuple cs) (.tuple cs')
  | func (fn : Fn) (cs cs' ds ds' : Array Value) (hs : cs.size = cs'.size) (h : ∀ (i : Nat) (v v' : Value), cs[i]? = some v → cs'[i]? = some v' → Ren keep v v')
      (hs2 : ds.size = ds'.size) (h2 : ∀ (i : Nat) (v v' : Value), ds[i]? = some v → ds'[i]? = some v' → Ren keep v v') : Ren keep (.func fn cs ds) (.func fn cs' ds')

def pickS (keep : List Nat) (σ : Sg) : Sg := keep.map (fun o => σ.getD o ⟨0, 0, none⟩)

theorem pickS_get {keep : List Nat} {σ : Sg} {j o : Nat} {l : Loc} (h : keep[j]? = some o) (hl : σ[o]? = some l) : (pickS keep σ)[j]? = some l := by
  unfold pickS
  rw [List.getElem?_map, h]
  simp [hl]

theorem get_of_size' {cs cs' : Array Value} (hs : cs.size = cs'.size) {i : Nat} {v : Value} (h : cs'[i]? = some v) : ∃ v', cs[i]? = some v' :=
  ⟨_, Array.getElem?_eq_getElem (by rw [hs]; exact (Array.getElem?_eq_some_iff.1 h).1)⟩

theorem rep_okc {σ : Sg} {v c : Value} (h : okc v = true) (hr : Rep σ v c) : c = v := by cases hr <;> simp_all [okc]

theorem nodup_inj {l : List Nat} (h : l.Nodup) {i j x : Nat} (h1 : l[i]? = some x) (h2 : l[j]? = some x) : i = j := by
  obtain ⟨hi, e1⟩ := List.getElem?_eq_some_iff.1 h1
  obtain ⟨hj, e2⟩ := List.getElem?_eq_some_iff.1 h2
  rcases Nat.lt_trichotomy i j with hlt | he | hlt
  · exact absurd (e1.trans e2.symm) (List.pairwise_iff_getElem.1 h i j hi hj hlt)
  · exact he
  · exact absurd (e2.trans e1.symm) (List.pairwise_iff_getElem.1 h j i hj hi hlt)

theorem Ren.sound {keep : List Nat} {v v' : Value} (h : Ren keep v v') {σ : Sg} : ∀ {c : Value}, Rep σ v c → Rep (pickS keep σ) v' c := by
  induction h with
  | top v => intro c _; exact .top c
  | const v h =>
    intro c hr
    rw [rep_okc h hr]
    exact .const _ h
  | ptr o j i h =>
    intro c hr
    obtain ⟨l, hl, _, rfl⟩ := hr.ptr_
    exact .ptr j i l (pickS_get h hl)
  | slice o j i n s h =>
    intro c hr
    obtain ⟨_, h1, ho⟩ := hr.slice_
    rcases h1 with ⟨l, c', hl, hc, hm, hN, rfl⟩ | ⟨rfl, hi, A, rfl⟩
    · exact .slice j i n s c' l (pickS_get h hl) hc hm hN
    · exact .sliceE j i s A hi (by unfold pickS; rw [List.length_map]; exact (List.getElem?_eq_some_iff.1 h).1)
  | iface T v v' h ih =>
    intro c hr
    obtain ⟨x, rfl, h1⟩ := hr.iface_
    exact .iface T _ _ (ih h1)
  | agg cs cs' hs h ih =>
    intro c hr
    obtain ⟨ds, rfl, ⟨h1, h2⟩, h3⟩ := hr.agg_
    refine .agg _ _ (hs.symm.trans h1) (fun i v v' q1 q2 => ?_) h3
    obtain ⟨u, hu⟩ := get_of_size' hs q1
    exact ih i u v hu q1 (h2 i u v' hu q2)
  | tuple cs cs' hs h ih =>
    intro c hr
    obtain ⟨ds, rfl, h1, h2⟩ := hr.tuple_
    refine .tuple _ _ (hs.symm.trans h1) (fun i v v' q1 q2 => ?_)
    obtain ⟨u, hu⟩ := get_of_size' hs q1
    exact ih i u v hu q1 (h2 i u v' hu q2)
  | func fn cs cs' ds ds' hs h hs2 h2 ih ih2 =>
    intro c hr
    obtain ⟨es, gs, rfl, h3, h4, h5, h6⟩ := hr.func_
    refine .func fn _ _ _ _ (hs.symm.trans h3) (fun i v v' q1 q2 => ?_) (hs2.symm.trans h5) (fun i v v' q1 q2 => ?_)
    · obtain ⟨u, hu⟩ := get_of_size' hs q1
      exact ih i u v hu q1 (h4 i u v' hu q2)
    · obtain ⟨u, hu⟩ := get_of_size' hs2 q1
      exact ih2 i u v hu q1 (h6 i u v' hu q2)

theorem Ren.closed {keep : List Nat} {n : Nat} (hk : ∀ o, o < n → keep[o]? = some o) {v : Value} (h : Closed n v) : Ren keep v v := by
  induction h with
  | top => exact .top _
  | const v h => exact .const v h
  | ptr o i h => exact .ptr o o i (hk o h)
  | slice o i k s h => exact .slice o o i k s (hk o h)
  | iface T v _ ih => exact .iface T v v ih
  | agg cs _ ih => exact .agg cs cs rfl (fun i v v' h1 h2 => by rw [h1] at h2; cases h2; exact ih i v h1)
  | tuple cs _ ih => exact .tuple cs cs rfl (fun i v v' h1 h2 => by rw [h1] at h2; cases h2; exact ih i v h1)
  | func fn cs ds _ _ ih ih2 => exact .func fn cs cs ds ds rfl (fun i v v' h1 h2 => by rw [h1] at h2; cases h2; exact ih i v h1) rfl (fun i v v' h1 h2 => by rw [h1] at h2; cases h2; exact ih2 i v h1)

/-- Objects as they read when object keep[j] is called j. -/
def RenSt (keep : List Nat) (S S' : St) : Prop :=
  S'.length = keep.length ∧ keep.Nodup ∧ (∀ o ∈ keep, o < S.length) ∧
  ∀ (j : Nat) ty rw cs, S'[j]? = some (.row ty rw cs) → ∃ o cs0, keep[j]? = some o ∧ S[o]? = some (.row ty rw cs0) ∧ ∀ (i : Nat) v, cs[i]? = some v → ∃ v0, cs0[i]? = some v0 ∧ Ren keep v0 v

theorem Sim.pick {σ : Sg} {S S' : St} {base : Nat} {w0 w : World} (h : Sim σ S base w0 w) {keep : List Nat} (hk : RenSt keep S S') : Sim (pickS keep σ) S' base w0 w := by
  obtain ⟨k1, k2, k3, k4⟩ := hk
  have loc : ∀ {j o : Nat} {l : Loc}, keep[j]? = some o → (pickS keep σ)[j]? = some l → σ[o]? = some l := by
    intro j o l hj hl
    have ho : o < σ.length := by rw [h.len]; exact k3 o (List.mem_of_getElem? hj)
    have := pickS_get hj (List.getElem?_eq_getElem ho)
    rw [hl] at this
    cases this
    exact List.getElem?_eq_getElem ho
  refine ⟨by simp [pickS, k1], h.below, h.size, fun j l ty rw cs h1 h2 i v hv => ?_, fun j l ty cs h1 h2 => ?_, fun j j' l l' ty cs ty' rw' cs' hne hh h1 h1' h2 h2' => ?_⟩
  · obtain ⟨o, cs0, q1, q2, q3⟩ := k4 j ty rw cs h1
    obtain ⟨v0, q4, q5⟩ := q3 i v hv
    obtain ⟨v', p1, p2, p3⟩ := h.cell o l ty rw cs0 q2 (loc q1 h2) i v0 q4
    exact ⟨v', p1, q5.sound p2, p3⟩
  · obtain ⟨o, cs0, q1, q2, q3⟩ := k4 j ty true cs h1
    exact h.own o l ty cs0 q2 (loc q1 h2)
  · obtain ⟨o, cs0, q1, q2, q3⟩ := k4 j ty true cs h1
    obtain ⟨o', cs0', q1', q2', q3'⟩ := k4 j' ty' rw' cs' h1'
    refine h.apart o o' l l' ty cs0 ty' rw' cs0' (fun e => hne ?_) ?_ q2 q2' (loc q1 h2) (loc q1' h2')
    · subst e
      exact nodup_inj k2 q1 q1'
    · rcases hh with hh | hh
      · exact .inl hh
      · right
        cases cs' with
        | nil => exact absurd rfl hh
        | cons c cs' =>
          obtain ⟨v0, q, _⟩ := q3' 0 c rfl
          rintro rfl
          simp at q

/-- From one state to a state that says less. -/
def Wk (m n : Nat) (f : Fr) (S : St) (f' : Fr) (S' : St) : Prop := ∀ (σ : Sg) (base : Nat) (w0 w : World) (tmps : Array Value), n ≤ S.length → Sim σ S base w0 w → FRep σ m f tmps →
  ∃ σ', σ.take n <+: σ' ∧ n ≤ S'.length ∧ Sim σ' S' base w0 w ∧ FRep σ' m f' tmps
def WkR (n : Nat) (r : Value) (S : St) (r' : Value) (S' : St) : Prop := ∀ (σ : Sg) (base : Nat) (w0 w : World) (c : Value), n ≤ S.length → Sim σ S base w0 w → Rep σ r c →
  ∃ σ', σ.take n <+: σ' ∧ Sim σ' S' base w0 w ∧ Rep σ' r' c

theorem pickS_prefix {keep : List Nat} {σ : Sg} {n : Nat} (hk : ∀ o, o < n → keep[o]? = some o) (hn : n ≤ σ.length) : σ.take n <+: pickS keep σ := by
  have hl : n ≤ keep.length := by
    rcases Nat.eq_zero_or_pos n with h | h
    · omega
    · have := (List.getElem?_eq_some_iff.1 (hk (n - 1) (by omega))).1
      omega
  have : σ.take n = (pickS keep σ).take n := by
    refine List.ext_getElem? fun i => ?_
    rw [List.getElem?_take, List.getElem?_take]
    split
    · rename_i hi
      have ho : i < σ.length := by omega
      rw [List.getElem?_eq_getElem ho]
      exact (pickS_get (hk i hi) (List.getElem?_eq_getElem ho)).symm
    · rfl
  rw [this]
  exact List.take_prefix _ _

theorem Wk.of {m n : Nat} {f f' : Fr} {S S' : St} (keep : List Nat) (hk : ∀ o, o < n → keep[o]? = some o) (hS : RenSt keep S S') (hf : ∀ i, Ren keep (f i) (f' i)) : Wk m n f S f' S' := by
  intro σ base w0 w tmps hn hs hr
  refine ⟨pickS keep σ, pickS_prefix hk (by rw [hs.len]; exact hn), ?_, hs.pick hS, ⟨hr.size, fun i hi => (hf i).sound (hr.at_ i hi)⟩⟩
  rw [hS.1]
  rcases Nat.eq_zero_or_pos n with h | h
  · omega
  · have := (List.getElem?_eq_some_iff.1 (hk (n - 1) (by omega))).1
    omega

theorem WkR.of {n : Nat} {r r' : Value} {S S' : St} (keep : List Nat) (hk : ∀ o, o < n → keep[o]? = some o) (hS : RenSt keep S S') (hf : Ren keep r r') : WkR n r S r' S' :=
  fun σ base w0 w c hn hs hr => ⟨pickS keep σ, pickS_prefix hk (by rw [hs.len]; exact hn), hs.pick hS, hf.sound hr⟩

section
variable {P : Program} {m n : Nat} {Q : Exit → Fr → St → Prop} {f f' : Fr} {S S' : St} {c : Code}
theorem AWp.weak (hw : Wk m n f S f' S') (h : AWp P m n c Q f' S') : AWp P m n c Q f S := by
  intro σ base w0 w tmps hn hs hf
  obtain ⟨σ', h1, h2, h3, h4⟩ := hw σ base w0 w tmps hn hs hf
  exact wp_mono (h σ' base w0 w tmps h2 h3 h4) fun e a w' hl => hl.mono (take_of_prefix h1 (by rw [hs.len]; exact hn)) (fun _ _ q => q)

theorem AWp.loopW (I : Nat → Fr → St → Prop) (k0 : Nat) (h0 : ∃ f' S', Wk m n f S f' S' ∧ I k0 f' S')
    (round : ∀ k f S, I k f S → AWp P m n c (ThenA (fun f' S' => ∃ k' f'' S'', k' < k ∧ Wk m n f' S' f'' S'' ∧ I k' f'' S'') Q) f S) : AWp P m n (.loop c) Q f S := by
  refine AWp.loop (fun k f S => ∃ f' S', Wk m n f S f' S' ∧ I k f' S') k0 h0 fun k f S ⟨f', S', hw, hI⟩ => ?_
  refine AWp.weak hw ((round k f' S' hI).mono fun e f1 S1 h => ?_)
  cases e with
  | normal =>
    obtain ⟨k', f2, S2, q1, q2, q3⟩ := h
    exact ⟨k', q1, f2, S2, q2, q3⟩
  | _ => exact h

theorem ACalls.weak {g : FuncId} {args : List Value} {R : Value → St → Prop} (h : ACalls P g args S (fun r S' => ∃ r' S'', S.length ≤ S'.length ∧ WkR S.length r S' r' S'' ∧ R r' S'')) : ACalls P g args S R := by
  refine ⟨h.1, fun σ base w0 w cargs hs ha => (h.2 σ base w0 w cargs hs ha).mono fun e w' ⟨c, r, S', σ', h1, h2, h3, h4, h5⟩ => ?_⟩
  obtain ⟨r', S'', hn, hw, hR⟩ := h2
  obtain ⟨σ1, q1, q2, q3⟩ := hw σ' base w0 w' c hn h5 h4
  refine ⟨c, r', S'', σ1, h1, hR, ?_, q3, q2⟩
  have : σ = σ'.take S.length := by
    obtain ⟨t, rfl⟩ := h3
    rw [← hs.len, List.take_left']
    rfl
  rw [this]
  exact q1
end

/-- A frame of which some temporaries are known. -/
def frL : List (Nat × Value) → Fr
  | [], _ => top_
  | (d, v) :: l, i => if i = d then v else frL l i
theorem frL_cons (d : Nat) (v : Value) (l : List (Nat × Value)) (i : Nat) : frL ((d, v) :: l) i = if i = d then v else frL l i := rfl

theorem frL_ren {keep : List Nat} {f : Fr} : ∀ {l : List (Nat × Value)}, (∀ p ∈ l, Ren keep (f p.1) p.2) → ∀ i, Ren keep (f i) (frL l i)
  | [], _, i => .top _
  | (d, v) :: l, h, i => by
    rw [frL_cons]
    by_cases hi : i = d
    · rw [if_pos hi, hi]; exact h (d, v) (by simp)
    · rw [if_neg hi]; exact frL_ren (fun p hp => h p (by simp [hp])) i

/-! the objects that stood at the start stay; of the later ones some are kept -/
def keepOf (n : Nat) (K : List Nat) : List Nat := List.range n ++ K.map (n + ·)
theorem keepOf_lt {n : Nat} {K : List Nat} (o : Nat) (h : o < n) : (keepOf n K)[o]? = some o := by
  unfold keepOf
  rw [List.getElem?_append_left (by simpa using h)]
  simp [h]
theorem keepOf_ge {n : Nat} {K : List Nat} {j k : Nat} (h : K[j]? = some k) : (keepOf n K)[n + j]? = some (n + k) := by
  unfold keepOf
  rw [List.getElem?_append_right (by simp)]
  simp [h]
theorem keepOf_0 {n k : Nat} {K : List Nat} : (keepOf n (k :: K))[n]? = some (n + k) := keepOf_ge (j := 0) rfl

/-- A row, kept. -/
def RowRen (keep : List Nat) (x y : AObj) : Prop :=
  match y with
  | .dead => True
  | .row ty rw cs => ∃ cs0, x = .row ty rw cs0 ∧ ∀ (i : Nat) v, cs[i]? = some v → ∃ v0, cs0[i]? = some v0 ∧ Ren keep v0 v

theorem RenSt.of {S0 R R' : St} (hc : ClosedSt S0.length S0) {K : List Nat} (hl : R'.length = K.length) (hnd : K.Nodup) (hlt : ∀ k ∈ K, k < R.length)
    (hr : ∀ (j k : Nat) x y, K[j]? = some k → R[k]? = some x → R'[j]? = some y → RowRen (keepOf S0.length K) x y) : RenSt (keepOf S0.length K) (S0 ++ R) (S0 ++ R') := by
  refine ⟨by simp [keepOf, hl], ?_, ?_, fun j ty rw cs h => ?_⟩
  · unfold keepOf
    rw [List.nodup_append]
    refine ⟨List.nodup_range, ?_, ?_⟩
    · have : ∀ (K : List Nat), K.Nodup → (K.map (S0.length + ·)).Nodup := by
        intro K hK
        induction K with
        | nil => simp
        | cons k K ih =>
          rw [List.nodup_cons] at hK
          rw [List.map_cons, List.nodup_cons]
          refine ⟨fun hm => ?_, ih hK.2⟩
          obtain ⟨k', h1, h2⟩ := List.mem_map.1 hm
          have : k' = k := by omega
          exact hK.1 (this ▸ h1)
      exact this K hnd
    · intro a ha b hb
      obtain ⟨k, _, rfl⟩ := List.mem_map.1 hb
      have := List.mem_range.1 ha
      omega
  · intro o ho
    unfold keepOf at ho
    rw [List.length_append]
    rcases List.mem_append.1 ho with h | h
    · have := List.mem_range.1 h; omega
    · obtain ⟨k, h1, rfl⟩ := List.mem_map.1 h
      have := hlt k h1
      omega
  · rcases Nat.lt_or_ge j S0.length with hj | hj
    · rw [List.getElem?_append_left hj] at h
      refine ⟨j, cs, keepOf_lt j hj, by rw [List.getElem?_append_left hj]; exact h, fun i v hv => ⟨v, hv, Ren.closed (fun o ho => keepOf_lt o ho) (hc j ty rw cs h v (List.mem_of_getElem? hv))⟩⟩
    · rw [List.getElem?_append_right hj] at h
      have hjK : j - S0.length < K.length := by rw [← hl]; exact (List.getElem?_eq_some_iff.1 h).1
      have hk := List.getElem?_eq_getElem hjK
      have hkR : K[j - S0.length] < R.length := hlt _ (List.getElem_mem hjK)
      have hx := List.getElem?_eq_getElem hkR
      have := hr _ _ _ _ hk hx h
      obtain ⟨cs0, h1, h2⟩ := this
      refine ⟨S0.length + K[j - S0.length], cs0, ?_, ?_, h2⟩
      · have := keepOf_ge (n := S0.length) hk
        rw [Nat.add_sub_cancel' hj] at this
        exact this
      · rw [List.getElem?_append_right (by omega), Nat.add_sub_cancel_left, hx, h1]

/-- Values that are kept as they are. -/
theorem RowRen.same {n : Nat} {K : List Nat} {ty : TypeId} {rw : Bool} {cs : List Value} (h : ∀ v ∈ cs, Closed n v) : RowRen (keepOf n K) (.row ty rw cs) (.row ty rw cs) :=
  ⟨cs, rfl, fun i v hv => ⟨v, hv, Ren.closed (fun o ho => keepOf_lt o ho) (h v (List.mem_of_getElem? hv))⟩⟩

/-- **A call that leaves nothing behind.** -/
theorem ACalls.pure {P : Program} {g : FuncId} {args : List Value} {S : St} {Q : Value → Prop}
    (h : ClosedSt S.length S → ACalls P g args S (fun r S' => (∃ R, S' = S ++ R) ∧ Closed S.length r ∧ Q r)) (hc : ClosedSt S.length S) : ACalls P g args S (fun r S' => S' = S ∧ Q r) := by
  refine ACalls.weak ((h hc).mono fun r S' ⟨⟨R, hS⟩, hr, hq⟩ => ⟨r, S, by rw [hS]; simp, ?_, rfl, hq⟩)
  subst hS
  have := RenSt.of (R := R) (R' := []) hc (K := []) rfl List.nodup_nil (by simp) (fun j k x y h1 => by simp at h1)
  rw [List.append_nil] at this
  exact WkR.of _ (fun o ho => keepOf_lt o ho) this (Ren.closed (fun o ho => keepOf_lt o ho) hr)

theorem ACalls.closed {P : Program} {g : FuncId} {args : List Value} {S : St} {Q : Value → St → Prop} (henter : ∀ cargs w, (callFunc g cargs).run P w = .ok (.enter g cargs) w)
    (h : ClosedSt S.length S → ACalls P g args S Q) : ACalls P g args S Q :=
  ⟨henter, fun σ base w0 w cargs hs ha => (h hs.closed).2 σ base w0 w cargs hs ha⟩

end Go.Ab
