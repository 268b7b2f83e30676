/- Stores that keep what they held: what a call leaves of the caller's objects. -/
import Derived.Test.YtpgiiidnimbdgaaAbW
namespace Go.Ab
open Go.RowKit
set_option linter.unusedVariables false
set_option linter.unusedSimpArgs false

/-- All objects of S stand in S' as they were. -/
def Keeps (S S' : St) : Prop := S.length ≤ S'.length ∧ ∀ j, j < S.length → S'[j]? = S[j]?
theorem Keeps.refl (S : St) : Keeps S S := ⟨Nat.le_refl _, fun _ _ => rfl⟩
theorem Keeps.trans {S S' S'' : St} (h : Keeps S S') (h' : Keeps S' S'') : Keeps S S'' :=
  ⟨Nat.le_trans h.1 h'.1, fun j hj => (h'.2 j (Nat.lt_of_lt_of_le hj h.1)).trans (h.2 j hj)⟩
theorem Keeps.append (S R : St) : Keeps S (S ++ R) := ⟨by simp, fun j hj => List.getElem?_append_left hj⟩
theorem Keeps.get {S S' : St} (h : Keeps S S') {o : Nat} {x : AObj} (hx : S[o]? = some x) : S'[o]? = some x := by
  rw [h.2 o (List.getElem?_eq_some_iff.1 hx).1]; exact hx
theorem Keeps.le {S S' : St} (h : Keeps S S') : Le S S' := fun o ty rw cs q => h.get q
theorem Keeps.of_append {S R S' : St} (h : Keeps (S ++ R) S') : Keeps S S' := (Keeps.append S R).trans h
theorem Keeps.set {S S' : St} (h : Keeps S S') {o : Nat} (ho : S.length ≤ o) (x : AObj) : Keeps S (S'.set o x) :=
  ⟨by simpa using h.1, fun j hj => by rw [List.getElem?_set_ne (by omega)]; exact h.2 j hj⟩

/-- The first n objects of S stand in S' as they were. -/
def KeepsN (n : Nat) (S S' : St) : Prop := S.length ≤ S'.length ∧ ∀ j, j < n → S'[j]? = S[j]?
theorem KeepsN.refl (n : Nat) (S : St) : KeepsN n S S := ⟨Nat.le_refl _, fun _ _ => rfl⟩
theorem KeepsN.trans {n : Nat} {S S' S'' : St} (h : KeepsN n S S') (h' : KeepsN n S' S'') : KeepsN n S S'' := ⟨Nat.le_trans h.1 h'.1, fun j hj => (h'.2 j hj).trans (h.2 j hj)⟩
theorem KeepsN.keeps {S S' : St} (h : KeepsN S.length S S') : Keeps S S' := h
theorem Keeps.n {S S' : St} (h : Keeps S S') {n : Nat} (hn : n ≤ S.length) : KeepsN n S S' := ⟨h.1, fun j hj => h.2 j (by omega)⟩
theorem KeepsN.mono {n m : Nat} {S S' : St} (h : KeepsN n S S') (hm : m ≤ n) : KeepsN m S S' := ⟨h.1, fun j hj => h.2 j (by omega)⟩
theorem KeepsN.set {n : Nat} {S S' : St} (h : KeepsN n S S') {o : Nat} (ho : n ≤ o) (x : AObj) : KeepsN n S (S'.set o x) :=
  ⟨by simpa using h.1, fun j hj => by rw [List.getElem?_set_ne (by omega)]; exact h.2 j hj⟩
theorem KeepsN.append {n : Nat} {S S' : St} (h : KeepsN n S S') (hn : n ≤ S.length) (R : St) : KeepsN n S (S' ++ R) :=
  ⟨by have := h.1; simp; omega, fun j hj => by rw [List.getElem?_append_left (by have := h.1; omega)]; exact h.2 j hj⟩
theorem Keeps.more {S S' : St} (h : Keeps S S') (R : St) : Keeps S (S' ++ R) := h.trans (Keeps.append S' R)

theorem range_get {n o : Nat} (h : o < n) : (List.range n)[o]? = some o := by simp [h]
theorem RenSt.keeps {S S' : St} (hc : ClosedSt S.length S) (h : Keeps S S') : RenSt (List.range S.length) S' S :=
  ⟨by simp, List.nodup_range, fun o ho => Nat.lt_of_lt_of_le (List.mem_range.1 ho) h.1, fun j ty rw cs hS => by
    have hj := (List.getElem?_eq_some_iff.1 hS).1
    exact ⟨j, cs, range_get hj, h.get hS, fun i v hv => ⟨v, hv, Ren.closed (fun o ho => range_get ho) (hc j ty rw cs hS v (List.mem_of_getElem? hv))⟩⟩⟩
theorem WkR.keeps {S S' : St} {r : Value} (hc : ClosedSt S.length S) (h : Keeps S S') (hr : Closed S.length r) : WkR S.length r S' r S :=
  WkR.of (List.range S.length) (fun o ho => range_get ho) (RenSt.keeps hc h) (Ren.closed (fun o ho => range_get ho) hr)
theorem Wk.keeps {m : Nat} {f : Fr} {S S' : St} (hc : ClosedSt S.length S) (h : Keeps S S') {l : List (Nat × Value)} (hf : ∀ p ∈ l, f p.1 = p.2 ∧ Closed S.length p.2) : Wk m S.length f S' (frL l) S :=
  Wk.of (List.range S.length) (fun o ho => range_get ho) (RenSt.keeps hc h) (frL_ren fun p hp => by
    obtain ⟨h1, h2⟩ := hf p hp
    rw [h1]
    exact Ren.closed (fun o ho => range_get ho) h2)

section
variable {P : Program} {T : Tab} {S : St}
/-- **A call that leaves the caller's objects as they were, and hands back no object of its own: the store is as it was.** -/
theorem ACalls.pureK {g : FuncId} {args : List Value} {Q : Value → Prop} (hc : ClosedSt S.length S) (h : ACalls P g args S (fun r S' => Keeps S S' ∧ Closed S.length r ∧ Q r)) : ACalls P g args S (fun r S' => S' = S ∧ Q r) :=
  ACalls.weak (h.mono fun r S' ⟨hk, hr, hq⟩ => ⟨r, S, hk.1, WkR.keeps hc hk hr, rfl, hq⟩)
/-- A call by its body. -/
theorem ACalls.ofK (ok : TabOk P T) {g : FuncId} {fn : Func} {c : Code} {args : List Value} {Q : Value → Prop}
    (henter : ∀ cargs w, (callFunc g cargs).run P w = .ok (.enter g cargs) w) (hf : P.funcs[g]? = some fn) (hb : fn.body = some c) {m : Nat} (hm : fn.ntmps = m) (hle : args.length ≤ m)
    {rs : List ResultVar} (hrs : fn.results.toList = rs)
    (h : ClosedSt S.length S → (∀ v ∈ args, Closed S.length v) → AWp P m S.length c (EndA T m rs (fun r S' => Keeps S S' ∧ Closed S.length r ∧ Q r)) (fr0 args) S) : ACalls P g args S (fun r S' => S' = S ∧ Q r) :=
  ACalls.closed henter fun hc => ACalls.pureK hc (ACalls.of ok henter hf hb hm hle hrs h)
end
/-- One frame for another that says less. -/
theorem Wk.fr {m n : Nat} {f : Fr} {S : St} {l : List (Nat × Value)} (h : ∀ p ∈ l, f p.1 = p.2) : Wk m n f S (frL l) S := Wk.frame h

/-! regions that draw their order, with forks in their midst -/
section
variable {P : Program} {T : Tab} {m n : Nat} {f : Fr} {S : St} {ops : Array Oper} {K : Fr → St → Prop}
/-- A part of an order: kind 1: the only one that may come up; else: reads no memory, and is taken first. -/
def planG (ops : Array Oper) : List (Nat × Nat) → Array Bool → Option (Array Bool)
  | [], listed => some listed
  | (i, 1) :: p, listed => if Region.ready .any ops listed == [i] then planG ops p (listed.setIfInBounds i true) else none
  | (i, 3) :: p, listed => if (Region.ready .any ops listed).contains i && Region.free .any ops listed i && ((ops[i]?).map (lightB ·.op)).getD false then planG ops p (listed.setIfInBounds i true) else none
  | _, _ => none
theorem aPlan_go {fuel : Nat} {l' : Array Bool} : ∀ (p : List (Nat × Nat)) (listed : Array Bool) (f : Fr) (S : St), planG ops p listed = some l' →
    aPlan P T m ops [] (fun f' S' => aAny P T m ops [] [] K fuel l' f' S') p f S → aAny P T m ops [] [] K (fuel + p.length) listed f S
  | [], listed, f, S, hB, h => by
    simp only [planG, Option.some.injEq] at hB
    subst hB
    exact h
  | (i, 0) :: p, listed, f, S, hB, h => by simp [planG] at hB
  | (i, 1) :: p, listed, f, S, hB, h => by
    simp only [planG] at hB
    split at hB
    · rename_i hr
      simp only [beq_iff_eq] at hr
      refine ⟨fun h0 => (by rw [hr] at h0; cases h0), fun j hj => ?_⟩
      rw [hr] at hj
      obtain rfl : j = i := by simpa using hj
      simp only [aPlan, aOpI] at h ⊢
      split at h
      · exact h.elim
      · exact aOp_mono h fun f' S' q => ⟨fun _ _ => q.1, aPlan_go p _ f' S' hB q.2⟩
    · cases hB
  | (i, 2) :: p, listed, f, S, hB, h => by simp [planG] at hB
  | (i, 3) :: p, listed, f, S, hB, h => by
    simp only [planG] at hB
    split at hB
    · rename_i hc
      simp only [Bool.and_eq_true] at hc
      obtain ⟨⟨hr, hfr⟩, hl⟩ := hc
      obtain ⟨oi, v, hi, hy, hk⟩ := aOpI_light hl h
      exact aAny_first (T1 := []) hi (.inl rfl) (fuel + p.length) listed f S (Region.free_spec hi hfr) (by simpa using hr) hy (le_nil S) (aPlan_go p _ _ S hB hk)
    · cases hB
  | (i, k + 4) :: p, listed, f, S, hB, h => by simp [planG] at hB
/-- A region that draws its order, looked at order by order. -/
theorem AWp.anyK (ok : TabOk P T) (hm : P.follows .mixedOrders = true) {Q : Exit → Fr → St → Prop} {id : Nat}
    (h : ∀ K : Fr → St → Prop, (∀ f S, Q .normal f S → K f S) → aAny P T m ops [] [] K ops.size (Array.replicate ops.size false) f S) : AWp P m n (.region id ops true) Q f S := by
  refine AWp.draws ok hm [] [] ops.size (Array.replicate ops.size false) rfl (by simp) (le_nil S) fun K hK => ?_
  exact fun _ => h K hK
theorem AWp.seq_any (ok : TabOk P T) (hm : P.follows .mixedOrders = true) {Q : Exit → Fr → St → Prop} {id : Nat} {y : Code}
    (h : ∀ K : Fr → St → Prop, (∀ f S, AWp P m n y Q f S → K f S) → aAny P T m ops [] [] K ops.size (Array.replicate ops.size false) f S) : AWp P m n (.seq (.region id ops true) y) Q f S :=
  AWp.seq (AWp.anyK ok hm fun K hK => h K hK)
theorem leNil (S : St) : Le [] S = True := eq_true (le_nil S)
end
end Go.Ab
