/- What is read as a frame was written so; a frame's beginning is none; the check sees one other byte: plain. -/
import Derived.Test.YtpgiiidnimbdgaaAbF22
namespace Go.Proofs.Ytpgiiidnimbdgaa
open Go.Ab
set_option linter.unusedSimpArgs false
set_option linter.unusedVariables false

/-- From r to r' the bytes L were taken, if nothing fell short. -/
def Eats (r r' : Rd) (L : List Nat) : Prop := r'.bs = r.bs ∧ (r'.err = none → r.err = none ∧ r'.at_ = r.at_ + L.length ∧ (r.bs.drop r.at_).take L.length = L ∧ r.at_ + L.length ≤ r.bs.length)
theorem Eats.refl {r : Rd} (h : r.at_ ≤ r.bs.length) : Eats r r [] := ⟨rfl, fun he => ⟨he, rfl, rfl, by simpa using h⟩⟩
theorem Eats.trans {r r' r'' : Rd} {L L' : List Nat} (h : Eats r r' L) (h' : Eats r' r'' L') : Eats r r'' (L ++ L') := by
  refine ⟨h'.1.trans h.1, fun he => ?_⟩
  obtain ⟨a1, a2, a3, a4⟩ := h'.2 he
  obtain ⟨b1, b2, b3, b4⟩ := h.2 a1
  rw [h.1] at a3 a4
  rw [b2] at a2 a3 a4
  refine ⟨b1, by rw [a2, List.length_append]; omega, ?_, by rw [List.length_append]; omega⟩
  rw [List.length_append, List.take_add, b3, List.drop_drop, a3]
theorem moreR_none {r : Rd} {n : Nat} (h : r.more n = false) : (r.moreR n).err ≠ none := by
  unfold Rd.moreR
  unfold Rd.more at h
  cases hr : r.err with
  | some a =>
    rw [if_neg (by simp)]
    rw [hr]
    simp
  | none =>
    rw [hr] at h
    simp at h
    rw [if_pos (by simp; omega)]
    simp
theorem eats_take {r : Rd} (h : r.Ok) (k : Nat) : Eats r (r.takeR k) (beN k (r.takeV k)) := by
  refine ⟨r.takeR_bs k, fun he => ?_⟩
  cases hm : r.more k with
  | false =>
    unfold Rd.takeR at he
    rw [if_neg (by rw [hm]; decide)] at he
    exact absurd he (moreR_none hm)
  | true =>
    have h2 : r.err.isNone = true ∧ k ≤ r.bs.length - r.at_ := by simpa [Rd.more] using hm
    have hle := h.le
    have hl : ((r.bs.drop r.at_).take k).length = k := by simp; omega
    have e1 : beN k (r.takeV k) = (r.bs.drop r.at_).take k := by
      unfold Rd.takeV
      rw [if_pos hm]
      have := beN_beV ((h.by_.drop r.at_).take k)
      rw [hl] at this
      exact this
    rw [e1, hl]
    refine ⟨by simpa using h2.1, ?_, rfl, by omega⟩
    unfold Rd.takeR
    rw [if_pos hm]
theorem eats_text {r : Rd} (h : r.Ok) : Eats r r.textR (r.textL.length :: r.textL) := by
  refine ⟨r.textR_bs, fun he => ?_⟩
  cases hm : r.textB with
  | false =>
    unfold Rd.textR at he
    rw [if_neg (by rw [hm]; decide)] at he
    unfold Rd.textB at hm
    cases h1 : r.more 1 with
    | false =>
      rw [h1, if_neg (by decide)] at he
      exact absurd he (moreR_none h1)
    | true =>
      rw [h1, if_pos rfl] at he
      rw [h1] at hm
      exact absurd he (moreR_none (by simpa using hm))
  | true =>
    have hb := hm
    unfold Rd.textB at hm
    simp only [Bool.and_eq_true] at hm
    have h2 : r.err.isNone = true ∧ 1 + r.n ≤ r.bs.length - r.at_ := by simpa [Rd.more] using hm.2
    have hle := h.le
    have hlt : r.at_ < r.bs.length := by omega
    have hL : r.textL = (r.bs.drop (r.at_ + 1)).take r.n := by unfold Rd.textL; rw [if_pos hb]
    have hl : ((r.bs.drop (r.at_ + 1)).take r.n).length = r.n := by simp; omega
    have hn : r.n = r.bs[r.at_] := by unfold Rd.n; rw [List.getD_eq_getElem?_getD, List.getElem?_eq_getElem hlt]; rfl
    rw [hL, hl]
    refine ⟨by simpa using h2.1, ?_, ?_, ?_⟩
    · unfold Rd.textR
      rw [if_pos hb, List.length_cons, hl]
      dsimp only
      omega
    · rw [List.length_cons, hl, List.drop_eq_getElem_cons hlt, List.take_succ_cons, ← hn]
    · rw [List.length_cons, hl]; omega
theorem rdM_eats : ∀ (n : Nat) (r : Rd) (ms : List Msg), OkE r → ∃ new, (rdM n r ms).1 = ms ++ new ∧ Eats r (rdM n r ms).2 (new.flatMap msgB) ∧ ((rdM n r ms).2.err = none → new.length = n) ∧ ∀ m ∈ new, IsBy m.data
  | 0, r, ms, h => ⟨[], by simp [rdM], by exact Eats.refl h.1.le, fun _ => rfl, fun m hm => by simp at hm⟩
  | n + 1, r, ms, h => by
    unfold rdM
    split
    · obtain ⟨new, h1, h2, h3, h4⟩ := rdM_eats n _ (ms ++ [⟨((r.takeV 1 : Nat) : Int), (r.takeR 1).textL⟩]) (h.take 1).text
      refine ⟨⟨((r.takeV 1 : Nat) : Int), (r.takeR 1).textL⟩ :: new, by rw [h1]; simp, ?_, fun he => by rw [List.length_cons, h3 he], fun m hm => ?_⟩
      · have e1 : (⟨((r.takeV 1 : Nat) : Int), (r.takeR 1).textL⟩ :: new).flatMap msgB = beN 1 (r.takeV 1) ++ ((r.takeR 1).textL.length :: (r.takeR 1).textL) ++ new.flatMap msgB := by simp [msgB]
        rw [e1]
        exact ((eats_take h.1 1).trans (eats_text (h.take 1).1)).trans h2
      · rcases List.mem_cons.1 hm with rfl | q
        · exact Rd.textL_by (h.take 1).1
        · exact h4 m q
    · rename_i hne
      exact ⟨[], by simp, Eats.refl h.1.le, fun he => absurd he hne, fun m hm => by simp at hm⟩
theorem rdR_eats : ∀ (n : Nat) (r : Rd) (rs : List Rec), OkE r → ∃ new, (rdR n r rs).1 = rs ++ new ∧ Eats r (rdR n r rs).2 (new.flatMap recB) ∧ ((rdR n r rs).2.err = none → new.length = n) ∧ ∀ x ∈ new, x.round < 4294967296 ∧ x.node < 256 ∧ x.part < 256 ∧ x.kind < 256 ∧ x.did < 256
  | 0, r, rs, h => ⟨[], by simp [rdR], by exact Eats.refl h.1.le, fun _ => rfl, fun m hm => by simp at hm⟩
  | n + 1, r, rs, h => by
    unfold rdR
    split
    · have k1 := h.take 4
      have k2 := k1.take 1
      have k3 := k2.take 1
      have k4 := k3.take 1
      have k5 := k4.take 1
      obtain ⟨new, h1, h2, h3, h4⟩ := rdR_eats n (rdRecR r) (rs ++ [rdRec r]) k5
      refine ⟨rdRec r :: new, by rw [h1]; simp, ?_, fun he => by rw [List.length_cons, h3 he], fun m hm => ?_⟩
      · have e1 : (rdRec r :: new).flatMap recB = beN 4 (r.takeV 4) ++ beN 1 ((r.takeR 4).takeV 1) ++ beN 1 (((r.takeR 4).takeR 1).takeV 1) ++ beN 1 ((((r.takeR 4).takeR 1).takeR 1).takeV 1) ++ beN 1 (((((r.takeR 4).takeR 1).takeR 1).takeR 1).takeV 1) ++ new.flatMap recB := by simp [recB, rdRec]
        rw [e1]
        exact (((((eats_take h.1 4).trans (eats_take k1.1 1)).trans (eats_take k2.1 1)).trans (eats_take k3.1 1)).trans (eats_take k4.1 1)).trans h2
      · rcases List.mem_cons.1 hm with rfl | q
        · have b0 := takeV_lt h.1 (k := 4) (by omega)
          have b1 := takeV_lt k1.1 (k := 1) (by omega)
          have b2 := takeV_lt k2.1 (k := 1) (by omega)
          have b3 := takeV_lt k3.1 (k := 1) (by omega)
          have b4 := takeV_lt k4.1 (k := 1) (by omega)
          unfold rdRec
          dsimp only
          omega
        · exact h4 m q
    · rename_i hne
      exact ⟨[], by simp, Eats.refl h.1.le, fun he => absurd he hne, fun m hm => by simp at hm⟩
/-- What decoding comes to. -/
theorem decB_eats {inn : List Nat} (hl : IsBy inn) (hln : inn.length ≤ 140737488355328) : FrmOk (decB inn).1 ∧ (decB inn).2.bs = inn ∧ OkE (decB inn).2 ∧
    ((decB inn).2.err = none → (decB inn).2.at_ = (bodyB (decB inn).1).length ∧ inn.take (bodyB (decB inn).1).length = bodyB (decB inn).1 ∧ (bodyB (decB inn).1).length ≤ inn.length) := by
  have h0 : OkE ⟨inn, 0, none⟩ := ⟨⟨Nat.zero_le _, hl, hln⟩, fun a ha => by cases ha⟩
  have k1 := h0.take 1
  have k2 := k1.take 4
  have k3 : OkE (rdHeadR ⟨inn, 0, none⟩) := k2.take 1
  have k4 := k3.take 1
  have e1 := ((eats_take h0.1 1).trans (eats_take k1.1 4)).trans (eats_take k2.1 1)
  have e2 := eats_take k3.1 1
  obtain ⟨ms, m1, m2, m3, m4⟩ := rdM_eats ((rdHeadR ⟨inn, 0, none⟩).takeV 1) ((rdHeadR ⟨inn, 0, none⟩).takeR 1) [] k4
  have k5 : OkE (rdMs (rdHeadR ⟨inn, 0, none⟩)).2 := (rdM_ok _ _ _ k4).1
  have k6 := k5.take 1
  have k7 := k6.take 1
  have k8 := k7.take 2
  have k9 : OkE (rdCmdR (rdMs (rdHeadR ⟨inn, 0, none⟩)).2) := k8.take 2
  have k10 := k9.take 1
  have e3 := (((eats_take k5.1 1).trans (eats_take k6.1 1)).trans (eats_take k7.1 2)).trans (eats_take k8.1 2)
  have e4 := eats_take k9.1 1
  obtain ⟨rs, r1, r2, r3, r4⟩ := rdR_eats ((rdCmdR (rdMs (rdHeadR ⟨inn, 0, none⟩)).2).takeV 1) ((rdCmdR (rdMs (rdHeadR ⟨inn, 0, none⟩)).2).takeR 1) [] k10
  have k11 : OkE (decB inn).2 := (rdR_ok _ _ _ k10).1
  have b1 := takeV_lt h0.1 (k := 1) (by omega)
  have b2 := takeV_lt k1.1 (k := 4) (by omega)
  have b3 := takeV_lt k2.1 (k := 1) (by omega)
  have b5 := takeV_lt k5.1 (k := 1) (by omega)
  have b6 := takeV_lt k6.1 (k := 1) (by omega)
  have b7 := takeV_lt k7.1 (k := 2) (by omega)
  have b8 := takeV_lt k8.1 (k := 2) (by omega)
  rw [List.nil_append] at m1 r1
  have f1 : (decB inn).1.ms = ms := m1
  have f2 : (decB inn).1.rs = rs := r1
  have hall := ((((e1.trans e2).trans m2).trans e3).trans e4).trans r2
  have hbs : (decB inn).2.bs = inn := hall.1
  refine ⟨⟨by exact b1, by exact b2, by exact b3, by exact b5, by exact b6, by exact b7, by exact b8, fun m hm => m4 m (by rw [← f1]; exact hm), fun r hr => r4 r (by rw [← f2]; exact hr)⟩, hbs, k11, fun he => ?_⟩
  have n2 := r3 he
  have he9 := ((e4.trans r2).2 he).1
  have he5 := (e3.2 he9).1
  have n1 := m3 he5
  have eB : bodyB (decB inn).1 = beN 1 ((⟨inn, 0, none⟩ : Rd).takeV 1) ++ beN 4 (((⟨inn, 0, none⟩ : Rd).takeR 1).takeV 4) ++ beN 1 ((((⟨inn, 0, none⟩ : Rd).takeR 1).takeR 4).takeV 1) ++ beN 1 ((rdHeadR ⟨inn, 0, none⟩).takeV 1) ++ ms.flatMap msgB ++
      (beN 1 ((rdMs (rdHeadR ⟨inn, 0, none⟩)).2.takeV 1) ++ beN 1 (((rdMs (rdHeadR ⟨inn, 0, none⟩)).2.takeR 1).takeV 1) ++ beN 2 ((((rdMs (rdHeadR ⟨inn, 0, none⟩)).2.takeR 1).takeR 1).takeV 2) ++ beN 2 (((((rdMs (rdHeadR ⟨inn, 0, none⟩)).2.takeR 1).takeR 1).takeR 2).takeV 2)) ++
      beN 1 ((rdCmdR (rdMs (rdHeadR ⟨inn, 0, none⟩)).2).takeV 1) ++ rs.flatMap recB := by
    unfold bodyB midB headB
    rw [f1, f2, n1, n2]
    simp only [List.nil_append, List.append_assoc]
    rfl
  rw [eB]
  obtain ⟨_, a2, a3, a4⟩ := hall.2 he
  refine ⟨?_, ?_, ?_⟩
  · have : (decB inn).2.at_ = 0 + _ := a2
    rw [this, Nat.zero_add]
  · exact a3
  · have : 0 + _ ≤ inn.length := a4
    rw [Nat.zero_add] at this
    exact this
/-- What is read without an error was written so. -/
theorem decF_inv {l : List Nat} (hl : IsBy l) (hln : l.length ≤ 140737488355328) (h : (decF l).2 = []) : chkE (decF l).1 = [] ∧ FrmOk (decF l).1 ∧ encB (decF l).1 = l := by
  unfold decF at *
  split at h
  · simp at h
  · rename_i inn hop
    obtain ⟨hi, hs⟩ := openB_sub hop
    have hib : IsBy inn := by rw [hi]; exact hl.take _
    have hil : inn.length ≤ 140737488355328 := by rw [hi]; simp; omega
    obtain ⟨p1, p2, p3, p4⟩ := decB_eats hib hil
    unfold decE at *
    split at h
    · rename_i hes
      obtain ⟨e1, e2⟩ := thenE_nil hes
      dsimp only
      have he : (decB inn).2.err = none ∧ ¬ (decB inn).2.at_ < (decB inn).2.bs.length := by
        unfold Rd.endE at e1
        cases hr : (decB inn).2.err with
        | some a => rw [hr] at e1; simp at e1
        | none =>
          rw [hr] at e1
          dsimp only at e1
          split at e1
          · simp at e1
          · rename_i hlt; exact ⟨rfl, hlt⟩
      obtain ⟨q1, q2, q3⟩ := p4 he.1
      have hlt := he.2
      rw [p2, q1] at hlt
      rw [List.take_of_length_le (by omega)] at q2
      refine ⟨e2, p1, ?_⟩
      unfold encB
      rw [← q2, ← hs]
    · simp at h
/-- A frame's beginning is no frame. -/
theorem decF_short {f : Frm} (hf : FrmOk f) (h : chkE f = []) {n : Nat} (hn : n < (bodyB f).length) : (decF (sealB ((bodyB f).take n))).2 ≠ [] := by
  intro h2
  have hb := bodyB_by hf h
  have hlen := bodyB_len h
  have hby : IsBy (sealB ((bodyB f).take n)) := sealB_by (hb.take n)
  obtain ⟨q1, q2, q3⟩ := decF_inv hby (by rw [sealB_len]; simp; omega) h2
  generalize (decF (sealB ((bodyB f).take n))).1 = f' at *
  have e1 : bodyB f' = (bodyB f).take n := by
    have e2 := congrArg openB q3
    unfold encB at e2
    rw [openB_seal, openB_seal] at e2
    exact Option.some.inj e2
  have e3 := decB_be q2 q1 ((bodyB f).drop n)
  rw [e1, List.take_append_drop] at e3
  have e4 := decB_be hf h []
  rw [List.append_nil, e3] at e4
  have e5 := congrArg (fun p => p.2.at_) e4
  simp [rdA] at e5
  omega

/-! the check -/
theorem crcBit_inj {r r' : Nat} (h : r < 4294967296) (h' : r' < 4294967296) (e : crcBit r = crcBit r') : r = r' := by
  have hx : ∀ a, a < 2147483648 → a ^^^ 3988292384 ≥ 2147483648 := by
    intro a ha
    have h1 : (a ^^^ 3988292384).testBit 31 = true := by
      rw [Nat.testBit_xor, Nat.testBit_lt_two_pow (by omega : a < 2 ^ 31)]
      decide
    have := Nat.ge_two_pow_of_testBit h1
    omega
  have hc : ∀ a b, a ^^^ 3988292384 = b ^^^ 3988292384 → a = b := by
    intro a b e
    have := congrArg (· ^^^ 3988292384) e
    simpa [Nat.xor_assoc] using this
  have g1 : r / 2 < 2147483648 := by omega
  have g2 : r' / 2 < 2147483648 := by omega
  have x1 := hx _ g1
  have x2 := hx _ g2
  unfold crcBit at e
  split at e <;> split at e
  · have := hc _ _ e
    omega
  · omega
  · omega
  · omega
theorem crcBits_inj : ∀ (k : Nat) {r r' : Nat}, r < 4294967296 → r' < 4294967296 → crcBits k r = crcBits k r' → r = r'
  | 0, _, _, _, _, e => e
  | k + 1, r, r', h, h', e => crcBit_inj h h' (crcBits_inj k (crcBit_lt h) (crcBit_lt h') e)
theorem xor_inj {a b c : Nat} (e : a ^^^ c = b ^^^ c) : a = b := by
  have := congrArg (· ^^^ c) e
  simpa [Nat.xor_assoc] using this
theorem crcByte_inj {r r' x x' : Nat} (h : r < 4294967296) (h' : r' < 4294967296) (hx : x < 256) (hx' : x' < 256) (e : crcByte r x = crcByte r' x') : r ^^^ x = r' ^^^ x' :=
  crcBits_inj 8 (Nat.xor_lt_two_pow (n := 32) (by omega) (by omega)) (Nat.xor_lt_two_pow (n := 32) (by omega) (by omega)) e
theorem crcReg_inj : ∀ {l : List Nat} {r r' : Nat}, IsBy l → r < 4294967296 → r' < 4294967296 → crcReg r l = crcReg r' l → r = r'
  | [], _, _, _, _, _, e => e
  | x :: l, r, r', hl, h, h', e => by
    have hx := hl x (by simp)
    exact xor_inj (crcByte_inj h h' hx hx (crcReg_inj (l := l) (fun y hy => hl y (by simp [hy])) (crcByte_lt h hx) (crcByte_lt h' hx) e))
theorem crcSum_set {l : List Nat} (hl : IsBy l) {i x y : Nat} (hx : l[i]? = some x) (hy : y < 256) (hne : x ≠ y) : crcSum (l.set i y) ≠ crcSum l := by
  intro e
  have hi := (List.getElem?_eq_some_iff.1 hx).1
  have hx256 := hl x (List.mem_of_getElem? hx)
  have e1 : l = l.take i ++ x :: l.drop (i + 1) := by
    have : l[i] = x := (List.getElem?_eq_some_iff.1 hx).2
    rw [← this, ← List.drop_eq_getElem_cons hi, List.take_append_drop]
  have e2 : l.set i y = l.take i ++ y :: l.drop (i + 1) := by rw [List.set_eq_take_append_cons_drop, if_pos hi]
  unfold crcSum at e
  have e3 : crcReg 4294967295 (l.set i y) = crcReg 4294967295 l := by
    rw [Nat.xor_comm 4294967295, Nat.xor_comm 4294967295] at e
    exact xor_inj e
  have hr := crcReg_lt (hl.take i) (by omega : 4294967295 < 4294967296)
  rw [e2] at e3
  conv at e3 => rhs; rw [e1]
  unfold crcReg at *
  rw [List.foldl_append, List.foldl_append, List.foldl_cons, List.foldl_cons] at e3
  generalize (l.take i).foldl crcByte 4294967295 = r at *
  have e4 := crcReg_inj (l := l.drop (i + 1)) (hl.drop _) (crcByte_lt hr hy) (crcByte_lt hr hx256) e3
  have e5 := crcByte_inj hr hr hy hx256 e4
  rw [Nat.xor_comm r, Nat.xor_comm r] at e5
  exact hne (xor_inj e5).symm
/-- One other byte: it is not sealed. -/
theorem openB_spoil {l : List Nat} (hl : IsBy l) {i x y : Nat} (hx : (sealB l)[i]? = some x) (hy : y < 256) (hne : x ≠ y) : openB ((sealB l).set i y) = none := by
  have hlen : ((sealB l).set i y).length = l.length + 4 := by rw [List.length_set, sealB_len]
  have hi := (List.getElem?_eq_some_iff.1 hx).1
  unfold openB
  rw [if_neg (by omega), if_neg (fun e => ?_)]
  have h4 : ((sealB l).set i y).length - 4 = l.length := by omega
  rw [h4] at e
  have hs : sealB l = l ++ le4 (crcSum l) := rfl
  rcases Nat.lt_or_ge i l.length with hlt | hge
  · have e1 : (sealB l).set i y = l.set i y ++ le4 (crcSum l) := by rw [hs, List.set_append, if_pos hlt]
    have e2 : ((sealB l).set i y).take l.length = l.set i y := by rw [e1]; exact List.take_left' (by simp)
    rw [e2, e1] at e
    have e3 : le4 (crcSum (l.set i y)) = le4 (crcSum l) := List.append_cancel_left e
    have hx' : l[i]? = some x := by rw [hs, List.getElem?_append_left hlt] at hx; exact hx
    have hby' : IsBy (l.set i y) := fun z hz => by
      rcases List.mem_or_eq_of_mem_set hz with q | q
      · exact hl z q
      · omega
    have e4 := congrArg leV e3
    rw [leV_le4 (crcSum_lt hby'), leV_le4 (crcSum_lt hl)] at e4
    exact crcSum_set hl hx' hy hne e4
  · have e1 : ((sealB l).set i y).take l.length = l := by
      rw [List.take_set_of_le hge, hs]
      exact List.take_left' rfl
    rw [e1] at e
    have := congrArg (fun q => q[i]?) e
    rw [hx, List.getElem?_set_self hi] at this
    exact hne (Option.some.inj this)
end Go.Proofs.Ytpgiiidnimbdgaa
