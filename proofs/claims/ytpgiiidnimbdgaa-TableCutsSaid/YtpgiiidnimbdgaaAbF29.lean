/- Bytes, numbers and the check: plain; arguments opened. -/
import Derived.Test.YtpgiiidnimbdgaaAbG1
import Derived.Test.YtpgiiidnimbdgaaAbR
namespace Go.Proofs.Ytpgiiidnimbdgaa
open Go.Ab
set_option linter.unusedSimpArgs false
set_option linter.unusedVariables false
set_option maxRecDepth 4000

/-! numbers as bytes -/
theorem beV_cons (x : Nat) (l : List Nat) : beV (x :: l) = x * 256 ^ l.length + beV l := by
  have key : ∀ (l : List Nat) (n : Nat), l.foldl (fun n x => n * 256 + x) n = n * 256 ^ l.length + beV l := by
    intro l
    induction l with
    | nil => intro n; simp [beV]
    | cons y l ih =>
      intro n
      have e1 := ih (n * 256 + y)
      have e2 := ih y
      simp only [beV, List.foldl_cons, List.length_cons] at *
      rw [e1, Nat.zero_mul, Nat.zero_add, e2, Nat.pow_succ, Nat.add_mul, Nat.mul_assoc, Nat.mul_comm 256, Nat.add_assoc]
  have := key l x
  simpa [beV] using this
theorem beV_beN : ∀ (k v : Nat), v < 256 ^ k → beV (beN k v) = v
  | 0, v, h => by simp at h; subst h; rfl
  | k + 1, v, h => by
    have hm := beV_beN k (v % 256 ^ k) (Nat.mod_lt _ (Nat.pow_pos (by decide)))
    have e : beN k v = beN k (v % 256 ^ k) := by
      have key : ∀ (j : Nat), j ≤ k → beN j v = beN j (v % 256 ^ k) := by
        intro j
        induction j with
        | zero => intro _; rfl
        | succ j ih =>
          intro hj
          simp only [beN]
          rw [ih (by omega)]
          congr 1
          have e1 : 256 ^ k = 256 ^ j * 256 ^ (k - j) := by rw [← Nat.pow_add]; congr 1; omega
          have e2 : 256 ^ (k - j) = 256 * 256 ^ (k - j - 1) := by rw [← Nat.pow_succ']; congr 1; omega
          rw [e1, Nat.mod_mul_right_div_self, e2, Nat.mod_mul_right_mod]
      exact key k (Nat.le_refl _)
    rw [beN, beV_cons, e, hm, beN_len]
    have h1 : v / 256 ^ k < 256 := Nat.div_lt_of_lt_mul (by rw [Nat.pow_succ] at h; exact h)
    rw [Nat.mod_eq_of_lt h1, Nat.mul_comm]
    exact Nat.div_add_mod v (256 ^ k)
theorem beN_beV : ∀ {l : List Nat}, IsBy l → beN l.length (beV l) = l
  | [], _ => rfl
  | x :: l, h => by
    have hx := h x (by simp)
    have hl : IsBy l := fun y hy => h y (by simp [hy])
    have hlt := beV_lt hl
    have e1 : (x * 256 ^ l.length + beV l) / 256 ^ l.length = x := by
      rw [Nat.mul_comm, Nat.mul_add_div (Nat.pow_pos (by decide)), Nat.div_eq_of_lt hlt, Nat.add_zero]
    have e2 : beN l.length (x * 256 ^ l.length + beV l) = beN l.length (beV l) := by
      have key : ∀ (j : Nat), j ≤ l.length → beN j (x * 256 ^ l.length + beV l) = beN j (beV l) := by
        intro j
        induction j with
        | zero => intro _; rfl
        | succ j ih =>
          intro hj
          simp only [beN]
          rw [ih (by omega)]
          congr 1
          have e1 : x * 256 ^ l.length = 256 ^ j * (256 * (x * 256 ^ (l.length - j - 1))) := by
            have : 256 ^ l.length = 256 ^ j * (256 * 256 ^ (l.length - j - 1)) := by rw [← Nat.pow_succ', ← Nat.pow_add]; congr 1; omega
            rw [this]
            simp only [Nat.mul_assoc, Nat.mul_left_comm]
          rw [e1, Nat.mul_add_div (Nat.pow_pos (by decide)), Nat.mul_add_mod]
      exact key _ (Nat.le_refl _)
    rw [List.length_cons, beN, beV_cons, e1, e2, beN_beV hl, Nat.mod_eq_of_lt hx]

/-! what was written is read -/
def rdA (A T : List Nat) : Rd := ⟨A ++ T, A.length, none⟩
theorem rdA_err (A T : List Nat) : (rdA A T).err = none := rfl
theorem rdA_drop (A T : List Nat) : (rdA A T).bs.drop (rdA A T).at_ = T := by simp [rdA]
theorem take_be (A T : List Nat) {k v : Nat} (h : v < 256 ^ k) : (rdA A (beN k v ++ T)).takeV k = v ∧ (rdA A (beN k v ++ T)).takeR k = rdA (A ++ beN k v) T := by
  have hm : (rdA A (beN k v ++ T)).more k = true := by simp [Rd.more, rdA, beN_len]
  constructor
  · unfold Rd.takeV
    rw [if_pos hm, rdA_drop, List.take_left' (beN_len k v), beV_beN k v h]
  · unfold Rd.takeR
    rw [if_pos hm]
    simp [rdA, beN_len]
theorem openB_seal (l : List Nat) : openB (sealB l) = some l := by
  have h1 : (sealB l).length - 4 = l.length := by rw [sealB_len]; omega
  have h2 : (sealB l).take l.length = l := by simp [sealB]
  unfold openB
  rw [if_neg (by rw [sealB_len]; omega), h1, h2, if_pos rfl]
theorem endA (A T : List Nat) : (rdA A T).endE = if T = [] then [] else [(5, (A.length : Int))] := by
  unfold Rd.endE
  cases T with
  | nil => simp [rdA]
  | cons x T => simp [rdA]
theorem openB_sub {l inn : List Nat} (h : openB l = some inn) : inn = l.take (l.length - 4) ∧ l = sealB inn := by
  unfold openB at h
  split at h
  · cases h
  · split at h
    · rename_i h2
      cases h
      exact ⟨rfl, h2.symm⟩
    · cases h
/-! readers stay sound -/
def OkE (r : Rd) : Prop := r.Ok ∧ ∀ a, r.err = some a → a ≤ 140737488355328
theorem OkE.more {r : Rd} (h : OkE r) (n : Nat) : OkE (r.moreR n) := by
  refine ⟨h.1.more n, fun a ha => ?_⟩
  unfold Rd.moreR at ha
  split at ha
  · have h1 : r.at_ = a := by simpa using ha
    have := h.1.le
    have := h.1.len
    omega
  · exact h.2 a ha
theorem OkE.take {r : Rd} (h : OkE r) (n : Nat) : OkE (r.takeR n) := by
  refine ⟨h.1.take n, ?_⟩
  unfold Rd.takeR
  split
  · exact h.2
  · exact (h.more n).2
theorem moreR_none {r : Rd} {n : Nat} (h : r.more n = false) : (r.moreR n).err ≠ none := by
  unfold Rd.moreR
  unfold Rd.more at h
  cases hr : r.err with
  | some a =>
    rw [if_neg (by simp)]
    rw [hr]
    simp
  | none =>
    rw [hr] at h
    simp at h
    rw [if_pos (by simp; omega)]
    simp
/-! the check -/
theorem crcBit_inj {r r' : Nat} (h : r < 4294967296) (h' : r' < 4294967296) (e : crcBit r = crcBit r') : r = r' := by
  have hx : ∀ a, a < 2147483648 → a ^^^ 3988292384 ≥ 2147483648 := by
    intro a ha
    have h1 : (a ^^^ 3988292384).testBit 31 = true := by
      rw [Nat.testBit_xor, Nat.testBit_lt_two_pow (by omega : a < 2 ^ 31)]
      decide
    have := Nat.ge_two_pow_of_testBit h1
    omega
  have hc : ∀ a b, a ^^^ 3988292384 = b ^^^ 3988292384 → a = b := by
    intro a b e
    have := congrArg (· ^^^ 3988292384) e
    simpa [Nat.xor_assoc] using this
  have g1 : r / 2 < 2147483648 := by omega
  have g2 : r' / 2 < 2147483648 := by omega
  have x1 := hx _ g1
  have x2 := hx _ g2
  unfold crcBit at e
  split at e <;> split at e
  · have := hc _ _ e
    omega
  · omega
  · omega
  · omega
theorem crcBits_inj : ∀ (k : Nat) {r r' : Nat}, r < 4294967296 → r' < 4294967296 → crcBits k r = crcBits k r' → r = r'
  | 0, _, _, _, _, e => e
  | k + 1, r, r', h, h', e => crcBit_inj h h' (crcBits_inj k (crcBit_lt h) (crcBit_lt h') e)
theorem xor_inj {a b c : Nat} (e : a ^^^ c = b ^^^ c) : a = b := by
  have := congrArg (· ^^^ c) e
  simpa [Nat.xor_assoc] using this
theorem crcByte_inj {r r' x x' : Nat} (h : r < 4294967296) (h' : r' < 4294967296) (hx : x < 256) (hx' : x' < 256) (e : crcByte r x = crcByte r' x') : r ^^^ x = r' ^^^ x' :=
  crcBits_inj 8 (Nat.xor_lt_two_pow (n := 32) (by omega) (by omega)) (Nat.xor_lt_two_pow (n := 32) (by omega) (by omega)) e
theorem crcReg_inj : ∀ {l : List Nat} {r r' : Nat}, IsBy l → r < 4294967296 → r' < 4294967296 → crcReg r l = crcReg r' l → r = r'
  | [], _, _, _, _, _, e => e
  | x :: l, r, r', hl, h, h', e => by
    have hx := hl x (by simp)
    exact xor_inj (crcByte_inj h h' hx hx (crcReg_inj (l := l) (fun y hy => hl y (by simp [hy])) (crcByte_lt h hx) (crcByte_lt h' hx) e))
theorem crcSum_set {l : List Nat} (hl : IsBy l) {i x y : Nat} (hx : l[i]? = some x) (hy : y < 256) (hne : x ≠ y) : crcSum (l.set i y) ≠ crcSum l := by
  intro e
  have hi := (List.getElem?_eq_some_iff.1 hx).1
  have hx256 := hl x (List.mem_of_getElem? hx)
  have e1 : l = l.take i ++ x :: l.drop (i + 1) := by
    have : l[i] = x := (List.getElem?_eq_some_iff.1 hx).2
    rw [← this, ← List.drop_eq_getElem_cons hi, List.take_append_drop]
  have e2 : l.set i y = l.take i ++ y :: l.drop (i + 1) := by rw [List.set_eq_take_append_cons_drop, if_pos hi]
  unfold crcSum at e
  have e3 : crcReg 4294967295 (l.set i y) = crcReg 4294967295 l := by
    rw [Nat.xor_comm 4294967295, Nat.xor_comm 4294967295] at e
    exact xor_inj e
  have hr := crcReg_lt (hl.take i) (by omega : 4294967295 < 4294967296)
  rw [e2] at e3
  conv at e3 => rhs; rw [e1]
  unfold crcReg at *
  rw [List.foldl_append, List.foldl_append, List.foldl_cons, List.foldl_cons] at e3
  generalize (l.take i).foldl crcByte 4294967295 = r at *
  have e4 := crcReg_inj (l := l.drop (i + 1)) (hl.drop _) (crcByte_lt hr hy) (crcByte_lt hr hx256) e3
  have e5 := crcByte_inj hr hr hy hx256 e4
  rw [Nat.xor_comm r, Nat.xor_comm r] at e5
  exact hne (xor_inj e5).symm
/-- One other byte: it is not sealed. -/
theorem openB_spoil {l : List Nat} (hl : IsBy l) {i x y : Nat} (hx : (sealB l)[i]? = some x) (hy : y < 256) (hne : x ≠ y) : openB ((sealB l).set i y) = none := by
  have hlen : ((sealB l).set i y).length = l.length + 4 := by rw [List.length_set, sealB_len]
  have hi := (List.getElem?_eq_some_iff.1 hx).1
  unfold openB
  rw [if_neg (by omega), if_neg (fun e => ?_)]
  have h4 : ((sealB l).set i y).length - 4 = l.length := by omega
  rw [h4] at e
  have hs : sealB l = l ++ le4 (crcSum l) := rfl
  rcases Nat.lt_or_ge i l.length with hlt | hge
  · have e1 : (sealB l).set i y = l.set i y ++ le4 (crcSum l) := by rw [hs, List.set_append, if_pos hlt]
    have e2 : ((sealB l).set i y).take l.length = l.set i y := by rw [e1]; exact List.take_left' (by simp)
    rw [e2, e1] at e
    have e3 : le4 (crcSum (l.set i y)) = le4 (crcSum l) := List.append_cancel_left e
    have hx' : l[i]? = some x := by rw [hs, List.getElem?_append_left hlt] at hx; exact hx
    have hby' : IsBy (l.set i y) := fun z hz => by
      rcases List.mem_or_eq_of_mem_set hz with q | q
      · exact hl z q
      · omega
    have e4 := congrArg leV e3
    rw [leV_le4 (crcSum_lt hby'), leV_le4 (crcSum_lt hl)] at e4
    exact crcSum_set hl hx' hy hne e4
  · have e1 : ((sealB l).set i y).take l.length = l := by
      rw [List.take_set_of_le hge, hs]
      exact List.take_left' rfl
    rw [e1] at e
    have := congrArg (fun q => q[i]?) e
    rw [hx, List.getElem?_set_self hi] at this
    exact hne (Option.some.inj this)
/-! arguments -/
theorem map_of {α : Type} (g : α → List Value) : ∀ (ys : List (List Value)), (∀ y ∈ ys, ∃ p, y = g p) → ∃ ps : List α, ys = ps.map g
  | [], _ => ⟨[], rfl⟩
  | y :: ys, h => by
    obtain ⟨p, hp⟩ := h y (by simp)
    obtain ⟨ps, hps⟩ := map_of g ys (fun z hz => h z (by simp [hz]))
    exact ⟨p :: ps, by rw [hp, hps]; rfl⟩
theorem nat_of {n : Int} {N : Nat} (h0 : 0 ≤ n) (h1 : n ≤ N) : ∃ k : Nat, n = k ∧ k ≤ N := by
  obtain ⟨k, rfl⟩ := Int.eq_ofNat_of_zero_le h0
  exact ⟨k, rfl, by omega⟩
theorem lies_u8 {S : St} {t : TypeId} {us : List Value} (h : Lies Try.prog S t us) (ht : Try.prog.underlying t = some (.int .u8)) : ∃ n : Nat, us = [.int .u8 (n : Int)] ∧ n ≤ 255 := by
  obtain ⟨n, rfl, hw⟩ := h.int_ ht
  simp [Lit.wf, IntKind.min, IntKind.max, IntKind.signed, IntKind.bits] at hw
  obtain ⟨k, rfl, hk⟩ := nat_of (N := 255) hw.1 (by simpa using hw.2)
  exact ⟨k, rfl, hk⟩
theorem lies_u16 {S : St} {t : TypeId} {us : List Value} (h : Lies Try.prog S t us) (ht : Try.prog.underlying t = some (.int .u16)) : ∃ n : Nat, us = [.int .u16 (n : Int)] ∧ n ≤ 65535 := by
  obtain ⟨n, rfl, hw⟩ := h.int_ ht
  simp [Lit.wf, IntKind.min, IntKind.max, IntKind.signed, IntKind.bits] at hw
  obtain ⟨k, rfl, hk⟩ := nat_of (N := 65535) hw.1 (by simpa using hw.2)
  exact ⟨k, rfl, hk⟩
theorem lies_u32 {S : St} {t : TypeId} {us : List Value} (h : Lies Try.prog S t us) (ht : Try.prog.underlying t = some (.int .u32)) : ∃ n : Nat, us = [.int .u32 (n : Int)] ∧ n ≤ 4294967295 := by
  obtain ⟨n, rfl, hw⟩ := h.int_ ht
  simp [Lit.wf, IntKind.min, IntKind.max, IntKind.signed, IntKind.bits] at hw
  obtain ⟨k, rfl, hk⟩ := nat_of (N := 4294967295) hw.1 (by simpa using hw.2)
  exact ⟨k, rfl, hk⟩
theorem lies22 {S : St} {us : List Value} (h : Lies Try.prog S 22 us) : ∃ v l, us = [v] ∧ SlB S v l ∧ IsBy l ∧ l.length ≤ 140737488351232 := by
  obtain ⟨o, xs, rfl, hS, hb, hm, hl, hx⟩ := h.slice_ Try.underlying22
  have hb1 : Try.prog.bytesOf 5 = 1 := by kernel_rfl
  have hr : reachBytes = 140737488351232 := rfl
  rw [hb1, hr] at hb
  have : ∃ ps : List { n : Nat // n ≤ 255 }, xs = ps.map fun p => [Value.int .u8 (p.1 : Int)] := map_of _ xs fun y hy => by
    obtain ⟨n, h1, h2⟩ := lies_u8 (hx y hy) Try.underlying5
    exact ⟨⟨n, h2⟩, h1⟩
  obtain ⟨ps, rfl⟩ := this
  have e1 : (ps.map fun p => [Value.int IntKind.u8 (p.1 : Int)]).flatten = bys (ps.map (·.1)) := by
    clear hb hm hl hx hS h
    induction ps with
    | nil => rfl
    | cons p ps ih => rw [List.map_cons, List.flatten_cons, ih]; rfl
  rw [e1] at hS
  refine ⟨_, ps.map (·.1), rfl, ⟨.inr ⟨o, 0, 0, false, bys (ps.map (·.1)), by simp, hS, by rw [bys_len]; omega, by rw [List.drop_zero, ← bys_len, List.take_length], .inl rfl⟩⟩, fun x hx => ?_, by simpa using hb⟩
  obtain ⟨p, _, rfl⟩ := List.mem_map.1 hx
  have := p.2
  omega
theorem arg22 {S : St} {u : Value} (h : ArgL Try.prog S 22 u) : ∃ l, SlB S u l ∧ IsBy l ∧ l.length ≤ 140737488351232 := by
  simp only [ArgL, Try.underlying22] at h
  obtain ⟨v, l, h1, h2⟩ := lies22 h
  cases h1
  exact ⟨l, h2⟩
end Go.Proofs.Ytpgiiidnimbdgaa
