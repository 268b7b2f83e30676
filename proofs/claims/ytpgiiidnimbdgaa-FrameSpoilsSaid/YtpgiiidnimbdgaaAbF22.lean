/- Frames written and read again; what is read is what was written: plain. -/
import Derived.Test.YtpgiiidnimbdgaaAbF21
namespace Go.Proofs.Ytpgiiidnimbdgaa
open Go.Ab
set_option linter.unusedSimpArgs false
set_option linter.unusedVariables false

/-! numbers as bytes -/
theorem beV_cons (x : Nat) (l : List Nat) : beV (x :: l) = x * 256 ^ l.length + beV l := by
  have key : ∀ (l : List Nat) (n : Nat), l.foldl (fun n x => n * 256 + x) n = n * 256 ^ l.length + beV l := by
    intro l
    induction l with
    | nil => intro n; simp [beV]
    | cons y l ih =>
      intro n
      have e1 := ih (n * 256 + y)
      have e2 := ih y
      simp only [beV, List.foldl_cons, List.length_cons] at *
      rw [e1, Nat.zero_mul, Nat.zero_add, e2, Nat.pow_succ, Nat.add_mul, Nat.mul_assoc, Nat.mul_comm 256, Nat.add_assoc]
  have := key l x
  simpa [beV] using this
theorem beV_beN : ∀ (k v : Nat), v < 256 ^ k → beV (beN k v) = v
  | 0, v, h => by simp at h; subst h; rfl
  | k + 1, v, h => by
    have hm := beV_beN k (v % 256 ^ k) (Nat.mod_lt _ (Nat.pow_pos (by decide)))
    have e : beN k v = beN k (v % 256 ^ k) := by
      have key : ∀ (j : Nat), j ≤ k → beN j v = beN j (v % 256 ^ k) := by
        intro j
        induction j with
        | zero => intro _; rfl
        | succ j ih =>
          intro hj
          simp only [beN]
          rw [ih (by omega)]
          congr 1
          have e1 : 256 ^ k = 256 ^ j * 256 ^ (k - j) := by rw [← Nat.pow_add]; congr 1; omega
          have e2 : 256 ^ (k - j) = 256 * 256 ^ (k - j - 1) := by rw [← Nat.pow_succ']; congr 1; omega
          rw [e1, Nat.mod_mul_right_div_self, e2, Nat.mod_mul_right_mod]
      exact key k (Nat.le_refl _)
    rw [beN, beV_cons, e, hm, beN_len]
    have h1 : v / 256 ^ k < 256 := Nat.div_lt_of_lt_mul (by rw [Nat.pow_succ] at h; exact h)
    rw [Nat.mod_eq_of_lt h1, Nat.mul_comm]
    exact Nat.div_add_mod v (256 ^ k)
theorem beN_beV : ∀ {l : List Nat}, IsBy l → beN l.length (beV l) = l
  | [], _ => rfl
  | x :: l, h => by
    have hx := h x (by simp)
    have hl : IsBy l := fun y hy => h y (by simp [hy])
    have hlt := beV_lt hl
    have e1 : (x * 256 ^ l.length + beV l) / 256 ^ l.length = x := by
      rw [Nat.mul_comm, Nat.mul_add_div (Nat.pow_pos (by decide)), Nat.div_eq_of_lt hlt, Nat.add_zero]
    have e2 : beN l.length (x * 256 ^ l.length + beV l) = beN l.length (beV l) := by
      have key : ∀ (j : Nat), j ≤ l.length → beN j (x * 256 ^ l.length + beV l) = beN j (beV l) := by
        intro j
        induction j with
        | zero => intro _; rfl
        | succ j ih =>
          intro hj
          simp only [beN]
          rw [ih (by omega)]
          congr 1
          have e1 : x * 256 ^ l.length = 256 ^ j * (256 * (x * 256 ^ (l.length - j - 1))) := by
            have : 256 ^ l.length = 256 ^ j * (256 * 256 ^ (l.length - j - 1)) := by rw [← Nat.pow_succ', ← Nat.pow_add]; congr 1; omega
            rw [this]
            simp only [Nat.mul_assoc, Nat.mul_left_comm]
          rw [e1, Nat.mul_add_div (Nat.pow_pos (by decide)), Nat.mul_add_mod]
      exact key _ (Nat.le_refl _)
    rw [List.length_cons, beN, beV_cons, e1, e2, beN_beV hl, Nat.mod_eq_of_lt hx]

/-! what was written is read -/
def rdA (A T : List Nat) : Rd := ⟨A ++ T, A.length, none⟩
theorem rdA_err (A T : List Nat) : (rdA A T).err = none := rfl
theorem rdA_drop (A T : List Nat) : (rdA A T).bs.drop (rdA A T).at_ = T := by simp [rdA]
theorem take_be (A T : List Nat) {k v : Nat} (h : v < 256 ^ k) : (rdA A (beN k v ++ T)).takeV k = v ∧ (rdA A (beN k v ++ T)).takeR k = rdA (A ++ beN k v) T := by
  have hm : (rdA A (beN k v ++ T)).more k = true := by simp [Rd.more, rdA, beN_len]
  constructor
  · unfold Rd.takeV
    rw [if_pos hm, rdA_drop, List.take_left' (beN_len k v), beV_beN k v h]
  · unfold Rd.takeR
    rw [if_pos hm]
    simp [rdA, beN_len]
theorem text_be (A T d : List Nat) : (rdA A ((d.length :: d) ++ T)).textL = d ∧ (rdA A ((d.length :: d) ++ T)).textR = rdA (A ++ (d.length :: d)) T := by
  have hn : (rdA A ((d.length :: d) ++ T)).n = d.length := by simp [Rd.n, rdA]
  have hb : (rdA A ((d.length :: d) ++ T)).textB = true := by
    unfold Rd.textB
    rw [hn]
    simp [Rd.more, rdA]
    omega
  constructor
  · unfold Rd.textL
    rw [if_pos hb, hn]
    simp [rdA]
  · unfold Rd.textR
    rw [if_pos hb, hn]
    simp [rdA]
    omega
theorem rdM_be : ∀ (ms : List Msg) (A T : List Nat) (acc : List Msg), (∀ m ∈ ms, 0 ≤ m.port ∧ m.port < 256) → rdM ms.length (rdA A (ms.flatMap msgB ++ T)) acc = (acc ++ ms, rdA (A ++ ms.flatMap msgB) T)
  | [], A, T, acc, _ => by simp [rdM]
  | m :: ms, A, T, acc, h => by
    obtain ⟨h1, h2⟩ := h m (by simp)
    have e0 : (m :: ms).flatMap msgB ++ T = beN 1 m.port.toNat ++ ((m.data.length :: m.data) ++ (ms.flatMap msgB ++ T)) := by simp [msgB]
    have hp := take_be A ((m.data.length :: m.data) ++ (ms.flatMap msgB ++ T)) (k := 1) (v := m.port.toNat) (by omega)
    have ht := text_be (A ++ beN 1 m.port.toNat) (ms.flatMap msgB ++ T) m.data
    rw [List.length_cons, e0]
    unfold rdM
    rw [if_pos (rdA_err _ _), hp.1, hp.2, ht.1, ht.2, rdM_be ms _ T _ fun x hx => h x (by simp [hx])]
    have e1 : ((m.port.toNat : Nat) : Int) = m.port := by omega
    rw [e1]
    simp [msgB, List.append_assoc]
theorem rdR_be : ∀ (rs : List Rec) (A T : List Nat) (acc : List Rec), (∀ r ∈ rs, r.round < 4294967296 ∧ r.node < 256 ∧ r.part < 256 ∧ r.kind < 256 ∧ r.did < 256) →
    rdR rs.length (rdA A (rs.flatMap recB ++ T)) acc = (acc ++ rs, rdA (A ++ rs.flatMap recB) T)
  | [], A, T, acc, _ => by simp [rdR]
  | r :: rs, A, T, acc, h => by
    obtain ⟨h1, h2, h3, h4, h5⟩ := h r (by simp)
    have e0 : (r :: rs).flatMap recB ++ T = beN 4 r.round ++ (beN 1 r.node ++ (beN 1 r.part ++ (beN 1 r.kind ++ (beN 1 r.did ++ (rs.flatMap recB ++ T))))) := by simp [recB]
    have p1 := take_be A (beN 1 r.node ++ (beN 1 r.part ++ (beN 1 r.kind ++ (beN 1 r.did ++ (rs.flatMap recB ++ T))))) (k := 4) (v := r.round) (by omega)
    have p2 := take_be (A ++ beN 4 r.round) (beN 1 r.part ++ (beN 1 r.kind ++ (beN 1 r.did ++ (rs.flatMap recB ++ T)))) (k := 1) (v := r.node) (by omega)
    have p3 := take_be (A ++ beN 4 r.round ++ beN 1 r.node) (beN 1 r.kind ++ (beN 1 r.did ++ (rs.flatMap recB ++ T))) (k := 1) (v := r.part) (by omega)
    have p4 := take_be (A ++ beN 4 r.round ++ beN 1 r.node ++ beN 1 r.part) (beN 1 r.did ++ (rs.flatMap recB ++ T)) (k := 1) (v := r.kind) (by omega)
    have p5 := take_be (A ++ beN 4 r.round ++ beN 1 r.node ++ beN 1 r.part ++ beN 1 r.kind) (rs.flatMap recB ++ T) (k := 1) (v := r.did) (by omega)
    rw [List.length_cons, e0]
    unfold rdR
    rw [if_pos (rdA_err _ _)]
    have e1 : rdRec (rdA A (beN 4 r.round ++ (beN 1 r.node ++ (beN 1 r.part ++ (beN 1 r.kind ++ (beN 1 r.did ++ (rs.flatMap recB ++ T))))))) = r := by
      unfold rdRec
      rw [p1.1, p1.2, p2.1, p2.2, p3.1, p3.2, p4.1, p4.2, p5.1]
    have e2 : rdRecR (rdA A (beN 4 r.round ++ (beN 1 r.node ++ (beN 1 r.part ++ (beN 1 r.kind ++ (beN 1 r.did ++ (rs.flatMap recB ++ T))))))) = rdA (A ++ beN 4 r.round ++ beN 1 r.node ++ beN 1 r.part ++ beN 1 r.kind ++ beN 1 r.did) (rs.flatMap recB ++ T) := by
      unfold rdRecR
      rw [p1.2, p2.2, p3.2, p4.2, p5.2]
    rw [e1, e2, rdR_be rs _ T _ fun x hx => h x (by simp [hx])]
    simp [recB, List.append_assoc]
theorem decB_be {f : Frm} (hf : FrmOk f) (h : chkE f = []) (T : List Nat) : decB (bodyB f ++ T) = (f, rdA (bodyB f) T) := by
  obtain ⟨c1, c2, c3, c4, c5, c6⟩ := chkE_nil h
  have hms : ∀ m ∈ f.ms, 0 ≤ m.port ∧ m.port < 256 := fun m hm => by have := chkM_nil c4 m hm; omega
  obtain ⟨g1, g2, g3, g4, g5, g6, g7, _, g8⟩ := hf
  have e0 : bodyB f ++ T = [] ++ (beN 1 f.snd ++ (beN 4 f.rnd ++ (beN 1 f.mem ++ (beN 1 f.ms.length ++ (f.ms.flatMap msgB ++ (beN 1 f.c.kind ++ (beN 1 f.c.key ++ (beN 2 f.c.val ++ (beN 2 f.c.old ++ (beN 1 f.rs.length ++ (f.rs.flatMap recB ++ T))))))))))) := by
    simp [bodyB, midB, headB]
  have eR : (⟨bodyB f ++ T, 0, none⟩ : Rd) = rdA [] (beN 1 f.snd ++ (beN 4 f.rnd ++ (beN 1 f.mem ++ (beN 1 f.ms.length ++ (f.ms.flatMap msgB ++ (beN 1 f.c.kind ++ (beN 1 f.c.key ++ (beN 2 f.c.val ++ (beN 2 f.c.old ++ (beN 1 f.rs.length ++ (f.rs.flatMap recB ++ T))))))))))) := by rw [e0]; rfl
  obtain ⟨A1, hA1⟩ : ∃ A, A = [] ++ beN 1 f.snd := ⟨_, rfl⟩
  obtain ⟨A2, hA2⟩ : ∃ A, A = A1 ++ beN 4 f.rnd := ⟨_, rfl⟩
  obtain ⟨A3, hA3⟩ : ∃ A, A = A2 ++ beN 1 f.mem := ⟨_, rfl⟩
  obtain ⟨A4, hA4⟩ : ∃ A, A = A3 ++ beN 1 f.ms.length := ⟨_, rfl⟩
  obtain ⟨A5, hA5⟩ : ∃ A, A = A4 ++ f.ms.flatMap msgB := ⟨_, rfl⟩
  obtain ⟨A6, hA6⟩ : ∃ A, A = A5 ++ beN 1 f.c.kind := ⟨_, rfl⟩
  obtain ⟨A7, hA7⟩ : ∃ A, A = A6 ++ beN 1 f.c.key := ⟨_, rfl⟩
  obtain ⟨A8, hA8⟩ : ∃ A, A = A7 ++ beN 2 f.c.val := ⟨_, rfl⟩
  obtain ⟨A9, hA9⟩ : ∃ A, A = A8 ++ beN 2 f.c.old := ⟨_, rfl⟩
  obtain ⟨A10, hA10⟩ : ∃ A, A = A9 ++ beN 1 f.rs.length := ⟨_, rfl⟩
  have p1 := take_be [] (beN 4 f.rnd ++ (beN 1 f.mem ++ (beN 1 f.ms.length ++ (f.ms.flatMap msgB ++ (beN 1 f.c.kind ++ (beN 1 f.c.key ++ (beN 2 f.c.val ++ (beN 2 f.c.old ++ (beN 1 f.rs.length ++ (f.rs.flatMap recB ++ T)))))))))) (k := 1) (v := f.snd) (by omega)
  rw [← hA1] at p1
  have p2 := take_be A1 (beN 1 f.mem ++ (beN 1 f.ms.length ++ (f.ms.flatMap msgB ++ (beN 1 f.c.kind ++ (beN 1 f.c.key ++ (beN 2 f.c.val ++ (beN 2 f.c.old ++ (beN 1 f.rs.length ++ (f.rs.flatMap recB ++ T))))))))) (k := 4) (v := f.rnd) (by omega)
  rw [← hA2] at p2
  have p3 := take_be A2 (beN 1 f.ms.length ++ (f.ms.flatMap msgB ++ (beN 1 f.c.kind ++ (beN 1 f.c.key ++ (beN 2 f.c.val ++ (beN 2 f.c.old ++ (beN 1 f.rs.length ++ (f.rs.flatMap recB ++ T)))))))) (k := 1) (v := f.mem) (by omega)
  rw [← hA3] at p3
  have p4 := take_be A3 (f.ms.flatMap msgB ++ (beN 1 f.c.kind ++ (beN 1 f.c.key ++ (beN 2 f.c.val ++ (beN 2 f.c.old ++ (beN 1 f.rs.length ++ (f.rs.flatMap recB ++ T))))))) (k := 1) (v := f.ms.length) (by omega)
  rw [← hA4] at p4
  have p5 := rdM_be f.ms A4 (beN 1 f.c.kind ++ (beN 1 f.c.key ++ (beN 2 f.c.val ++ (beN 2 f.c.old ++ (beN 1 f.rs.length ++ (f.rs.flatMap recB ++ T)))))) [] hms
  rw [← hA5] at p5
  have p6 := take_be A5 (beN 1 f.c.key ++ (beN 2 f.c.val ++ (beN 2 f.c.old ++ (beN 1 f.rs.length ++ (f.rs.flatMap recB ++ T))))) (k := 1) (v := f.c.kind) (by omega)
  rw [← hA6] at p6
  have p7 := take_be A6 (beN 2 f.c.val ++ (beN 2 f.c.old ++ (beN 1 f.rs.length ++ (f.rs.flatMap recB ++ T)))) (k := 1) (v := f.c.key) (by omega)
  rw [← hA7] at p7
  have p8 := take_be A7 (beN 2 f.c.old ++ (beN 1 f.rs.length ++ (f.rs.flatMap recB ++ T))) (k := 2) (v := f.c.val) (by omega)
  rw [← hA8] at p8
  have p9 := take_be A8 (beN 1 f.rs.length ++ (f.rs.flatMap recB ++ T)) (k := 2) (v := f.c.old) (by omega)
  rw [← hA9] at p9
  have p10 := take_be A9 (f.rs.flatMap recB ++ T) (k := 1) (v := f.rs.length) (by omega)
  rw [← hA10] at p10
  have p11 := rdR_be f.rs A10 T [] g8
  have eB : A10 ++ f.rs.flatMap recB = bodyB f := by rw [hA10, hA9, hA8, hA7, hA6, hA5, hA4, hA3, hA2, hA1]; rfl
  rw [eB] at p11
  unfold decB
  dsimp only
  rw [eR]
  have q1 : rdHead (rdA [] (beN 1 f.snd ++ (beN 4 f.rnd ++ (beN 1 f.mem ++ (beN 1 f.ms.length ++ (f.ms.flatMap msgB ++ (beN 1 f.c.kind ++ (beN 1 f.c.key ++ (beN 2 f.c.val ++ (beN 2 f.c.old ++ (beN 1 f.rs.length ++ (f.rs.flatMap recB ++ T)))))))))))) = ⟨f.snd, f.rnd, f.mem, [], ⟨0, 0, 0, 0⟩, []⟩ := by
    unfold rdHead
    rw [p1.1, p1.2, p2.1, p2.2, p3.1]
  have q2 : rdHeadR (rdA [] (beN 1 f.snd ++ (beN 4 f.rnd ++ (beN 1 f.mem ++ (beN 1 f.ms.length ++ (f.ms.flatMap msgB ++ (beN 1 f.c.kind ++ (beN 1 f.c.key ++ (beN 2 f.c.val ++ (beN 2 f.c.old ++ (beN 1 f.rs.length ++ (f.rs.flatMap recB ++ T)))))))))))) = rdA A3 (beN 1 f.ms.length ++ (f.ms.flatMap msgB ++ (beN 1 f.c.kind ++ (beN 1 f.c.key ++ (beN 2 f.c.val ++ (beN 2 f.c.old ++ (beN 1 f.rs.length ++ (f.rs.flatMap recB ++ T)))))))) := by
    unfold rdHeadR
    rw [p1.2, p2.2, p3.2]
  have q3 : rdMs (rdA A3 (beN 1 f.ms.length ++ (f.ms.flatMap msgB ++ (beN 1 f.c.kind ++ (beN 1 f.c.key ++ (beN 2 f.c.val ++ (beN 2 f.c.old ++ (beN 1 f.rs.length ++ (f.rs.flatMap recB ++ T))))))))) = (f.ms, rdA A5 (beN 1 f.c.kind ++ (beN 1 f.c.key ++ (beN 2 f.c.val ++ (beN 2 f.c.old ++ (beN 1 f.rs.length ++ (f.rs.flatMap recB ++ T))))))) := by
    unfold rdMs
    rw [p4.1, p4.2, p5]
    rfl
  have q4 : rdCmd (rdA A5 (beN 1 f.c.kind ++ (beN 1 f.c.key ++ (beN 2 f.c.val ++ (beN 2 f.c.old ++ (beN 1 f.rs.length ++ (f.rs.flatMap recB ++ T))))))) = f.c := by
    unfold rdCmd
    rw [p6.1, p6.2, p7.1, p7.2, p8.1, p8.2, p9.1]
  have q5 : rdCmdR (rdA A5 (beN 1 f.c.kind ++ (beN 1 f.c.key ++ (beN 2 f.c.val ++ (beN 2 f.c.old ++ (beN 1 f.rs.length ++ (f.rs.flatMap recB ++ T))))))) = rdA A9 (beN 1 f.rs.length ++ (f.rs.flatMap recB ++ T)) := by
    unfold rdCmdR
    rw [p6.2, p7.2, p8.2, p9.2]
  have q6 : rdRs (rdA A9 (beN 1 f.rs.length ++ (f.rs.flatMap recB ++ T))) = (f.rs, rdA (bodyB f) T) := by
    unfold rdRs
    rw [p10.1, p10.2, p11]
    rfl
  rw [q1, q2, q3]
  dsimp only
  rw [q4, q5, q6]
theorem openB_seal (l : List Nat) : openB (sealB l) = some l := by
  have h1 : (sealB l).length - 4 = l.length := by rw [sealB_len]; omega
  have h2 : (sealB l).take l.length = l := by simp [sealB]
  unfold openB
  rw [if_neg (by rw [sealB_len]; omega), h1, h2, if_pos rfl]
theorem endA (A T : List Nat) : (rdA A T).endE = if T = [] then [] else [(5, (A.length : Int))] := by
  unfold Rd.endE
  cases T with
  | nil => simp [rdA]
  | cons x T => simp [rdA]
/-- What was written is read. -/
theorem decF_enc {f : Frm} (hf : FrmOk f) (h : chkE f = []) : decF (encB f) = (f, []) := by
  unfold decF encB
  rw [openB_seal]
  have := decB_be hf h []
  rw [List.append_nil] at this
  dsimp only
  rw [this]
  unfold decE
  dsimp only
  rw [endA, if_pos rfl, h]
  rfl
/-- With something behind it, it is none. -/
theorem decF_long {f : Frm} (hf : FrmOk f) (h : chkE f = []) (T : List Nat) : (decF (sealB (bodyB f ++ T))).2 = [] ↔ T = [] := by
  unfold decF
  rw [openB_seal]
  dsimp only
  rw [decB_be hf h T]
  unfold decE
  dsimp only
  rw [endA]
  by_cases hT : T = []
  · rw [if_pos hT, h]
    exact ⟨fun _ => hT, fun _ => rfl⟩
  · rw [if_neg hT]
    exact ⟨fun h => by simp [thenE] at h, fun h => absurd h hT⟩
end Go.Proofs.Ytpgiiidnimbdgaa
