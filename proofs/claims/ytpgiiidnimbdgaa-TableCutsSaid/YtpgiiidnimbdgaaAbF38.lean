/- Tables written and read again; an image's beginning: plain. -/
import Derived.Test.YtpgiiidnimbdgaaAbF37
import Derived.Test.YtpgiiidnimbdgaaAbF29
namespace Go.Proofs.Ytpgiiidnimbdgaa
open Go.Ab
set_option linter.unusedSimpArgs false
set_option linter.unusedVariables false

/-! what was written is read -/
theorem put_be (A T : List Nat) {k : Nat} {x : Int} (h0 : 0 ≤ x) (h1 : x < 4294967296) (h2 : u32 x < 256 ^ k) : (((rdA A (beN k (u32 x) ++ T)).takeV k : Nat) : Int) = x ∧ (rdA A (beN k (u32 x) ++ T)).takeV k = u32 x ∧ (rdA A (beN k (u32 x) ++ T)).takeR k = rdA (A ++ beN k (u32 x)) T := by
  obtain ⟨p1, p2⟩ := take_be A T h2
  refine ⟨?_, p1, p2⟩
  rw [p1, u32_id h0 h1]
  try omega
theorem inB_iff {x lo hi : Int} : inB x lo hi = true ↔ lo ≤ x ∧ x ≤ hi := by
  simp only [inB, Bool.and_eq_true, decide_eq_true_eq]
  try omega
theorem u32_lt1 {x : Int} (h0 : 0 ≤ x) (h1 : x < 256) : u32 x < 256 ^ 1 := by rw [u32_id h0 (by omega)]; omega
theorem u32_lt4 (x : Int) : u32 x < 256 ^ 4 := u32_lt x
def PtFine (p : Pt) : Prop := (0 ≤ p.node ∧ p.node < 256) ∧ (0 ≤ p.start ∧ p.start < 4294967296) ∧ (0 ≤ p.len ∧ p.len < 4294967296) ∧ (0 ≤ p.budget ∧ p.budget < 256) ∧ (0 ≤ p.words ∧ p.words < 256) ∧ p.r0 < 256 ∧ p.r1 < 256 ∧ p.r2 < 256 ∧ p.r3 < 256
def QtFine (q : Qt) : Prop := (0 ≤ q.part ∧ q.part < 256) ∧ q.kind < 256 ∧ (0 ≤ q.size ∧ q.size < 256) ∧ (0 ≤ q.depth ∧ q.depth < 256) ∧ (0 ≤ q.fresh ∧ q.fresh < 256)
def RtFine (r : Rt) : Prop := (0 ≤ r.src ∧ r.src < 256) ∧ (0 ≤ r.dst ∧ r.dst < 256)
theorem u32_nat {n : Nat} (h : n < 4294967296) : u32 (n : Int) = n := by rw [u32_id (by omega) (by omega)]; omega
theorem partT_eq (p : Pt) : partT p = beN 1 (u32 p.node) ++ (beN 4 (u32 p.start) ++ (beN 4 (u32 p.len) ++ (beN 1 (u32 p.budget) ++ (beN 1 (u32 p.words) ++ (beN 1 (u32 p.r0) ++ (beN 1 (u32 p.r1) ++ (beN 1 (u32 p.r2) ++ beN 1 (u32 p.r3)))))))) := by
  simp [partT, putL, Pt.recs]
theorem portT_eq (q : Qt) : portT q = beN 1 (u32 q.part) ++ (beN 1 (u32 q.kind) ++ (beN 1 (u32 (if q.out then 1 else 0)) ++ (beN 1 (u32 q.size) ++ (beN 1 (u32 q.depth) ++ beN 1 (u32 q.fresh))))) := by
  simp [portT, putL]
theorem routeT_eq (r : Rt) : routeT r = beN 1 (u32 r.src) ++ beN 1 (u32 r.dst) := by
  simp [routeT, putL]
theorem rdPt_be (p : Pt) (h : PtFine p) (A T : List Nat) : rdPt (rdA A (partT p ++ T)) = p ∧ rdPtR (rdA A (partT p ++ T)) = rdA (A ++ partT p) T := by
  obtain ⟨h1, h2, h3, h4, h5, h6, h7, h8, h9⟩ := h
  have e0 : partT p ++ T = beN 1 (u32 p.node) ++ (beN 4 (u32 p.start) ++ (beN 4 (u32 p.len) ++ (beN 1 (u32 p.budget) ++ (beN 1 (u32 p.words) ++ (beN 1 (u32 p.r0) ++ (beN 1 (u32 p.r1) ++ (beN 1 (u32 p.r2) ++ (beN 1 (u32 p.r3) ++ T)))))))) := by
    rw [partT_eq]; simp only [List.append_assoc]
  have e1 : A ++ partT p = A ++ beN 1 (u32 p.node) ++ beN 4 (u32 p.start) ++ beN 4 (u32 p.len) ++ beN 1 (u32 p.budget) ++ beN 1 (u32 p.words) ++ beN 1 (u32 p.r0) ++ beN 1 (u32 p.r1) ++ beN 1 (u32 p.r2) ++ beN 1 (u32 p.r3) := by
    rw [partT_eq]; simp only [List.append_assoc]
  rw [e0, e1]
  have n0 : u32 (p.r0 : Int) = p.r0 := u32_nat (by omega)
  have n1 : u32 (p.r1 : Int) = p.r1 := u32_nat (by omega)
  have n2 : u32 (p.r2 : Int) = p.r2 := u32_nat (by omega)
  have n3 : u32 (p.r3 : Int) = p.r3 := u32_nat (by omega)
  unfold rdPt rdPtR
  rw [(put_be _ _ h1.1 (by omega) (u32_lt1 h1.1 h1.2)).1, (put_be _ _ h1.1 (by omega) (u32_lt1 h1.1 h1.2)).2.2,
    (put_be _ _ h2.1 h2.2 (u32_lt4 _)).1, (put_be _ _ h2.1 h2.2 (u32_lt4 _)).2.2,
    (put_be _ _ h3.1 h3.2 (u32_lt4 _)).1, (put_be _ _ h3.1 h3.2 (u32_lt4 _)).2.2,
    (put_be _ _ h4.1 (by omega) (u32_lt1 h4.1 h4.2)).1, (put_be _ _ h4.1 (by omega) (u32_lt1 h4.1 h4.2)).2.2,
    (put_be _ _ h5.1 (by omega) (u32_lt1 h5.1 h5.2)).1, (put_be _ _ h5.1 (by omega) (u32_lt1 h5.1 h5.2)).2.2,
    (put_be _ _ (x := (p.r0 : Int)) (by omega) (by omega) (u32_lt1 (by omega) (by omega))).2.1, (put_be _ _ (x := (p.r0 : Int)) (by omega) (by omega) (u32_lt1 (by omega) (by omega))).2.2,
    (put_be _ _ (x := (p.r1 : Int)) (by omega) (by omega) (u32_lt1 (by omega) (by omega))).2.1, (put_be _ _ (x := (p.r1 : Int)) (by omega) (by omega) (u32_lt1 (by omega) (by omega))).2.2,
    (put_be _ _ (x := (p.r2 : Int)) (by omega) (by omega) (u32_lt1 (by omega) (by omega))).2.1, (put_be _ _ (x := (p.r2 : Int)) (by omega) (by omega) (u32_lt1 (by omega) (by omega))).2.2,
    (put_be _ _ (x := (p.r3 : Int)) (by omega) (by omega) (u32_lt1 (by omega) (by omega))).2.1, (put_be _ _ (x := (p.r3 : Int)) (by omega) (by omega) (u32_lt1 (by omega) (by omega))).2.2]
  rw [n0, n1, n2, n3]
  exact ⟨rfl, rfl⟩
theorem rdPs_be : ∀ (ps : List Pt) (A T : List Nat) (acc : List Pt), (∀ p ∈ ps, PtFine p) → rdPs ps.length (rdA A (ps.flatMap partT ++ T)) acc = (acc ++ ps, rdA (A ++ ps.flatMap partT) T)
  | [], A, T, acc, _ => by simp [rdPs]
  | p :: ps, A, T, acc, h => by
    obtain ⟨q1, q2⟩ := rdPt_be p (h p (by simp)) A (ps.flatMap partT ++ T)
    rw [List.length_cons, List.flatMap_cons, List.append_assoc]
    unfold rdPs
    rw [if_pos (rdA_err _ _), q1, q2, rdPs_be ps _ T _ fun x hx => h x (by simp [hx])]
    simp [List.append_assoc]
theorem rdQt_be (q : Qt) (h : QtFine q) (A T : List Nat) : rdQt (rdA A (portT q ++ T)) = q ∧ rdQtR (rdA A (portT q ++ T)) = rdA (A ++ portT q) T ∧ ¬ (1 < rdQtW (rdA A (portT q ++ T)) ∧ (rdQtM (rdA A (portT q ++ T))).err = none) := by
  obtain ⟨h1, h2, h3, h4, h5⟩ := h
  have e0 : portT q ++ T = beN 1 (u32 q.part) ++ (beN 1 (u32 q.kind) ++ (beN 1 (u32 (if q.out then 1 else 0)) ++ (beN 1 (u32 q.size) ++ (beN 1 (u32 q.depth) ++ (beN 1 (u32 q.fresh) ++ T))))) := by
    rw [portT_eq]; simp only [List.append_assoc]
  have e1 : A ++ portT q = A ++ beN 1 (u32 q.part) ++ beN 1 (u32 q.kind) ++ beN 1 (u32 (if q.out then 1 else 0)) ++ beN 1 (u32 q.size) ++ beN 1 (u32 q.depth) ++ beN 1 (u32 q.fresh) := by
    rw [portT_eq]; simp only [List.append_assoc]
  rw [e0, e1]
  have n0 : u32 (q.kind : Int) = q.kind := u32_nat (by omega)
  have hw : 0 ≤ (if q.out then (1 : Int) else 0) ∧ (if q.out then (1 : Int) else 0) < 256 := by split <;> omega
  have hw2 : u32 (if q.out then (1 : Int) else 0) ≤ 1 := by rw [u32_id hw.1 (by omega)]; split <;> omega
  have hw3 : decide (u32 (if q.out then (1 : Int) else 0) = 1) = q.out := by
    rw [u32_id hw.1 (by omega)]
    cases q.out <;> rfl
  unfold rdQt rdQtR rdQtW rdQtM
  rw [(put_be _ _ h1.1 (by omega) (u32_lt1 h1.1 h1.2)).1, (put_be _ _ h1.1 (by omega) (u32_lt1 h1.1 h1.2)).2.2,
    (put_be _ _ (x := (q.kind : Int)) (by omega) (by omega) (u32_lt1 (by omega) (by omega))).2.1, (put_be _ _ (x := (q.kind : Int)) (by omega) (by omega) (u32_lt1 (by omega) (by omega))).2.2,
    (put_be _ _ hw.1 (by omega) (u32_lt1 hw.1 hw.2)).2.1, (put_be _ _ hw.1 (by omega) (u32_lt1 hw.1 hw.2)).2.2,
    (put_be _ _ h3.1 (by omega) (u32_lt1 h3.1 h3.2)).1, (put_be _ _ h3.1 (by omega) (u32_lt1 h3.1 h3.2)).2.2,
    (put_be _ _ h4.1 (by omega) (u32_lt1 h4.1 h4.2)).1, (put_be _ _ h4.1 (by omega) (u32_lt1 h4.1 h4.2)).2.2,
    (put_be _ _ h5.1 (by omega) (u32_lt1 h5.1 h5.2)).1, (put_be _ _ h5.1 (by omega) (u32_lt1 h5.1 h5.2)).2.2]
  rw [n0, hw3]
  exact ⟨rfl, rfl, fun hh => by omega⟩
theorem rdQs_be : ∀ (qs : List Qt) (i : Nat) (A T : List Nat) (acc : List Qt), (∀ q ∈ qs, QtFine q) → rdQs qs.length i (rdA A (qs.flatMap portT ++ T)) acc = (acc ++ qs, rdA (A ++ qs.flatMap portT) T, none)
  | [], i, A, T, acc, _ => by simp [rdQs]
  | q :: qs, i, A, T, acc, h => by
    obtain ⟨q1, q2, q3⟩ := rdQt_be q (h q (by simp)) A (qs.flatMap portT ++ T)
    rw [List.length_cons, List.flatMap_cons, List.append_assoc]
    unfold rdQs
    rw [if_pos (rdA_err _ _), if_neg q3, q1, q2, rdQs_be qs _ _ T _ fun x hx => h x (by simp [hx])]
    simp [List.append_assoc]
theorem rdRt_be (r : Rt) (h : RtFine r) (A T : List Nat) : rdRt (rdA A (routeT r ++ T)) = r ∧ ((rdA A (routeT r ++ T)).takeR 1).takeR 1 = rdA (A ++ routeT r) T := by
  obtain ⟨h1, h2⟩ := h
  have e0 : routeT r ++ T = beN 1 (u32 r.src) ++ (beN 1 (u32 r.dst) ++ T) := by rw [routeT_eq]; simp only [List.append_assoc]
  have e1 : A ++ routeT r = A ++ beN 1 (u32 r.src) ++ beN 1 (u32 r.dst) := by rw [routeT_eq]; simp only [List.append_assoc]
  rw [e0, e1]
  unfold rdRt
  rw [(put_be _ _ h1.1 (by omega) (u32_lt1 h1.1 h1.2)).1, (put_be _ _ h1.1 (by omega) (u32_lt1 h1.1 h1.2)).2.2,
    (put_be _ _ h2.1 (by omega) (u32_lt1 h2.1 h2.2)).1, (put_be _ _ h2.1 (by omega) (u32_lt1 h2.1 h2.2)).2.2]
  exact ⟨rfl, rfl⟩
theorem rdRts_be : ∀ (rs : List Rt) (A T : List Nat) (acc : List Rt), (∀ r ∈ rs, RtFine r) → rdRts rs.length (rdA A (rs.flatMap routeT ++ T)) acc = (acc ++ rs, rdA (A ++ rs.flatMap routeT) T)
  | [], A, T, acc, _ => by simp [rdRts]
  | r :: rs, A, T, acc, h => by
    obtain ⟨q1, q2⟩ := rdRt_be r (h r (by simp)) A (rs.flatMap routeT ++ T)
    rw [List.length_cons, List.flatMap_cons, List.append_assoc]
    unfold rdRts
    rw [if_pos (rdA_err _ _), q1, q2, rdRts_be rs _ T _ fun x hx => h x (by simp [hx])]
    simp [List.append_assoc]
/-- What is valid is in the ranges of its bytes. -/
theorem fine_of {c : Cf} (h : chkT c = []) : (∀ p ∈ c.ps, PtFine p) ∧ (∀ q ∈ c.qs, QtFine q) ∧ (∀ r ∈ c.rs, RtFine r) ∧ (0 ≤ c.n0 ∧ c.n0 < 256) ∧ (0 ≤ c.n1 ∧ c.n1 < 256) ∧ (0 ≤ c.n2 ∧ c.n2 < 4294967296) ∧ (0 ≤ c.n3 ∧ c.n3 < 4294967296) ∧ (0 ≤ c.n4 ∧ c.n4 < 4294967296) ∧ (0 ≤ c.n5 ∧ c.n5 < 4294967296) ∧ (0 ≤ c.n6 ∧ c.n6 < 4294967296) ∧ (0 ≤ c.n7 ∧ c.n7 < 4294967296) := by
  obtain ⟨c1, c2, c3, c4, c5, c6, c7⟩ := chkT_nil h
  simp only [Cf.rng, Bool.and_eq_true, inB_iff] at c1
  obtain ⟨g0, g1, g2, g3, g4, g6, g5, g7⟩ := c1
  refine ⟨fun p hp => ?_, fun q hq => ?_, fun r hr => ?_, by omega, by omega, by omega, by omega, by omega, by omega, by omega, by omega⟩
  · have h1 := chkP_nil c5 p hp
    unfold Pt.ok Pt.recs at h1
    simp only [Bool.and_eq_true, inB_iff, List.all_cons, List.all_nil, decide_eq_true_eq] at h1
    unfold PtFine
    omega
  · have h1 := chkQ_nil c6 q hq
    unfold Qt.ok at h1
    split at h1
    · cases h1
    · rename_i hb
      have hb1 : inB q.part 0 ((c.ps.length : Int) - 1) = true := by
        cases hh : inB q.part 0 ((c.ps.length : Int) - 1)
        · exact absurd (.inl hh) hb
        · rfl
      have hb2 : inB q.size 0 16 = true := by
        cases hh : inB q.size 0 16
        · exact absurd (.inr hh) hb
        · rfl
      rw [inB_iff] at hb1 hb2
      unfold QtFine
      split at h1
      · simp only [Bool.and_eq_true, inB_iff, beq_iff_eq] at h1
        omega
      · split at h1
        · simp only [Bool.and_eq_true, inB_iff, beq_iff_eq] at h1
          omega
        · cases h1
  · have h1 := chkRt_nil c7 r hr
    unfold Rt.ok at h1
    simp only [Bool.and_eq_true, inB_iff] at h1
    unfold RtFine
    omega
/-- What was written is read. -/
theorem rdT_be {c : Cf} (h : chkT c = []) (T : List Nat) : rdT (rdA [] (bodyT c ++ T)) = (c, [], rdA (bodyT c) T) := by
  obtain ⟨hps, hqs, hrs, g0, g1, g2, g3, g4, g5, g6, g7⟩ := fine_of h
  obtain ⟨_, c2, c3, c4, _⟩ := chkT_nil h
  obtain ⟨L, hL⟩ : ∃ L, L = c.ps.flatMap partT ++ (c.qs.flatMap portT ++ (c.rs.flatMap routeT ++ T)) := ⟨_, rfl⟩
  have e0 : bodyT c ++ T = beN 4 (u32 1163084593) ++ (beN 1 (u32 c.n0) ++ (beN 1 (u32 c.n1) ++ (beN 4 (u32 c.n2) ++ (beN 4 (u32 c.n3) ++ (beN 4 (u32 c.n4) ++ (beN 4 (u32 c.n5) ++ (beN 4 (u32 c.n6) ++ (beN 4 (u32 c.n7) ++ (beN 1 (u32 (c.ps.length : Int)) ++ (beN 1 (u32 (c.qs.length : Int)) ++ (beN 1 (u32 (c.rs.length : Int)) ++ L))))))))))) := by
    rw [hL]
    simp [bodyT, headT, putL]
  obtain ⟨H, hH⟩ : ∃ H, H = [] ++ beN 4 (u32 1163084593) ++ beN 1 (u32 c.n0) ++ beN 1 (u32 c.n1) ++ beN 4 (u32 c.n2) ++ beN 4 (u32 c.n3) ++ beN 4 (u32 c.n4) ++ beN 4 (u32 c.n5) ++ beN 4 (u32 c.n6) ++ beN 4 (u32 c.n7) ++ beN 1 (u32 (c.ps.length : Int)) ++ beN 1 (u32 (c.qs.length : Int)) ++ beN 1 (u32 (c.rs.length : Int)) := ⟨_, rfl⟩
  have eH : H ++ c.ps.flatMap partT ++ c.qs.flatMap portT ++ c.rs.flatMap routeT = bodyT c := by
    rw [hH]
    simp [bodyT, headT, putL]
  rw [e0]
  have m0 := put_be [] (beN 1 (u32 c.n0) ++ (beN 1 (u32 c.n1) ++ (beN 4 (u32 c.n2) ++ (beN 4 (u32 c.n3) ++ (beN 4 (u32 c.n4) ++ (beN 4 (u32 c.n5) ++ (beN 4 (u32 c.n6) ++ (beN 4 (u32 c.n7) ++ (beN 1 (u32 (c.ps.length : Int)) ++ (beN 1 (u32 (c.qs.length : Int)) ++ (beN 1 (u32 (c.rs.length : Int)) ++ L))))))))))) (x := 1163084593) (k := 4) (by omega) (by omega) (u32_lt4 _)
  have hmag : u32 1163084593 = 1163084593 := by decide
  unfold rdT
  rw [if_neg (fun hh => hh.1 (by rw [m0.2.1, hmag])), m0.2.2]
  have nP : u32 (c.ps.length : Int) = c.ps.length := u32_nat (by omega)
  have nQ : u32 (c.qs.length : Int) = c.qs.length := u32_nat (by omega)
  have nR : u32 (c.rs.length : Int) = c.rs.length := u32_nat (by omega)
  unfold rdHd rdHdR
  rw [(put_be _ _ g0.1 (by omega) (u32_lt1 g0.1 g0.2)).1,
    (put_be _ _ g0.1 (by omega) (u32_lt1 g0.1 g0.2)).2.2,
    (put_be _ _ g1.1 (by omega) (u32_lt1 g1.1 g1.2)).1,
    (put_be _ _ g1.1 (by omega) (u32_lt1 g1.1 g1.2)).2.2,
    (put_be _ _ g2.1 (by omega) (u32_lt4 _)).1,
    (put_be _ _ g2.1 (by omega) (u32_lt4 _)).2.2,
    (put_be _ _ g3.1 (by omega) (u32_lt4 _)).1,
    (put_be _ _ g3.1 (by omega) (u32_lt4 _)).2.2,
    (put_be _ _ g4.1 (by omega) (u32_lt4 _)).1,
    (put_be _ _ g4.1 (by omega) (u32_lt4 _)).2.2,
    (put_be _ _ g5.1 (by omega) (u32_lt4 _)).1,
    (put_be _ _ g5.1 (by omega) (u32_lt4 _)).2.2,
    (put_be _ _ g6.1 (by omega) (u32_lt4 _)).1,
    (put_be _ _ g6.1 (by omega) (u32_lt4 _)).2.2,
    (put_be _ _ g7.1 (by omega) (u32_lt4 _)).1,
    (put_be _ _ g7.1 (by omega) (u32_lt4 _)).2.2,
    (put_be _ _ (x := (c.ps.length : Int)) (by omega) (by omega) (u32_lt1 (by omega) (by omega))).2.1,
    (put_be _ _ (x := (c.ps.length : Int)) (by omega) (by omega) (u32_lt1 (by omega) (by omega))).2.2,
    (put_be _ _ (x := (c.qs.length : Int)) (by omega) (by omega) (u32_lt1 (by omega) (by omega))).2.1,
    (put_be _ _ (x := (c.qs.length : Int)) (by omega) (by omega) (u32_lt1 (by omega) (by omega))).2.2,
    (put_be _ _ (x := (c.rs.length : Int)) (by omega) (by omega) (u32_lt1 (by omega) (by omega))).2.1,
    (put_be _ _ (x := (c.rs.length : Int)) (by omega) (by omega) (u32_lt1 (by omega) (by omega))).2.2, nP, nQ, nR]
  rw [nP, nQ, nR] at hH
  rw [← hH, hL]
  unfold rdBody
  rw [rdPs_be _ _ _ _ hps]
  dsimp only
  rw [rdQs_be _ _ _ _ _ hqs]
  dsimp only
  rw [rdRts_be _ _ _ _ hrs, eH]
  rfl
/-! longer bytes -/
def extR (Y : List Nat) (r : Rd) : Rd := { r with bs := r.bs ++ Y }
theorem ext_take (Y : List Nat) {r : Rd} (h : r.Ok) {k : Nat} (he : (r.takeR k).err = none) : (extR Y r).takeV k = r.takeV k ∧ (extR Y r).takeR k = extR Y (r.takeR k) ∧ r.err = none := by
  cases hm : r.more k with
  | false =>
    unfold Rd.takeR at he
    rw [if_neg (by rw [hm]; decide)] at he
    exact absurd he (moreR_none hm)
  | true =>
    have h2 : r.err.isNone = true ∧ k ≤ r.bs.length - r.at_ := by simpa [Rd.more] using hm
    have hle := h.le
    have hm2 : (extR Y r).more k = true := by
      simp only [Rd.more, extR, h2.1, Bool.true_and, decide_eq_true_eq, List.length_append]
      omega
    refine ⟨?_, ?_, by simpa using h2.1⟩
    · unfold Rd.takeV
      rw [if_pos hm, if_pos hm2]
      simp only [extR]
      rw [List.drop_append_of_le_length hle, List.take_append_of_le_length (by simp; omega)]
    · unfold Rd.takeR
      rw [if_pos hm, if_pos hm2]
      rfl
theorem ext_pt (Y : List Nat) {r : Rd} (h : r.Ok) (he : (rdPtR r).err = none) : rdPt (extR Y r) = rdPt r ∧ rdPtR (extR Y r) = extR Y (rdPtR r) ∧ r.err = none := by
  have a0 := h.take 1
  have a1 := a0.take 4
  have a2 := a1.take 4
  have a3 := a2.take 1
  have a4 := a3.take 1
  have a5 := a4.take 1
  have a6 := a5.take 1
  have a7 := a6.take 1
  have s8 := ext_take Y a7 (k := 1) he
  have s7 := ext_take Y a6 (k := 1) s8.2.2
  have s6 := ext_take Y a5 (k := 1) s7.2.2
  have s5 := ext_take Y a4 (k := 1) s6.2.2
  have s4 := ext_take Y a3 (k := 1) s5.2.2
  have s3 := ext_take Y a2 (k := 1) s4.2.2
  have s2 := ext_take Y a1 (k := 4) s3.2.2
  have s1 := ext_take Y a0 (k := 4) s2.2.2
  have s0 := ext_take Y h (k := 1) s1.2.2
  unfold rdPt rdPtR
  rw [s0.1, s0.2.1, s1.1, s1.2.1, s2.1, s2.2.1, s3.1, s3.2.1, s4.1, s4.2.1, s5.1, s5.2.1, s6.1, s6.2.1, s7.1, s7.2.1, s8.1, s8.2.1]
  exact ⟨rfl, rfl, s0.2.2⟩
theorem ext_qt (Y : List Nat) {r : Rd} (h : r.Ok) (he : (rdQtR r).err = none) : rdQt (extR Y r) = rdQt r ∧ rdQtR (extR Y r) = extR Y (rdQtR r) ∧ r.err = none ∧ rdQtW (extR Y r) = rdQtW r ∧ rdQtM (extR Y r) = extR Y (rdQtM r) := by
  have a1 := h.take 1
  have a2 := a1.take 1
  have a3 := a2.take 1
  have a4 := a3.take 1
  have a5 := a4.take 1
  unfold rdQtR rdQtM at he
  have s5 := ext_take Y a5 (k := 1) he
  have s4 := ext_take Y a4 (k := 1) s5.2.2
  have s3 := ext_take Y a3 (k := 1) s4.2.2
  have s2 := ext_take Y a2 (k := 1) s3.2.2
  have s1 := ext_take Y a1 (k := 1) s2.2.2
  have s0 := ext_take Y h (k := 1) s1.2.2
  unfold rdQt rdQtR rdQtW rdQtM
  rw [s0.1, s0.2.1, s1.1, s1.2.1, s2.1, s2.2.1, s3.1, s3.2.1, s4.1, s4.2.1, s5.1, s5.2.1]
  exact ⟨rfl, rfl, s0.2.2, rfl, rfl⟩
theorem ok_pt {r : Rd} (h : r.Ok) : (rdPtR r).Ok := ((((((((h.take 1).take 4).take 4).take 1).take 1).take 1).take 1).take 1).take 1
theorem ok_qt {r : Rd} (h : r.Ok) : (rdQtR r).Ok := (((((h.take 1).take 1).take 1).take 1).take 1).take 1
theorem ok_qm {r : Rd} (h : r.Ok) : (rdQtM r).Ok := ((h.take 1).take 1).take 1
theorem ok_ps : ∀ (n : Nat) (r : Rd) (ps : List Pt), r.Ok → (rdPs n r ps).2.Ok
  | 0, r, ps, h => h
  | n + 1, r, ps, h => by
    unfold rdPs
    split
    · exact ok_ps n _ _ (ok_pt h)
    · exact h
theorem ok_qs : ∀ (n i : Nat) (r : Rd) (qs : List Qt), r.Ok → (rdQs n i r qs).2.1.Ok
  | 0, i, r, qs, h => h
  | n + 1, i, r, qs, h => by
    unfold rdQs
    split
    · split
      · exact ok_qm h
      · exact ok_qs n _ _ _ (ok_qt h)
    · exact h
theorem ok_rts : ∀ (n : Nat) (r : Rd) (rs : List Rt), r.Ok → (rdRts n r rs).2.Ok
  | 0, r, rs, h => h
  | n + 1, r, rs, h => by
    unfold rdRts
    split
    · exact ok_rts n _ _ ((h.take 1).take 1)
    · exact h
theorem ext_ps (Y : List Nat) : ∀ (n : Nat) (r : Rd) (ps : List Pt), r.Ok → (rdPs n r ps).2.err = none → rdPs n (extR Y r) ps = ((rdPs n r ps).1, extR Y (rdPs n r ps).2) ∧ r.err = none
  | 0, r, ps, h, he => ⟨rfl, he⟩
  | n + 1, r, ps, h, he => by
    unfold rdPs at he ⊢
    split at he
    · rename_i hr
      obtain ⟨i1, i2⟩ := ext_ps Y n _ _ (ok_pt h) he
      obtain ⟨p1, p2, _⟩ := ext_pt Y h i2
      have hr' : (extR Y r).err = none := hr
      rw [if_pos hr', if_pos hr, p1, p2, i1]
      exact ⟨rfl, hr⟩
    · rename_i hr
      exact absurd he hr
theorem ext_qs (Y : List Nat) : ∀ (n i : Nat) (r : Rd) (qs : List Qt), r.Ok → (rdQs n i r qs).2.2 = none → (rdQs n i r qs).2.1.err = none → rdQs n i (extR Y r) qs = ((rdQs n i r qs).1, extR Y (rdQs n i r qs).2.1, none) ∧ r.err = none
  | 0, i, r, qs, h, ho, he => ⟨rfl, he⟩
  | n + 1, i, r, qs, h, ho, he => by
    unfold rdQs at ho he ⊢
    split at he
    · rename_i hr
      rw [if_pos hr] at ho
      have hr' : (extR Y r).err = none := hr
      split at he
      · rename_i hodd
        rw [if_pos hodd] at ho
        cases ho
      · rename_i hodd
        rw [if_neg hodd] at ho
        obtain ⟨i1, i2⟩ := ext_qs Y n _ _ _ (ok_qt h) ho he
        obtain ⟨p1, p2, _, p4, p5⟩ := ext_qt Y h i2
        have hodd' : ¬ (1 < rdQtW (extR Y r) ∧ (rdQtM (extR Y r)).err = none) := by rw [p4, p5]; exact hodd
        rw [if_pos hr', if_neg hodd', if_pos hr, if_neg hodd, p1, p2, i1]
        exact ⟨rfl, hr⟩
    · rename_i hr
      exact absurd he hr
theorem ext_rts (Y : List Nat) : ∀ (n : Nat) (r : Rd) (rs : List Rt), r.Ok → (rdRts n r rs).2.err = none → rdRts n (extR Y r) rs = ((rdRts n r rs).1, extR Y (rdRts n r rs).2) ∧ r.err = none
  | 0, r, rs, h, he => ⟨rfl, he⟩
  | n + 1, r, rs, h, he => by
    unfold rdRts at he ⊢
    split at he
    · rename_i hr
      obtain ⟨i1, i2⟩ := ext_rts Y n _ _ ((h.take 1).take 1) he
      have s1 := ext_take Y (h.take 1) (k := 1) i2
      have s0 := ext_take Y h (k := 1) s1.2.2
      have hr' : (extR Y r).err = none := hr
      have e1 : rdRt (extR Y r) = rdRt r := by unfold rdRt; rw [s0.1, s0.2.1, s1.1]
      rw [if_pos hr', if_pos hr, e1, s0.2.1, s1.2.1, i1]
      exact ⟨rfl, hr⟩
    · rename_i hr
      exact absurd he hr
theorem ext_T (Y : List Nat) {r : Rd} (h : r.Ok) (hes : (rdT r).2.1 = []) (he : (rdT r).2.2.err = none) : rdT (extR Y r) = ((rdT r).1, [], extR Y (rdT r).2.2) ∧ (rdT r).2.2.Ok := by
  unfold rdT at hes he ⊢
  split at he
  · rename_i hc
    rw [if_pos hc] at hes
    cases hes
  · rename_i hc
    rw [if_neg hc] at hes
    have a0 := h.take 4
    have a1 := a0.take 1
    have a2 := a1.take 1
    have a3 := a2.take 4
    have a4 := a3.take 4
    have a5 := a4.take 4
    have a6 := a5.take 4
    have a7 := a6.take 4
    have a8 : (rdHdR (r.takeR 4)).Ok := a7.take 4
    have a9 := a8.take 1
    have a10 := a9.take 1
    have a11 := a10.take 1
    unfold rdBody at hes he ⊢
    have bp := ok_ps ((rdHdR (r.takeR 4)).takeV 1) ((((rdHdR (r.takeR 4)).takeR 1).takeR 1).takeR 1) [] a11
    have bq := ok_qs (((rdHdR (r.takeR 4)).takeR 1).takeV 1) 0 (rdPs ((rdHdR (r.takeR 4)).takeV 1) ((((rdHdR (r.takeR 4)).takeR 1).takeR 1).takeR 1) []).2 [] bp
    have xq := ext_qs Y (((rdHdR (r.takeR 4)).takeR 1).takeV 1) 0 (rdPs ((rdHdR (r.takeR 4)).takeV 1) ((((rdHdR (r.takeR 4)).takeR 1).takeR 1).takeR 1) []).2 [] bp
    generalize hQ : rdQs (((rdHdR (r.takeR 4)).takeR 1).takeV 1) 0 (rdPs ((rdHdR (r.takeR 4)).takeV 1) ((((rdHdR (r.takeR 4)).takeR 1).takeR 1).takeR 1) []).2 [] = Q at *
    obtain ⟨qs, r2, oi⟩ := Q
    cases oi with
    | some i => cases hes
    | none =>
      dsimp only at he bq xq ⊢
      have br := ok_rts ((((rdHdR (r.takeR 4)).takeR 1).takeR 1).takeV 1) r2 [] bq
      obtain ⟨xr, er2⟩ := ext_rts Y ((((rdHdR (r.takeR 4)).takeR 1).takeR 1).takeV 1) r2 [] bq he
      obtain ⟨xq, eps⟩ := xq rfl er2
      obtain ⟨xp, e11⟩ := ext_ps Y ((rdHdR (r.takeR 4)).takeV 1) ((((rdHdR (r.takeR 4)).takeR 1).takeR 1).takeR 1) [] a11 eps
      have s10 := ext_take Y a10 (k := 1) e11
      have s9 := ext_take Y a9 (k := 1) s10.2.2
      have s8 := ext_take Y a8 (k := 1) s9.2.2
      have e8 : (rdHdR (r.takeR 4)).err = none := s8.2.2
      unfold rdHdR at e8
      have s7 := ext_take Y a7 (k := 4) e8
      have s6 := ext_take Y a6 (k := 4) s7.2.2
      have s5 := ext_take Y a5 (k := 4) s6.2.2
      have s4 := ext_take Y a4 (k := 4) s5.2.2
      have s3 := ext_take Y a3 (k := 4) s4.2.2
      have s2 := ext_take Y a2 (k := 4) s3.2.2
      have s1 := ext_take Y a1 (k := 1) s2.2.2
      have s0 := ext_take Y a0 (k := 1) s1.2.2
      have sm := ext_take Y h (k := 4) s0.2.2
      have hHR : rdHdR (extR Y (r.takeR 4)) = extR Y (rdHdR (r.takeR 4)) := by
        unfold rdHdR
        rw [s0.2.1, s1.2.1, s2.2.1, s3.2.1, s4.2.1, s5.2.1, s6.2.1, s7.2.1]
      have hHd : rdHd (extR Y (r.takeR 4)) = rdHd (r.takeR 4) := by
        unfold rdHd
        rw [s0.1, s0.2.1, s1.1, s1.2.1, s2.1, s2.2.1, s3.1, s3.2.1, s4.1, s4.2.1, s5.1, s5.2.1, s6.1, s6.2.1, s7.1]
      have hc' : ¬ ((extR Y r).takeV 4 ≠ 1163084593 ∧ ((extR Y r).takeR 4).err = none) := by
        rw [sm.1, sm.2.1]
        exact hc
      rw [if_neg hc', sm.2.1, hHd, hHR, s8.1, s8.2.1, s9.1, s9.2.1, s10.1, s10.2.1, xp]
      dsimp only
      rw [xq]
      dsimp only
      rw [xr]
      rw [if_neg hc]
      dsimp only
      exact ⟨rfl, br⟩

theorem seal_len4 (c : Cf) (T : List Nat) (h : chkT c = []) (hT : T.length ≤ 1000) : ¬ 4096 < (sealB (bodyT c ++ T)).length := by
  obtain ⟨_, c2, c3, c4, _⟩ := chkT_nil h
  rw [sealB_len, List.length_append, bodyT_len]
  omega
theorem decT_seal {c : Cf} (h : chkT c = []) (T : List Nat) (hT : T.length ≤ 1000) : decT (sealB (bodyT c ++ T)) = decTE (c, [], rdA (bodyT c) T) := by
  unfold decT
  rw [if_neg (seal_len4 c T h hT), openB_seal]
  have := rdT_be h T
  dsimp only
  rw [← this]
  rfl
/-- What was written is read. -/
theorem decT_img {c : Cf} (h : chkT c = []) : decT (imgT c) = (c, []) := by
  have := decT_seal h [] (by simp)
  rw [List.append_nil] at this
  unfold imgT
  rw [this]
  unfold decTE
  dsimp only
  rw [endA, if_pos rfl, h]
  rfl
/-- With something behind it, it is none. -/
theorem decT_far {c : Cf} (h : chkT c = []) (T : List Nat) (hT : T.length ≤ 1000) : (decT (sealB (bodyT c ++ T))).2 = [] ↔ T = [] := by
  rw [decT_seal h T hT]
  unfold decTE
  dsimp only
  rw [endA]
  by_cases hT : T = []
  · rw [if_pos hT, h]
    exact ⟨fun _ => hT, fun _ => rfl⟩
  · rw [if_neg hT]
    exact ⟨fun h => by simp [thenE] at h, fun h => absurd h hT⟩
theorem thenE_nil3 {a b c : List (Int × Int)} (h : thenE a (thenE b c) = []) : a = [] ∧ b = [] := by
  obtain ⟨h1, h2⟩ := then_nil h
  exact ⟨h1, (then_nil h2).1⟩
/-- An image's beginning is none. -/
theorem decT_short {c : Cf} (h : chkT c = []) {n : Nat} (hn : n < (bodyT c).length) : (decT (sealB ((bodyT c).take n))).2 ≠ [] := by
  intro h2
  obtain ⟨_, c2, c3, c4, _⟩ := chkT_nil h
  have hlen := bodyT_len c
  have hX : IsBy ((bodyT c).take n) := (bodyT_by c).take n
  have hXl : ((bodyT c).take n).length = n := by simp; omega
  have hY := List.take_append_drop n (bodyT c)
  generalize (bodyT c).take n = X at *
  generalize (bodyT c).drop n = Y at *
  unfold decT at h2
  rw [if_neg (by rw [sealB_len]; omega), openB_seal] at h2
  dsimp only at h2
  have hok : (⟨X, 0, none⟩ : Rd).Ok := ⟨Nat.zero_le _, hX, by dsimp only; omega⟩
  unfold decTE at h2
  split at h2
  · rename_i hes
    obtain ⟨e1, e2⟩ := thenE_nil3 hes
    have he : (rdT ⟨X, 0, none⟩).2.2.err = none := by
      unfold Rd.endE at e2
      cases hr : (rdT ⟨X, 0, none⟩).2.2.err with
      | some a => rw [hr] at e2; simp at e2
      | none => rfl
    obtain ⟨x1, x2⟩ := ext_T Y hok e1 he
    have hb := rdT_be h []
    rw [List.append_nil] at hb
    have e3 : extR Y ⟨X, 0, none⟩ = rdA [] (bodyT c) := by unfold extR rdA; rw [hY]; rfl
    rw [e3, hb] at x1
    have e4 := congrArg (fun p => p.2.2) x1
    have e5 := congrArg Rd.at_ e4
    have e6 := congrArg Rd.bs e4
    simp only [rdA, extR, List.append_nil] at e5 e6
    have hle := x2.le
    have e7 := congrArg List.length e6
    have e8 := congrArg List.length hY
    rw [List.length_append] at e7 e8
    omega
  · simp at h2
end Go.Proofs.Ytpgiiidnimbdgaa
