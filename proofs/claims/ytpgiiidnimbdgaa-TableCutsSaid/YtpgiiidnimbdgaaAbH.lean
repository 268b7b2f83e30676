/- Operations that make or write memory, over abstract values and stores, and that the model's operations come to the same; for any program whose types stand in a table. -/
import Derived.Test.YtpgiiidnimbdgaaAbG
namespace Go.Ab
open Go.RowKit
set_option linter.unusedVariables false
set_option linter.unusedSimpArgs false

def splice (cs : List Value) (k : Nat) (vs : List Value) : List Value :=
  match vs with
  | [v] => cs.set k v
  | _ => cs.take k ++ vs ++ cs.drop (k + vs.length)

theorem splice_eq (cs : List Value) (k : Nat) (vs : List Value) (h : k + vs.length ≤ cs.length) : splice cs k vs = cs.take k ++ vs ++ cs.drop (k + vs.length) := by
  unfold splice
  split
  · rename_i v
    simp only [List.length_singleton] at h ⊢
    rw [List.set_eq_take_append_cons_drop, if_pos (by omega)]
    simp
  · rfl

theorem splice_get {cs : List Value} {k : Nat} {vs : List Value} (h : k + vs.length ≤ cs.length) (i : Nat) :
    (splice cs k vs)[i]? = if k ≤ i ∧ i < k + vs.length then vs[i - k]? else cs[i]? := by
  rw [splice_eq cs k vs h]
  have hk : (cs.take k).length = k := by simp; omega
  rcases Nat.lt_or_ge i k with h1 | h1
  · rw [if_neg (by omega), List.append_assoc, List.getElem?_append_left (by omega), List.getElem?_take, if_pos h1]
  · rcases Nat.lt_or_ge i (k + vs.length) with h2 | h2
    · rw [if_pos ⟨h1, h2⟩, List.append_assoc, List.getElem?_append_right (by omega), hk, List.getElem?_append_left (by omega)]
    · rw [if_neg (by omega), List.getElem?_append_right (by simp; omega), List.getElem?_drop]
      congr 1
      simp
      omega

def storeA (T : Tab) (S : St) (t : TypeId) (x v : Value) : Option St :=
  match x with
  | .pointer (some ⟨o, k, none⟩) =>
    match T t with
    | none => none
    | some i =>
      if solid v ∧ v.cells.size = i.size then
        match S[o]? with
        | some (.row ty true cs) => if k + i.size ≤ cs.length then some (S.set o (.row ty true (splice cs k v.cells.toList))) else none
        | _ => none
      else none
  | _ => none

/-- What a heavy operation comes to. -/
def Comes (P : Program) (σ : Sg) (base : Nat) (w0 w : World) (s : Sem Next) (v : Value) (S' : St) : Prop :=
  ∃ nx w' σ', s.run P w = .ok nx w' ∧ ((∃ v', nx = .value v' ∧ Rep σ' v v') ∨ (nx = .skip ∧ v = undef)) ∧ σ <+: σ' ∧ Sim σ' S' base w0 w'

section
variable {P : Program} {T : Tab} {σ : Sg} {S : St} {base : Nat} {w0 w : World}

theorem Sim.cellsLe (h : Sim σ S base w0 w) {o : Nat} {l : Loc} {ty : TypeId} {cs : List Value} {car : Array Value} (hS : S[o]? = some (.row ty true cs)) (hl : σ[o]? = some l)
    (hb : w.heap[l.b]? = some (.cells car ty (0, 0))) : cs.length ≤ car.size := by
  rcases Nat.eq_zero_or_pos cs.length with h0 | h0
  · omega
  · obtain ⟨v', h1, _⟩ := h.cell o l ty true cs hS hl (cs.length - 1) _ (List.getElem?_eq_getElem (by omega))
    obtain ⟨a0, _⟩ := h.own o l ty cs hS hl
    rw [a0] at h1
    simp [World.cell?, hb] at h1
    have := (Array.getElem?_eq_some_iff.1 h1).1
    omega

theorem storeA_sound (ok : TabOk P T) (hs : Sim σ S base w0 w) {t : TypeId} {x x' v v' : Value} {S' : St} (hx : Rep σ x x') (hv : Rep σ v v') (h : storeA T S t x v = some S') :
    ∃ w', (Instr.storeAt t x' v').run P w = .ok () w' ∧ Sim σ S' base w0 w' := by
  unfold storeA at h
  split at h
  · rename_i o k
    obtain ⟨l, hl, _, rfl⟩ := hx.ptr_
    dsimp only at hl
    split at h
    · cases h
    · rename_i i hi
      split at h
      · rename_i hsol
        split at h
        · rename_i ty cs hS
          split at h
          · rename_i hle
            cases h
            obtain ⟨a0, a1, car, hb, hN⟩ := hs.own o l ty cs hS hl
            have hcl := hs.cellsLe hS hl hb
            obtain ⟨q1, q2⟩ := rep_cells hv hsol.1
            have q3 := rep_flat hv hsol.1
            have hsz : v'.cells.size = i.size := by rw [← q1]; exact hsol.2
            have hrun := run_storeCells_at P l.b (l.off + k) ty v'.cells.toList 0 car w hb (by simp [hsz, a0]; omega) (fun u hu => by
              obtain ⟨j, hj⟩ := List.mem_iff_getElem?.1 hu
              exact q3 j u (by simpa using hj))
            rw [a0] at hrun
            simp only [Nat.zero_add, Nat.add_zero] at hrun
            refine ⟨w.setRow l.b (car.toList.take k ++ v'.cells.toList ++ car.toList.drop (k + v'.cells.toList.length)).toArray, ?_, ?_⟩
            · simp only [Instr.storeAt, Instr.sureAddr, storeVar, Sem.run_bind, Sem.run_pure, Result.andThen_ok, ok.run_size hi]
              rw [if_neg (by simp [hsz])]
              rw [a0]
              simp only [Nat.zero_add, Sem.run_bind, Sem.run_pure, Result.andThen_ok]
              exact hrun
            · have hlen : (car.toList.take k ++ v'.cells.toList ++ car.toList.drop (k + v'.cells.toList.length)).length = car.size := by
                simp [hsz]; omega
              refine hs.put hS hl (setRow_grown w l.b _) (setRow_heap w l.b car _ ty _ hb) (by rw [hN]; simp only [List.size_toArray, hlen]) (fun j u hu => ?_)
              have hspl := splice_get (cs := cs) (k := k) (vs := v.cells.toList) (by simp [hsol.2]; omega) j
              rw [hspl] at hu
              have hspl2 : (car.toList.take k ++ v'.cells.toList ++ car.toList.drop (k + v'.cells.toList.length)).toArray[j]? = if k ≤ j ∧ j < k + v'.cells.toList.length then v'.cells.toList[j - k]? else car.toList[j]? := by
                rw [List.getElem?_toArray, ← splice_eq car.toList k v'.cells.toList (by simp [hsz]; omega)]
                exact splice_get (by simp [hsz]; omega) j
              rw [hspl2]
              have hl2 : v.cells.toList.length = v'.cells.toList.length := by simp [q1]
              rw [← hl2]
              split at hu
              · rename_i hin
                rw [if_pos hin]
                have hj : j - k < v'.cells.toList.length := by omega
                exact ⟨_, List.getElem?_eq_getElem hj, q2 (j - k) u _ (by simpa using hu) (by rw [← Array.getElem?_toList]; exact List.getElem?_eq_getElem hj), q3 (j - k) _ (by rw [← Array.getElem?_toList]; exact List.getElem?_eq_getElem hj)⟩
              · rename_i hin
                rw [if_neg hin]
                obtain ⟨u', r1, r2, r3⟩ := hs.cell o l ty true cs hS hl j u hu
                rw [a0] at r1
                simp [World.cell?, hb] at r1
                exact ⟨u', by simpa using r1, r2, r3⟩
          · cases h
        · cases h
      · cases h
  · cases h

/-- A new row of cells. -/
theorem newRow_comes (hs : Sim σ S base w0 w) {e : TypeId} {cs cs' : Array Value} (hr : Reps σ cs cs') (hf : Flat cs') :
    (newRow e cs').run P w = .ok ⟨w.heap.size, 0, none⟩ (w.alloc (.cells cs' e)) ∧ σ <+: (σ ++ [⟨w.heap.size, 0, some cs'.size⟩]) ∧
      Sim (σ ++ [⟨w.heap.size, 0, some cs'.size⟩]) (S ++ [.row e true cs.toList]) base w0 (w.alloc (.cells cs' e)) := by
  refine ⟨by simp [newRow], List.prefix_append _ _, hs.new (fun i v hv => ?_)⟩
  obtain ⟨v', h1, h2⟩ := hr.get (by simpa using hv)
  exact ⟨v', h1, h2, hf i v' h1⟩

theorem rep_new (hs : Sim σ S base w0 w) (L : Loc) (h0 : L.off = 0) : Rep (σ ++ [L]) (.pointer (some ⟨S.length, 0, none⟩)) (.pointer (some ⟨L.b, 0, none⟩)) := by
  have := Rep.ptr (σ := σ ++ [L]) S.length 0 L (by rw [← hs.len, List.getElem?_append_right (Nat.le_refl _)]; simp)
  rw [h0] at this
  exact this

def allocA (T : Tab) (S : St) (e : TypeId) : Option (Value × St) :=
  match T e with
  | some i => some (.pointer (some ⟨S.length, 0, none⟩), S ++ [.row e true i.zero.cells.toList])
  | none => none
theorem allocA_sound (ok : TabOk P T) (hs : Sim σ S base w0 w) {e : TypeId} {v : Value} {S' : St} (h : allocA T S e = some (v, S')) :
    Comes P σ base w0 w (do pure (.value (← Instr.alloc e true (.tuple #[])))) v S' := by
  unfold allocA at h
  split at h
  · rename_i i hi
    cases h
    have hz : Flat i.zero.cells := fun j u hu => okc_one (ok.plain e i hi u (Array.mem_toList_iff.2 (Array.mem_of_getElem? hu)))
    obtain ⟨h1, h2, h3⟩ := newRow_comes (P := P) hs (e := e) (zeros_reps ok hi σ) hz
    refine ⟨_, _, _, ?_, .inl ⟨_, rfl, rep_new hs _ rfl⟩, h2, h3⟩
    simp only [Instr.alloc, newVar, Sem.run_bind, Sem.run_pure, Result.andThen_ok, ok.run_zero hi, h1]
  · cases h

def boxA (S : St) (e : TypeId) (v : Value) : Option (Value × St) :=
  if solid v then some (.pointer (some ⟨S.length, 0, none⟩), S ++ [.row e true v.cells.toList]) else none
theorem boxA_sound (hs : Sim σ S base w0 w) {e : TypeId} {x x' v : Value} {S' : St} (hx : Rep σ x x') (h : boxA S e x = some (v, S')) :
    Comes P σ base w0 w (do pure (.value (← Instr.box e x'))) v S' := by
  unfold boxA at h
  split at h
  · rename_i hsol
    cases h
    obtain ⟨h1, h2, h3⟩ := newRow_comes (P := P) hs (e := e) (rep_cells hx hsol) (rep_flat hx hsol)
    refine ⟨_, _, _, ?_, .inl ⟨_, rfl, rep_new hs _ rfl⟩, h2, h3⟩
    simp only [Instr.box, newVar, Sem.run_bind, Sem.run_pure, Result.andThen_ok, h1]
  · cases h

theorem fill_size {place : Nat → Option (Nat × Nat)} : ∀ (ps : List (Nat × Value)) (cs r : Array Value), Instr.fill place cs ps = some r → r.size = cs.size
  | [], cs, r, h => by simp only [Instr.fill, Option.some.injEq] at h; rw [h]
  | (i, v) :: ps, cs, r, h => by
    simp only [Instr.fill] at h
    split at h
    · cases h
    · split at h
      · cases h
      · have := fill_size ps _ r h
        rw [this]
        have hsz : ∀ (l : List (Value × Nat)) (a : Array Value) (off : Nat), (l.foldl (fun cs (x : Value × Nat) => cs.setIfInBounds (off + x.2) x.1) a).size = a.size := by
          intro l
          induction l with
          | nil => intro a off; rfl
          | cons x l ih => intro a off; rw [List.foldl_cons, ih]; simp
        rw [← Array.foldl_toList]
        exact hsz _ _ _

def zerosOf (z : Array Value) (n : Nat) : Array Value := (Array.range n).map (z[· % z.size]!)
def buildSliceA (T : Tab) (S : St) (t : TypeId) (n : Nat) (ps : List (Nat × Value)) : Option (Value × St) :=
  match T t with
  | some ⟨.slice e, _, _, _⟩ =>
    match T e with
    | some i =>
      if i.size = 0 ∨ i.zero.cells.size ≠ i.size ∨ 16777216 < n * i.size then none else
      if ps.all (fun p => solid p.2) then
        match Instr.fill (fun j => some (j * i.size, i.size)) (zerosOf (if n * i.size = 0 then #[] else i.zero.cells) (n * i.size)) ps with
        | some r => some (.slice (some ⟨S.length, 0, none⟩) n i.size, S ++ [.row e true r.toList])
        | none => none
      else none
    | none => none
  | _ => none

theorem zerosOf_get (z : Array Value) (n j : Nat) : (zerosOf z n)[j]? = if j < n then some (z[j % z.size]!) else none := by
  unfold zerosOf
  rw [Array.getElem?_map]
  split
  · rename_i h; simp [h]
  · rename_i h; simp; omega

theorem buildSliceA_sound (ok : TabOk P T) (hs : Sim σ S base w0 w) {t : TypeId} {n : Nat} {ps : List (Nat × Value)} {ps' : Array (Nat × Value)} {v : Value} {S' : St}
    (hl : ps.length = ps'.size) (hp : ∀ (j : Nat) p p', ps[j]? = some p → ps'[j]? = some p' → p.1 = p'.1 ∧ Rep σ p.2 p'.2)
    (h : buildSliceA T S t n ps = some (v, S')) : Comes P σ base w0 w (do pure (.value (← Instr.buildSlice t n ps'))) v S' := by
  have hp' : ps.all (fun p => solid p.2) = true → ∀ (j : Nat) p p', ps[j]? = some p → ps'.toList[j]? = some p' → p.1 = p'.1 ∧ solid p.2 = true ∧ Rep σ p.2 p'.2 := by
    intro hs j p p' h1 h2
    obtain ⟨a, b⟩ := hp j p p' h1 (by simpa using h2)
    exact ⟨a, List.all_eq_true.1 hs p (List.mem_of_getElem? h1), b⟩
  unfold buildSliceA at h
  split at h
  · rename_i e a b c hi
    split at h
    · rename_i i he
      split at h
      · cases h
      · rename_i hbad
        split at h
        · rename_i hsol
          split at h
          · rename_i r hf
            cases h
            have hzc : ∀ (j : Nat) v, (zerosOf (if n * i.size = 0 then #[] else i.zero.cells) (n * i.size))[j]? = some v → okc v = true := by
              intro j v hv
              rw [zerosOf_get] at hv
              split at hv
              · rename_i hj
                rw [if_neg (by omega)] at hv
                cases hv
                have hz0 : 0 < i.zero.cells.size := by
                  rcases Nat.eq_zero_or_pos i.zero.cells.size with q | q
                  · exfalso
                    have : i.size = 0 := by
                      rcases Decidable.em (i.zero.cells.size = i.size) with q2 | q2
                      · omega
                      · exact absurd (.inr (.inl q2)) hbad
                    exact hbad (.inl this)
                  · exact q
                have hm : j % i.zero.cells.size < i.zero.cells.size := Nat.mod_lt _ hz0
                rw [getElem!_pos i.zero.cells _ hm]
                exact ok.plain e i he _ (by simp)
              · cases hv
            have hzr : Reps σ (zerosOf (if n * i.size = 0 then #[] else i.zero.cells) (n * i.size)) (zerosOf (if n * i.size = 0 then #[] else i.zero.cells) (n * i.size)) :=
              ⟨rfl, fun j v v' h1 h2 => by rw [h1] at h2; cases h2; exact .const _ (hzc j v h1)⟩
            obtain ⟨r', h1, h2, h3⟩ := fill_sound ps ps'.toList _ _ r hzr (by simpa using hl) (hp' hsol) (fun j u hu => okc_one (hzc j u hu)) hf
            obtain ⟨g1, g2, g3⟩ := newRow_comes (P := P) hs (e := e) h2 h3
            have hu : (underlying t).run P w = .ok (.slice e) w := ok.run_under hi w
            have hle : ¬ n * i.size > 2 ^ 24 := fun q => hbad (.inr (.inr (by simpa using q)))
            have hsz : r'.size = n * i.size := by rw [fill_size _ _ _ h1]; simp [zerosOf]
            refine ⟨.value (.slice (some ⟨w.heap.size, 0, none⟩) n n), _, _, ?_, .inl ⟨_, rfl, ?_⟩, g2, g3⟩
            · simp only [Instr.buildSlice, Sem.run_bind, hu, Result.andThen_ok, ok.run_size he]
              rw [if_neg hle]
              simp only [Sem.run_pure, Sem.run_bind, Result.andThen_ok]
              by_cases h0 : n * i.size = 0
              · rw [if_pos h0] at h1
                rw [if_pos h0]
                have h1' : Instr.fill (fun j => some (j * i.size, i.size)) ((Array.range (n * i.size)).map fun x => (#[] : Array Value)[x % (#[] : Array Value).size]!) ps'.toList = some r' := h1
                simp only [Sem.run_pure, Result.andThen_ok, h1', Sem.run_bind, g1]
              · rw [if_neg h0] at h1
                rw [if_neg h0]
                have h1' : Instr.fill (fun j => some (j * i.size, i.size)) ((Array.range (n * i.size)).map fun x => i.zero.cells[x % i.zero.cells.size]!) ps'.toList = some r' := h1
                simp only [Sem.run_bind, Sem.run_pure, Result.andThen_ok, ok.run_zero he, h1', g1]
            · have hn : n ≤ n * i.size := Nat.le_mul_of_pos_right n (Nat.pos_of_ne_zero (fun q => hbad (.inl q)))
              refine .slice S.length 0 n i.size n ⟨w.heap.size, 0, some r'.size⟩ (by rw [← hs.len, List.getElem?_append_right (Nat.le_refl _)]; simp) (Nat.le_refl _) (by unfold maxLen; omega) (fun N hN => .inr ?_)
              injection hN with hN
              rw [← hN, hsz]
              simp
          · cases h
        · cases h
    · cases h
  · cases h

end
end Go.Ab
