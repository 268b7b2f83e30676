/- make, append, copy, bytes of a string over abstract values and stores; all operations that make or write memory as one function; for any program whose types stand in a table. -/
import Derived.Test.YtpgiiidnimbdgaaAbH
namespace Go.Ab
open Go.RowKit
set_option linter.unusedVariables false
set_option linter.unusedSimpArgs false

section
variable {P : Program} {T : Tab} {σ : Sg} {S : St} {base : Nat} {w0 w : World}

def mkRow (z : Value) (n size : Nat) : List Value := if size = 1 then List.replicate n (z.cells.getD 0 undef) else (madeCells z.cells (n * size)).toList

def makeA (T : Tab) (S : St) (t : TypeId) (l c : Value) : Option (Value × St) :=
  match l, c with
  | .int _ a, .int _ b =>
    match T t with
    | some ⟨.slice e, _, _, _⟩ =>
      match T e with
      | some i =>
        if a = b ∧ 0 ≤ a ∧ a ≤ 9223372036854775807 ∧ (i.bytes : Int) * a ≤ 281474976710656 ∧ i.size ≠ 0 ∧ i.zero.cells.size = i.size then
          some (.slice (some ⟨S.length, 0, none⟩) a.toNat i.size, S ++ [.row e true (mkRow i.zero a.toNat i.size)])
        else none
      | none => none
    | _ => none
  | _, _ => none

theorem own_row_block {w : World} {base : Nat} {e : TypeId} {size n : Nat} {v : Value} {xs : List Value} (h : w.ownsRow base e size v n xs) (hv : v ≠ .slice none 0 0) :
    ∃ g cap cur, v = .slice (some ⟨g, 0, none⟩) n cap ∧ base ≤ g ∧ w.heap[g]? = some (.cells cur e (0, 0)) ∧ n ≤ cap ∧ cap ≤ maxLen ∧ cur.size = cap * size ∧ cur.toList.take (n * size) = xs := by
  rcases h.2 with ⟨h1, _⟩ | h1
  · exact absurd h1 hv
  · exact h1

theorem take_get {l xs : List Value} {n i : Nat} {v : Value} (h : l.take n = xs) (hv : xs[i]? = some v) : l[i]? = some v := by
  subst h
  rw [List.getElem?_take] at hv
  split at hv
  · exact hv
  · cases hv

theorem getElem!_cells {z : Array Value} {j : Nat} (h : j < z.size) : z[j]! = z[j]'h := getElem!_pos z j h

theorem mkRow_get {T : Tab} (ok : TabOk P T) {e : TypeId} {i : TI} (he : T e = some i) (hz : i.zero.cells.size = i.size) (h0 : i.size ≠ 0) {n : Nat} {xs : List Value}
    (hx : xs = (madeCells i.zero.cells (n * i.size)).toList) (σ : Sg) (j : Nat) (v : Value) (hv : (mkRow i.zero n i.size)[j]? = some v) : ∃ v', xs[j]? = some v' ∧ Rep σ v v' ∧ v'.oneCell' = true := by
  have hmade : ∀ (j : Nat), xs[j]? = if j < n * i.size then some (i.zero.cells[j % i.zero.cells.size]!) else none := by
    intro j
    rw [hx]
    rw [Array.getElem?_toList]
    exact zerosOf_get i.zero.cells (n * i.size) j
  have hplain : ∀ j, okc (i.zero.cells[j % i.zero.cells.size]!) = true := by
    intro j
    have hm : j % i.zero.cells.size < i.zero.cells.size := Nat.mod_lt _ (by omega)
    rw [getElem!_cells hm]
    exact ok.plain e i he _ (by simp)
  have key : j < n * i.size → v = i.zero.cells[j % i.zero.cells.size]! → ∃ v', xs[j]? = some v' ∧ Rep σ v v' ∧ v'.oneCell' = true := by
    intro hj hv
    refine ⟨v, by rw [hmade, if_pos hj, hv], ?_, ?_⟩
    · rw [hv]; exact .const _ (hplain j)
    · rw [hv]; exact okc_one (hplain j)
  unfold mkRow at hv
  split at hv
  · rename_i h1
    rw [List.getElem?_replicate] at hv
    split at hv
    · rename_i hj
      cases hv
      refine key (by rw [h1]; omega) ?_
      have hm : j % i.zero.cells.size < i.zero.cells.size := Nat.mod_lt _ (by omega)
      rw [getElem!_cells hm]
      have : j % i.zero.cells.size = 0 := by rw [hz, h1]; omega
      have h00 : 0 < i.zero.cells.size := by omega
      simp only [this]
      simp [Array.getD, h00]
    · cases hv
  · rw [← hx, hmade] at hv
    split at hv
    · rename_i hj
      cases hv
      exact key hj rfl
    · cases hv

theorem makeA_sound (ok : TabOk P T) (hs : Sim σ S base w0 w) {t : TypeId} {l l' c c' v : Value} {S' : St} (hl : Rep σ l l') (hc : Rep σ c c') (h : makeA T S t l c = some (v, S')) :
    Comes P σ base w0 w (do pure (.value (← Instr.makeSlice t l' c'))) v S' := by
  unfold makeA at h
  split at h
  · rename_i k1 a k2 b
    obtain rfl := hl.int_
    obtain rfl := hc.int_
    split at h
    · rename_i e a1 b1 c1 hi
      split at h
      · rename_i i he
        split at h
        · rename_i hcond
          obtain ⟨hab, ha0, hamax, hby, hsz, hz⟩ := hcond
          cases h
          subst hab
          obtain ⟨n, rfl⟩ := Int.eq_ofNat_of_zero_le ha0
          obtain ⟨j, q1, q2, q3, q4⟩ := ok.info e i he
          obtain ⟨w', r1, r2, r3⟩ := run_make_full (P := P) (w := w) base t e j i.zero j.size (ok.under t _ hi) q1 q4 rfl k1 k2 n (by
            have : ((i.bytes * n : Nat) : Int) ≤ 281474976710656 := by rw [Int.natCast_mul]; exact hby
            rw [q3]; omega) (by unfold maxLen; omega) hs.size
          obtain ⟨g, cap, cur, e1, e2, e3, e4, e5, e6, e7⟩ := own_row_block r2 (by simp)
          injection e1 with e1 _ ecap
          injection e1 with e1
          injection e1 with e1
          subst e1
          subst ecap
          have hs1 := hs.grown r3
          rw [q2] at e6 e7
          refine ⟨_, w', σ ++ [⟨w.heap.size, 0, some cur.size⟩], by simp only [Sem.run_bind, r1, Result.andThen_ok]; rfl, .inl ⟨_, rfl, ?_⟩, List.prefix_append _ _, ?_⟩
          · refine .slice S.length 0 _ i.size _ ⟨w.heap.size, 0, some cur.size⟩ (by rw [← hs.len, List.getElem?_append_right (Nat.le_refl _)]; simp) (by simp) e5 (fun N hN => .inr ?_)
            injection hN with hN
            rw [← hN, e6]
            simp
          · refine hs1.add e3 e2 (fun j v hv => ?_) (fun o' l' ty' rw' cs' hh h1 hl1 he1 => ?_)
            · obtain ⟨v', p1, p2, p3⟩ := mkRow_get ok he hz hsz (n := n) e7 (σ ++ [⟨w.heap.size, 0, some cur.size⟩]) j v (by simpa using hv)
              exact ⟨v', by rw [← Array.getElem?_toList]; exact take_get rfl p1, p2, p3⟩
            · cases rw' with
              | true => have := hs.own_lt h1 hl1; omega
              | false =>
                cases cs' with
                | nil => exact absurd hh (by simp)
                | cons c cs' => have := hs.lt h1 hl1 (by simp); omega
        · cases h
      · cases h
    · cases h
  · cases h

/-- What is appended: a slice's cells. -/
def cellsA (S : St) (size : Nat) (x : Value) : Option (Nat × List Value) :=
  match x with
  | .slice none 0 0 => some (0, [])
  | .slice (some ⟨o, k, none⟩) m _ =>
    match S[o]? with
    | some (.row _ _ cs) => if k + m * size ≤ cs.length then some (m, (cs.drop k).take (m * size)) else none
    | _ => none
  | _ => none

def appendA (T : Tab) (S : St) (t : TypeId) (v x : Value) : Option (Value × St) :=
  match T t with
  | some ⟨.slice e, _, _, _⟩ =>
    match T e with
    | some i =>
      if i.size = 0 ∨ i.zero.cells.size ≠ i.size then none else
      match cellsA S i.size x with
      | some (m, news) =>
        match v with
        | .slice none 0 0 =>
          if m * i.bytes ≤ 140737488355328 ∧ m ≤ 9223372036854775807 then
            if m = 0 then some (.slice none 0 0, S) else some (.slice (some ⟨S.length, 0, none⟩) m i.size, S ++ [.row e true news])
          else none
        | .slice (some ⟨o, 0, none⟩) n s =>
          match S[o]? with
          | some (.row e' true cs) =>
            if e' = e ∧ s = i.size ∧ n * i.size ≤ cs.length ∧ (n + m) * i.bytes ≤ 140737488355328 ∧ n + m ≤ 9223372036854775807 then
              some (.slice (some ⟨S.length, 0, none⟩) (n + m) i.size, S.set o .dead ++ [.row e true (cs.take (n * i.size) ++ news)])
            else none
          | _ => none
        | _ => none
      | none => none
    | none => none
  | _ => none

theorem cellsA_sound (hs : Sim σ S base w0 w) {size m : Nat} {x x' : Value} {news : List Value} (hx : Rep σ x x') (h : cellsA S size x = some (m, news)) :
    ∃ (A : Option Addr) (c : Nat) (news' : List Value), x' = .slice A m c ∧ news'.length = m * size ∧ (A = none → m = 0 ∧ c = 0) ∧ news.length = news'.length ∧
      (∀ (i : Nat) v v', news[i]? = some v → news'[i]? = some v' → Rep σ v v') ∧ (∀ a, A = some a → ∀ j u, news'[j]? = some u → w.cell? (a.add j) = some u) ∧ (∀ u ∈ news', u.oneCell' = true) := by
  unfold cellsA at h
  split at h
  · cases h
    obtain rfl := hx.snil_
    exact ⟨none, 0, [], rfl, by simp, fun _ => ⟨rfl, rfl⟩, rfl, (fun i v v' h1 h2 => by simp at h1), (fun a h => by cases h), (fun u hu => by simp at hu)⟩
  · rename_i o k m' s
    split at h
    · rename_i ty rw cs hS
      split at h
      · rename_i hle
        cases h
        rcases hx.slice_.2.1 with ⟨l, c', hl, hc, _, _, rfl⟩ | ⟨rfl, _, A, rfl⟩
        · dsimp only at hl
          obtain ⟨vs, hvl, hvs⟩ := exists_list (p := fun j u u' => w.cell? ⟨l.b, l.off + k + j, none⟩ = some u' ∧ Rep σ u u' ∧ u'.oneCell' = true) ((cs.drop k).take (m * size)) (fun j u hu => by
            rw [List.getElem?_take] at hu
            split at hu
            · rw [List.getElem?_drop] at hu
              obtain ⟨u', h1, h2, h3⟩ := hs.cell o l ty rw cs hS hl (k + j) u hu
              exact ⟨u', by rw [← h1]; congr 2; omega, h2, h3⟩
            · cases hu)
          have hlen : ((cs.drop k).take (m * size)).length = m * size := by simp; omega
          have get : ∀ j u, vs[j]? = some u → ∃ v, ((cs.drop k).take (m * size))[j]? = some v := fun j u hu => by
            have : j < ((cs.drop k).take (m * size)).length := by rw [← hvl]; exact (List.getElem?_eq_some_iff.1 hu).1
            exact ⟨_, List.getElem?_eq_getElem this⟩
          refine ⟨some ⟨l.b, l.off + k, none⟩, c', vs, rfl, by rw [hvl, hlen], (fun h => by cases h), hvl.symm, (fun i v v' h1 h2 => (hvs i v v' h1 h2).2.1), (fun a ha j u hu => ?_), (fun u hu => ?_)⟩
          · injection ha with ha
            subst ha
            obtain ⟨v, hv⟩ := get j u hu
            rw [addr_add]
            exact (hvs j v u hv hu).1
          · obtain ⟨j, hj⟩ := List.mem_iff_getElem?.1 hu
            obtain ⟨v, hv⟩ := get j u hj
            exact (hvs j v u hv hj).2.2
        · refine ⟨A, 0, [], rfl, by simp, fun _ => ⟨rfl, rfl⟩, by simp, (fun i v v' h1 h2 => by simp at h2), (fun a _ j u hu => by simp at hu), (fun u hu => by simp at hu)⟩
      · cases h
    · cases h
  · cases h

theorem append_own {e : TypeId} {i : TI} {t ty : TypeId} {n1 b1 : Nat} {z1 : Value} (ok : TabOk P T) (ht : T t = some ⟨.slice e, n1, z1, b1⟩) (he : T e = some i) (h0 : i.size ≠ 0) (hz : i.zero.cells.size = i.size) {v : Value} {n : Nat} {xs : List Value}
    (hown : w.ownsRow base e i.size v n xs) {A : Option Addr} {m c : Nat} {news' : List Value} (hA : A = none → m = 0 ∧ c = 0) (hl : news'.length = m * i.size) (hn : ∀ a, A = some a → ∀ j u, news'[j]? = some u → w.cell? (a.add j) = some u)
    (h1 : ∀ u ∈ news', u.oneCell' = true) (h63 : n + m ≤ 9223372036854775807) (hb : (n + m) * i.bytes ≤ 140737488355328) (hbase : base ≤ w.heap.size) :
    ∃ v' w', (Builtin.append_ #[t, t] ty #[v, .slice A m c]).run P w = .ok v' w' ∧ w'.ownsRow base e i.size v' (n + m) (xs ++ news') ∧ w.grownBy w' v.ownBlock ∧
      (v' = .slice none 0 0 ↔ v = .slice none 0 0 ∧ m = 0) ∧ (v'.ownBlock = v.ownBlock ∨ v'.ownBlock = some w.heap.size) := by
  obtain ⟨j, q1, q2, q3, q4⟩ := ok.info e i he
  cases A with
  | some a =>
    have := run_append_own_at (P := P) w base t ty e j i.zero i.size i.bytes (ok.under t _ ht) q1 q4 q2 q3 hz (Nat.pos_of_ne_zero h0) v n xs hown a m c news' hl (hn a rfl) h1 (by unfold maxLen; omega) hb hbase
    exact this
  | none =>
    obtain ⟨rfl, rfl⟩ := hA rfl
    have hn0 : news' = [] := List.eq_nil_of_length_eq_zero (by simpa using hl)
    subst hn0
    refine ⟨v, w, run_append_owned_none (P := P) (w := w) base t ty e j i.size (ok.under t _ ht) q1 v n xs hown, by simpa using hown, World.grownBy.refl w _, by simp, .inl rfl⟩

theorem appendA_sound (ok : TabOk P T) (hs : Sim σ S base w0 w) {t ty : TypeId} {v v1 x x1 r : Value} {S' : St} (hv : Rep σ v v1) (hx : Rep σ x x1) (h : appendA T S t v x = some (r, S')) :
    Comes P σ base w0 w (do pure (.value (← Builtin.append_ #[t, t] ty #[v1, x1]))) r S' := by
  unfold appendA at h
  split at h
  · rename_i e a b c hi
    split at h
    · rename_i i he
      split at h
      · cases h
      · rename_i hbad
        have h0 : i.size ≠ 0 := fun q => hbad (.inl q)
        have hz : i.zero.cells.size = i.size := by
          rcases Decidable.em (i.zero.cells.size = i.size) with q | q
          · exact q
          · exact absurd (.inr q) hbad
        split at h
        · rename_i m news hc
          obtain ⟨A, c', news', rfl, hl, hA, hnl, hnr, hcell, hone⟩ := cellsA_sound hs hx hc
          split at h
          · obtain rfl := hv.snil_
            split at h
            · rename_i hb
              have hown := World.ownsRow_nil w base e i.size
              obtain ⟨v', w', r1, r2, r3, r4, r5⟩ := append_own (ty := ty) ok hi he h0 hz hown hA hl hcell hone (by omega) (by rw [Nat.zero_add]; exact hb.1) hs.size
              split at h
              · rename_i hm
                cases h
                subst hm
                obtain rfl := r4.2 ⟨rfl, rfl⟩
                have hs1 := hs.grown r3
                exact ⟨_, w', σ, by simp only [Sem.run_bind, r1, Result.andThen_ok]; rfl, .inl ⟨_, rfl, .const _ rfl⟩, List.prefix_refl _, hs1⟩
              · rename_i hm
                cases h
                obtain ⟨g, cap, cur, rfl, e2, e3, e4, e5, e6, e7⟩ := own_row_block r2 (fun q => hm (r4.1 q).2)
                have hg : g = w.heap.size := by
                  rcases r5 with q | q
                  · simp [Value.ownBlock] at q
                  · simpa [Value.ownBlock] using q
                have hs1 := hs.grown r3
                simp only [List.nil_append] at e7
                refine ⟨_, w', σ ++ [⟨g, 0, some cur.size⟩], by simp only [Sem.run_bind, r1, Result.andThen_ok]; rfl, .inl ⟨_, rfl, ?_⟩, List.prefix_append _ _, ?_⟩
                · rw [Nat.zero_add]
                  refine .slice S.length 0 _ i.size _ ⟨g, 0, some cur.size⟩ (by rw [← hs.len, List.getElem?_append_right (Nat.le_refl _)]; simp) (by omega) e5 (fun N hN => .inr ?_)
                  injection hN with hN
                  rw [← hN, e6]
                  simp
                · refine hs1.add e3 e2 (fun j u hu => ?_) (fun o' l' ty' rw' cs' hh h1 hl1 he1 => ?_)
                  · have hj : j < news'.length := by rw [← hnl]; exact (List.getElem?_eq_some_iff.1 hu).1
                    have hj' := List.getElem?_eq_getElem hj
                    exact ⟨_, by rw [← Array.getElem?_toList]; exact take_get e7 hj', (hnr j u _ hu hj').mono (List.prefix_append _ _), hone _ (List.mem_of_getElem? hj')⟩
                  · cases rw' with
                    | true => have := hs.own_lt h1 hl1; omega
                    | false =>
                      cases cs' with
                      | nil => exact absurd hh (by simp)
                      | cons c cs' => have := hs.lt h1 hl1 (by simp); omega
            · cases h
          · rename_i o n s
            split at h
            · rename_i e' cs hS
              split at h
              · rename_i hb
                obtain ⟨rfl, rfl, hle, hb1, hb2⟩ := hb
                cases h
                have hlo : ∃ l, σ[o]? = some l := by
                  have : o < σ.length := by rw [hs.len]; exact (List.getElem?_eq_some_iff.1 hS).1
                  exact ⟨_, List.getElem?_eq_getElem this⟩
                obtain ⟨l, hlo⟩ := hlo
                obtain ⟨a0, a1, car, hbk, hN⟩ := hs.own o l e' cs hS hlo
                have hcl := hs.cellsLe hS hlo hbk
                -- the cells of the elder row
                have hold : ∃ cap, v1 = .slice (some ⟨l.b, 0, none⟩) n cap ∧ n ≤ cap ∧ cap ≤ maxLen ∧ car.size = cap * i.size := by
                  rcases hv.slice_.2.1 with ⟨l2, cap, q1, q2, q3, q4, q5⟩ | ⟨q1, q2, A1, q3⟩
                  · dsimp only at q1
                    rw [hlo] at q1
                    injection q1 with q1
                    subst q1
                    rcases q4 _ hN with q | q
                    · exact absurd q h0
                    · dsimp only at q q5
                      rw [a0] at q q5
                      simp only [Nat.add_zero, Nat.zero_add] at q q5
                      exact ⟨cap, q5, q2, q3, q.symm⟩
                  · rcases q2 with q2 | q2
                    · exact absurd rfl q2
                    · exact absurd q2 h0
                obtain ⟨cap, rfl, q2, q3, q4⟩ := hold
                have hxs : ∃ xs : List Value, xs = car.toList.take (n * i.size) := ⟨_, rfl⟩
                obtain ⟨xs, hxs⟩ := hxs
                have hxl : xs.length = n * i.size := by rw [hxs]; simp; omega
                have finish : ∀ (v1 : Value) (hown : w.ownsRow base e' i.size v1 n xs) (hob : v1.ownBlock = some l.b ∨ v1.ownBlock = none) (hnn : v1 ≠ .slice none 0 0),
                    Comes P σ base w0 w (do pure (.value (← Builtin.append_ #[t, t] ty #[v1, .slice A m c']))) (.slice (some ⟨S.length, 0, none⟩) (n + m) i.size) (S.set o .dead ++ [.row e' true (cs.take (n * i.size) ++ news)]) := by
                  intro v1 hown hob hnn
                  obtain ⟨v', w', r1, r2, r3, r4, r5⟩ := append_own (ty := ty) ok hi he h0 hz hown hA hl hcell hone hb2 hb1 hs.size
                  obtain ⟨g, cap2, cur, rfl, e2, e3, e4, e5, e6, e7⟩ := own_row_block r2 (fun q => hnn (r4.1 q).1)
                  have hs1 : Sim σ (S.set o .dead) base w0 w' := by
                    refine hs.kill r3 (fun b1 hb1 => ?_) (by simp) (fun o1 ty1 rw1 cs1 q1 => ?_)
                    · rcases hob with q | q
                      · rw [q] at hb1; injection hb1 with hb1; omega
                      · rw [q] at hb1; cases hb1
                    · have hne : o1 ≠ o := by
                        rintro rfl
                        rw [List.getElem?_set_self (List.getElem?_eq_some_iff.1 hS).1] at q1
                        cases q1
                      rw [List.getElem?_set_ne (Ne.symm hne)] at q1
                      refine ⟨q1, fun hh l1 hl1 hq => ?_⟩
                      rcases hob with q | q
                      · rw [q] at hq
                        injection hq with hq
                        exact hs.apart o o1 l l1 _ _ _ _ _ (Ne.symm hne) hh hS q1 hlo hl1 hq.symm
                      · rw [q] at hq; cases hq
                  refine ⟨_, w', σ ++ [⟨g, 0, some cur.size⟩], by simp only [Sem.run_bind, r1, Result.andThen_ok]; rfl, .inl ⟨_, rfl, ?_⟩, List.prefix_append _ _, ?_⟩
                  · refine .slice S.length 0 _ i.size _ ⟨g, 0, some cur.size⟩ (by rw [← hs.len, List.getElem?_append_right (Nat.le_refl _)]; simp) (by omega) e5 (fun N hN => .inr ?_)
                    injection hN with hN
                    rw [← hN, e6]
                    simp
                  · have hlen : σ.length = (S.set o AObj.dead).length := by simp [hs.len]
                    refine hs1.add e3 e2 (fun j u hu => ?_) (fun o' l' ty' rw' cs' hh h1 hl1 he1 => ?_)
                    · have hct : (cs.take (n * i.size)).length = n * i.size := by simp; omega
                      rcases Nat.lt_or_ge j (n * i.size) with hj | hj
                      · rw [List.getElem?_append_left (by omega), List.getElem?_take, if_pos hj] at hu
                        obtain ⟨u', p1, p2, p3⟩ := hs.cell o l e' true cs hS hlo j u hu
                        rw [a0] at p1
                        simp [World.cell?, hbk] at p1
                        refine ⟨u', ?_, p2.mono (List.prefix_append _ _), p3⟩
                        rw [← Array.getElem?_toList]
                        refine take_get e7 ?_
                        rw [List.getElem?_append_left (by omega), hxs, List.getElem?_take, if_pos hj]
                        simpa using p1
                      · rw [List.getElem?_append_right (by omega), hct] at hu
                        have hj2 : j - n * i.size < news'.length := by rw [← hnl]; exact (List.getElem?_eq_some_iff.1 hu).1
                        have hj' := List.getElem?_eq_getElem hj2
                        refine ⟨_, ?_, (hnr _ u _ hu hj').mono (List.prefix_append _ _), hone _ (List.mem_of_getElem? hj')⟩
                        rw [← Array.getElem?_toList]
                        refine take_get e7 ?_
                        rw [List.getElem?_append_right (by omega), hxl]
                        exact hj'
                    · have hne : o' ≠ o := by
                        rintro rfl
                        rw [List.getElem?_set_self (List.getElem?_eq_some_iff.1 hS).1] at h1
                        cases h1
                      rw [List.getElem?_set_ne (Ne.symm hne)] at h1
                      have hlt : l'.b < w.heap.size := by
                        cases rw' with
                        | true => exact hs.own_lt h1 hl1
                        | false =>
                          cases cs' with
                          | nil => exact absurd hh (by simp)
                          | cons c cs' => exact hs.lt h1 hl1 (by simp)
                      rcases r5 with q | q
                      · rcases hob with q2 | q2
                        · rw [q2] at q
                          have : g = l.b := by simpa [Value.ownBlock] using q
                          exact hs.apart o o' l l' _ _ _ _ _ (Ne.symm hne) hh hS h1 hlo hl1 (by omega)
                        · rw [q2] at q
                          simp [Value.ownBlock] at q
                      · have : g = w.heap.size := by simpa [Value.ownBlock] using q
                        omega
                exact finish _ ⟨hxl, .inr ⟨l.b, cap, car, rfl, a1, hbk, q2, q3, q4, hxs.symm⟩⟩ (.inl rfl) (by simp)
              · cases h
            · cases h
          · cases h
        · cases h
    · cases h
  · cases h

end
end Go.Ab
