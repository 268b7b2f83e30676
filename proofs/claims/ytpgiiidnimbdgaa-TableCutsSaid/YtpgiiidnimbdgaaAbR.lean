/- A function's arguments, opened: what can be read as data becomes a store of rows that are only read, and a call over that store tells of the call in the world; for any program. -/
import Derived.Test.YtpgiiidnimbdgaaAbQ
import Derived.ProofKit
import Derived.SizedLaws
import Derived.OpenShut
import Derived.ChangeOld
namespace Go.Ab
open Go.RowKit Go.ChangeShapes Go.WideShapes
set_option linter.unusedVariables false
set_option linter.unusedSimpArgs false

/-- Fields lie side by side. -/
def tileB (P : Program) (tot : Nat) : Nat → List Field → Bool
  | off, [] => off == tot
  | off, f :: fs => f.offset == off && tileB P tot (off + P.cellsOf f.type) fs
/-- Numbers, Bools, strings, and slices, arrays and structs of such. -/
def simpleT (P : Program) : Nat → TypeId → Bool
  | 0, _ => false
  | n + 1, t =>
    match P.underlying t with
    | some .bool | some (.int _) | some .string => P.cellsOf t == 1
    | some (.slice e) => P.cellsOf t == 1 && decide (0 < P.cellsOf e) && simpleT P n e
    | some (.struct fs) => tileB P (P.cellsOf t) 0 fs.toList && fs.toList.all (fun f => simpleT P n f.type)
    | some (.array m e) => P.cellsOf t == m * P.cellsOf e && simpleT P n e
    | _ => false

/-- Cells that read as a value of a type. -/
inductive Lies (P : Program) (S : St) : TypeId → List Value → Prop
  | bool {t} (b : Bool) (h : P.underlying t = some .bool) : Lies P S t [.bool b]
  | int {t k} (n : Int) (h : P.underlying t = some (.int k)) (hw : (Lit.int k n).wf = true) : Lies P S t [.int k n]
  | string {t} (s : ByteArray) (h : P.underlying t = some .string) (hs : s.size ≤ reachBytes) : Lies P S t [.string s]
  | slice {t e} (o : Nat) (xs : List (List Value)) (h : P.underlying t = some (.slice e)) (hS : S[o]? = some (.row e false xs.flatten)) (hb : xs.length * P.bytesOf e ≤ reachBytes) (hm : xs.length ≤ maxLen)
      (hl : ∀ x ∈ xs, x.length = P.cellsOf e) (hx : ∀ x ∈ xs, Lies P S e x) : Lies P S t [.slice (some ⟨o, 0, none⟩) xs.length 0]
  | struct {t fs} (xs : List (List Value)) (h : P.underlying t = some (.struct fs)) (hn : xs.length = fs.size) (hl : ∀ (i : Nat) f x, fs[i]? = some f → xs[i]? = some x → x.length = P.cellsOf f.type)
      (hx : ∀ (i : Nat) f x, fs[i]? = some f → xs[i]? = some x → Lies P S f.type x) : Lies P S t xs.flatten
  | array {t n e} (xs : List (List Value)) (h : P.underlying t = some (.array n e)) (hn : xs.length = n) (hl : ∀ x ∈ xs, x.length = P.cellsOf e) (hx : ∀ x ∈ xs, Lies P S e x) : Lies P S t xs.flatten

theorem Lies.append {P : Program} {S : St} (R : St) {t : TypeId} {us : List Value} (h : Lies P S t us) : Lies P (S ++ R) t us := by
  induction h with
  | bool b h => exact .bool b h
  | int n h hw => exact .int n h hw
  | string s h hs => exact .string s h hs
  | slice o xs h hS hb hm hl _ ih => exact .slice o xs h (by rw [List.getElem?_append_left (List.getElem?_eq_some_iff.1 hS).1]; exact hS) hb hm hl ih
  | struct xs h hn hl _ ih => exact .struct xs h hn hl ih
  | array xs h hn hl _ ih => exact .array xs h hn hl ih

/-! what lies, by its type -/
section
variable {P : Program} {S : St} {t : TypeId} {us : List Value}
theorem Lies.bool_ (h : Lies P S t us) (ht : P.underlying t = some .bool) : ∃ b, us = [.bool b] := by
  cases h <;> simp_all
theorem Lies.int_ {k : IntKind} (h : Lies P S t us) (ht : P.underlying t = some (.int k)) : ∃ n, us = [.int k n] ∧ (Lit.int k n).wf = true := by
  cases h with
  | int n h hw => rw [h] at ht; cases ht; exact ⟨n, rfl, hw⟩
  | _ => simp_all
theorem Lies.string_ (h : Lies P S t us) (ht : P.underlying t = some .string) : ∃ s, us = [.string s] ∧ s.size ≤ reachBytes := by
  cases h with
  | string s h hs => exact ⟨s, rfl, hs⟩
  | _ => simp_all
theorem Lies.slice_ {e : TypeId} (h : Lies P S t us) (ht : P.underlying t = some (.slice e)) : ∃ (o : Nat) (xs : List (List Value)), us = [.slice (some ⟨o, 0, none⟩) xs.length 0] ∧ S[o]? = some (.row e false xs.flatten) ∧
    xs.length * P.bytesOf e ≤ reachBytes ∧ xs.length ≤ maxLen ∧ (∀ x ∈ xs, x.length = P.cellsOf e) ∧ (∀ x ∈ xs, Lies P S e x) := by
  cases h with
  | slice o xs h hS hb hm hl hx => rw [h] at ht; cases ht; exact ⟨o, xs, rfl, hS, hb, hm, hl, hx⟩
  | _ => simp_all
theorem Lies.struct_ {fs : Array Field} (h : Lies P S t us) (ht : P.underlying t = some (.struct fs)) : ∃ (xs : List (List Value)), us = xs.flatten ∧ xs.length = fs.size ∧
    (∀ (i : Nat) f x, fs[i]? = some f → xs[i]? = some x → x.length = P.cellsOf f.type) ∧ (∀ (i : Nat) f x, fs[i]? = some f → xs[i]? = some x → Lies P S f.type x) := by
  cases h with
  | struct xs h hn hl hx => rw [h] at ht; cases ht; exact ⟨xs, rfl, hn, hl, hx⟩
  | _ => simp_all
theorem Lies.array_ {n : Nat} {e : TypeId} (h : Lies P S t us) (ht : P.underlying t = some (.array n e)) : ∃ (xs : List (List Value)), us = xs.flatten ∧ xs.length = n ∧ (∀ x ∈ xs, x.length = P.cellsOf e) ∧ (∀ x ∈ xs, Lies P S e x) := by
  cases h with
  | array xs h hn hl hx => rw [h] at ht; cases ht; exact ⟨xs, rfl, hn, hl, hx⟩
  | _ => simp_all
end

/-! lists of cells -/
def RepsL (σ : Sg) (us cs : List Value) : Prop := us.length = cs.length ∧ ∀ (i : Nat) u c, us[i]? = some u → cs[i]? = some c → Rep σ u c ∧ c.oneCell' = true
theorem RepsL.nil (σ : Sg) : RepsL σ [] [] := ⟨rfl, fun i u c h => by simp at h⟩
theorem RepsL.mono {σ σ' : Sg} (h : σ <+: σ') {us cs : List Value} (r : RepsL σ us cs) : RepsL σ' us cs := ⟨r.1, fun i u c h1 h2 => ⟨(r.2 i u c h1 h2).1.mono h, (r.2 i u c h1 h2).2⟩⟩
theorem RepsL.append {σ : Sg} {us cs vs ds : List Value} (r : RepsL σ us cs) (r' : RepsL σ vs ds) : RepsL σ (us ++ vs) (cs ++ ds) := by
  refine ⟨by simp [r.1, r'.1], fun i u c h1 h2 => ?_⟩
  rcases Nat.lt_or_ge i us.length with hi | hi
  · rw [List.getElem?_append_left hi] at h1
    rw [List.getElem?_append_left (by rw [← r.1]; exact hi)] at h2
    exact r.2 i u c h1 h2
  · rw [List.getElem?_append_right hi] at h1
    rw [List.getElem?_append_right (by rw [← r.1]; exact hi), ← r.1] at h2
    exact r'.2 _ u c h1 h2
theorem RepsL.one {σ : Sg} {u c : Value} (h : Rep σ u c) (h1 : c.oneCell' = true) : RepsL σ [u] [c] := ⟨rfl, fun i a b e1 e2 => by
  cases i with
  | zero => simp at e1 e2; subst e1; subst e2; exact ⟨h, h1⟩
  | succ i => simp at e1⟩

/-- The store tells of the world, and nothing of it may be written. -/
def Good (W : World) (base : Nat) (σ : Sg) (S : St) : Prop := Sim σ S base W W ∧ ∀ (o : Nat) ty cs, S[o]? ≠ some (.row ty true cs)
/-- These cells can be told of. -/
def Opens (P : Program) (W : World) (base : Nat) (t : TypeId) (cs : List Value) : Prop :=
  ∀ σ S, Good W base σ S → ∃ τ R us, Good W base (σ ++ τ) (S ++ R) ∧ RepsL (σ ++ τ) us cs ∧ Lies P (S ++ R) t us

theorem opens_list {P : Program} {W : World} {base : Nat} : ∀ (l : List (TypeId × List Value)), (∀ p ∈ l, Opens P W base p.1 p.2) → ∀ σ S, Good W base σ S →
    ∃ τ R xs, Good W base (σ ++ τ) (S ++ R) ∧ RepsL (σ ++ τ) (List.flatten xs) (l.map (·.2)).flatten ∧ xs.length = l.length ∧
      ∀ (i : Nat) p x, l[i]? = some p → xs[i]? = some x → Lies P (S ++ R) p.1 x ∧ x.length = p.2.length ∧ RepsL (σ ++ τ) x p.2
  | [], _, σ, S, hg => ⟨[], [], [], by simpa using hg, .nil _, rfl, fun i p x h => by simp at h⟩
  | p :: l, h, σ, S, hg => by
    obtain ⟨τ, R, us, hg1, hr1, hl1⟩ := h p (by simp) σ S hg
    obtain ⟨τ2, R2, xs, hg2, hr2, hn2, hl2⟩ := opens_list l (fun q hq => h q (by simp [hq])) _ _ hg1
    refine ⟨τ ++ τ2, R ++ R2, us :: xs, by simpa [List.append_assoc] using hg2, ?_, by simp [hn2], fun i q x h1 h2 => ?_⟩
    · rw [← List.append_assoc]
      exact (hr1.mono (List.prefix_append _ _)).append hr2
    · rw [← List.append_assoc, ← List.append_assoc]
      cases i with
      | zero =>
        simp at h1 h2
        subst h1; subst h2
        exact ⟨hl1.append _, hr1.1, hr1.mono (List.prefix_append _ _)⟩
      | succ i => exact hl2 i q x (by simpa using h1) (by simpa using h2)

theorem tile_flatten {P : Program} {tot : Nat} {cs : List Value} (hl : cs.length = tot) : ∀ (fs : List Field) (off : Nat), tileB P tot off fs = true →
    (fs.map (fun f => (cs.drop f.offset).take (P.cellsOf f.type))).flatten = cs.drop off ∧ ∀ f ∈ fs, f.offset + P.cellsOf f.type ≤ tot
  | [], off, h => by
    simp only [tileB, beq_iff_eq] at h
    subst h
    simp [← hl]
  | f :: fs, off, h => by
    simp only [tileB, Bool.and_eq_true, beq_iff_eq] at h
    obtain ⟨h1, h2⟩ := h
    obtain ⟨e1, e2⟩ := tile_flatten hl fs _ h2
    have hle : off + P.cellsOf f.type ≤ tot := by
      cases fs with
      | nil => simp only [tileB, beq_iff_eq] at h2; omega
      | cons g fs =>
        have hg := e2 g (by simp)
        simp only [tileB, Bool.and_eq_true, beq_iff_eq] at h2
        omega
    refine ⟨?_, fun g hg => ?_⟩
    · rw [List.map_cons, List.flatten_cons, e1, h1, ← List.drop_drop]
      exact List.take_append_drop _ _
    · rcases List.mem_cons.1 hg with rfl | hg
      · omega
      · exact e2 g hg

theorem flatten_const {s : Nat} (h0 : 0 < s) : ∀ (L : List (List Value)), (∀ x ∈ L, x.length = s) → ∀ q, L.flatten[q]? = L[q / s]?.bind (fun x => x[q % s]?)
  | [], _, q => by simp
  | x :: L, h, q => by
    have hx := h x (by simp)
    rw [List.flatten_cons]
    rcases Nat.lt_or_ge q s with hq | hq
    · rw [List.getElem?_append_left (by omega), Nat.div_eq_of_lt hq, Nat.mod_eq_of_lt hq]
      simp
    · rw [List.getElem?_append_right (by omega), hx, flatten_const h0 L (fun y hy => h y (by simp [hy])) (q - s)]
      have e1 : q / s = (q - s) / s + 1 := by rw [Nat.div_eq_sub_div h0 hq]
      have e2 : q % s = (q - s) % s := by rw [Nat.mod_eq_sub_mod hq]
      rw [e1, e2]
      simp
theorem flatten_len {s : Nat} : ∀ (L : List (List Value)), (∀ x ∈ L, x.length = s) → L.flatten.length = L.length * s
  | [], _ => by simp
  | x :: L, h => by
    rw [List.flatten_cons, List.length_append, h x (by simp), flatten_len L (fun y hy => h y (by simp [hy])), List.length_cons, Nat.add_mul]
    omega

theorem weightsAll_mem {H : Type} {P : Program} {e : TypeId} : ∀ {ds : List (DataW H)} {d : DataW H}, d ∈ ds → ∀ n ∈ d.weights P e, n ∈ DataW.weightsAll P e ds
  | d0 :: ds, d, hd, n, hn => by
    simp only [DataW.weightsAll, List.mem_append]
    rcases List.mem_cons.1 hd with rfl | hd
    · exact .inl hn
    · exact .inr (weightsAll_mem hd n hn)

theorem weightsEach_mem {H : Type} {P : Program} {ts : List TypeId} {ds : List (DataW H)} {j : Nat} {t : TypeId} {d : DataW H} (h1 : ts[j]? = some t) (h2 : ds[j]? = some d) : ∀ n ∈ d.weights P t, n ∈ DataW.weightsEach P ts ds := DataW.weights_mem_each h1 h2

theorem cells?_get {W : World} {base : Nat} {a : Addr} {n : Nat} {cs : List Value} (h : W.cells? base a n = some cs) : cs.length = n ∧ ∀ i, i < n → W.cell? (a.add i) = cs[i]? := by
  simp only [World.cells?] at h
  split at h
  · refine ⟨by simpa using mapM_some_length h, fun i hi => ?_⟩
    exact mapM_some_get h i i (by simp [hi])
  · cases h
theorem cell?_spot {W : World} {a : Addr} {v : Value} (h : W.cell? a = some v) : a.spot = none := by
  unfold World.cell? at h
  split at h
  · split at h
    · cases h
    · rename_i hs; cases hsp : a.spot <;> simp_all
  · cases h

section
variable {H : Type} {enc : TypeId × Value → H} {P : Program} {W : World} {base : Nat}
theorem opens (ok : base = W.heap.size) : ∀ (n : Nat) (t : TypeId) (cs : List Value) (m : Nat) (x : DataW H × List MemPlace), simpleT P n t = true → DataW.trod enc P W 0 (fun _ => true) true m t cs = some x →
    (∀ k ∈ x.1.weights P t, k ≤ reachBytes) → Opens P W base t cs ∧ cs.length = P.cellsOf t
  | 0, _, _, _, _, h, _, _ => by simp [simpleT] at h
  | n + 1, t, cs, m, x, h, hd, hw => by
    simp only [simpleT] at h
    split at h
    · rename_i hu
      obtain ⟨b, rfl, rfl⟩ := DataW.trod_bool hu hd
      refine ⟨fun σ S hg => ⟨[], [], [.bool b], by simpa using hg, .one (.const _ rfl) rfl, .bool b hu⟩, ?_⟩
      have h' : P.cellsOf t = 1 := by simpa using h
      rw [h']; rfl
    · rename_i k hu
      obtain ⟨q, rfl, rfl, hq⟩ := DataW.trod_int hu hd
      refine ⟨fun σ S hg => ⟨[], [], [.int k q], by simpa using hg, .one (.const _ rfl) rfl, .int q hu hq⟩, ?_⟩
      have h' : P.cellsOf t = 1 := by simpa using h
      rw [h']; rfl
    · rename_i hu
      obtain ⟨s, rfl, rfl, hq⟩ := DataW.trod_string hu hd
      refine ⟨fun σ S hg => ⟨[], [], [.string s], by simpa using hg, .one (.const _ rfl) rfl, .string s hu ?_⟩, ?_⟩
      · have := hw s.size (by simp [DataW.weights])
        exact this
      · have h' : P.cellsOf t = 1 := by simpa using h
        rw [h']; rfl
    · rename_i e hu
      simp only [Bool.and_eq_true, beq_iff_eq, decide_eq_true_eq] at h
      obtain ⟨⟨hc1, hc0⟩, hse⟩ := h
      rcases DataW.trod_slice hu hd with ⟨rfl, rfl⟩ | ⟨a, len, cap, elems, rest, m', rfl, rfl, rfl, hb, hlc, hcm, hel, hcell, hsp, _⟩
      · refine ⟨fun σ S hg => ?_, by simpa using hc1.symm⟩
        refine ⟨[⟨0, 0, none⟩], [.row e false []], [.slice (some ⟨S.length, 0, none⟩) 0 0], ⟨hg.1.addRead (fun i v hv => by simp at hv) (fun o' l' ty' cs' hS => absurd hS (hg.2 _ _ _)), fun o ty cs hS => ?_⟩, ?_, ?_⟩
        · rcases get_snoc hS with ⟨q1, _⟩ | ⟨_, q1⟩
          · exact hg.2 _ _ _ q1
          · cases q1
        · exact .one (.sliceE _ _ _ _ (.inr rfl) (by simp [hg.1.len])) rfl
        · exact .slice (xs := []) S.length hu (by simp) (by simp) (by simp) (by simp) (by simp)
      · obtain ⟨hrl, hrest⟩ := hsp rfl
        have hwl : (elems.length + rest.length) * P.bytesOf e ≤ reachBytes := hw _ (by simp [DataW.weights, hu])
        have hcl : ∀ i, i < len → ∃ ci y, W.cells? 0 (a.add (i * P.cellsOf e)) (P.cellsOf e) = some ci ∧ DataW.trod enc P W 0 (fun _ => true) true m' e ci = some y ∧ elems[i]? = some y := by
          intro i hi
          have h1 := hcell i hi
          rw [List.getElem?_eq_getElem (by omega : i < elems.length)] at h1
          obtain ⟨ci, h2, h3⟩ := Option.bind_eq_some_iff.1 h1
          exact ⟨ci, _, h2, h3, List.getElem?_eq_getElem _⟩
        have hsp0 : 0 < cap → a.spot = none := by
          intro hcap
          rcases Nat.eq_zero_or_pos len with hl0 | hl0
          · have h1 := hrest 0 (by omega)
            rw [List.getElem?_eq_getElem (by omega : 0 < rest.length)] at h1
            obtain ⟨ci, h2, _⟩ := Option.bind_eq_some_iff.1 h1
            obtain ⟨h3, h4⟩ := cells?_get h2
            have h5 := h4 0 hc0
            have h6 : W.cell? a = ci[0]? := by simpa [hl0, Addr.add] using h5
            rw [List.getElem?_eq_getElem (by omega : 0 < ci.length)] at h6
            exact cell?_spot h6
          · obtain ⟨ci, y, h2, _⟩ := hcl 0 hl0
            obtain ⟨h3, h4⟩ := cells?_get h2
            have h5 := h4 0 hc0
            have h6 : W.cell? a = ci[0]? := by simpa [Addr.add] using h5
            rw [List.getElem?_eq_getElem (by omega : 0 < ci.length)] at h6
            exact cell?_spot h6
        refine ⟨fun σ S hg => ?_, by simpa using hc1.symm⟩
        let cl : List (List Value) := (List.range len).map (fun i => (W.cells? 0 (a.add (i * P.cellsOf e)) (P.cellsOf e)).getD [])
        have hcl2 : ∀ i, i < len → ∃ ci y, cl[i]? = some ci ∧ W.cells? 0 (a.add (i * P.cellsOf e)) (P.cellsOf e) = some ci ∧ DataW.trod enc P W 0 (fun _ => true) true m' e ci = some y ∧ elems[i]? = some y := by
          intro i hi
          obtain ⟨ci, y, h2, h3, h4⟩ := hcl i hi
          exact ⟨ci, y, by simp [cl, hi, h2], h2, h3, h4⟩
        have hcll : cl.length = len := by simp [cl]
        obtain ⟨τ, R, xs, hg1, hr1, hn1, hl1⟩ := opens_list (P := P) (W := W) (base := base) (cl.map fun c => (e, c)) (fun p hp => by
          obtain ⟨c, hc, rfl⟩ := List.mem_map.1 hp
          obtain ⟨i, hi⟩ := List.mem_iff_getElem?.1 hc
          have hil : i < len := by rw [← hcll]; exact (List.getElem?_eq_some_iff.1 hi).1
          obtain ⟨ci, y, h1, h2, h3, h4⟩ := hcl2 i hil
          rw [hi] at h1
          cases h1
          refine (opens ok n e c m' y hse h3 (fun k hk => hw k ?_)).1
          simp only [DataW.weights, hu, List.mem_cons, List.mem_append]
          exact .inr (.inl (weightsAll_mem (List.mem_map.2 ⟨y, List.mem_of_getElem? h4, rfl⟩) k hk))) σ S hg
        have hxl : xs.length = len := by rw [hn1]; simp [hcll]
        have hxs : ∀ x ∈ xs, Lies P (S ++ R) e x ∧ x.length = P.cellsOf e := by
          intro x hx
          obtain ⟨i, hi⟩ := List.mem_iff_getElem?.1 hx
          have hil : i < len := by rw [← hxl]; exact (List.getElem?_eq_some_iff.1 hi).1
          obtain ⟨ci, y, h1, h2, h3, h4⟩ := hcl2 i hil
          obtain ⟨q1, q2, _⟩ := hl1 i (e, ci) x (by simp [h1]) hi
          exact ⟨q1, by rw [q2]; exact (cells?_get h2).1⟩
        have hclc : ∀ c ∈ cl, c.length = P.cellsOf e := by
          intro c hc
          obtain ⟨i, hi⟩ := List.mem_iff_getElem?.1 hc
          have hil : i < len := by rw [← hcll]; exact (List.getElem?_eq_some_iff.1 hi).1
          obtain ⟨ci, y, h1, h2, _⟩ := hcl2 i hil
          rw [hi] at h1
          cases h1
          exact (cells?_get h2).1
        have hfl : ((cl.map fun c => (e, c)).map (·.2)).flatten = cl.flatten := by simp [Function.comp_def]
        rw [hfl] at hr1
        have hread : ∀ (q : Nat) c, cl.flatten[q]? = some c → W.cell? ⟨a.block, a.off + q, none⟩ = some c := by
          intro q c hq
          rw [flatten_const hc0 cl hclc] at hq
          obtain ⟨ci, h1, h2⟩ := Option.bind_eq_some_iff.1 hq
          have hil : q / P.cellsOf e < len := by rw [← hcll]; exact (List.getElem?_eq_some_iff.1 h1).1
          obtain ⟨ci', y, h3, h4, _⟩ := hcl2 _ hil
          rw [h1] at h3
          cases h3
          have h5 := (cells?_get h4).2 (q % P.cellsOf e) (Nat.mod_lt _ hc0)
          rw [h2] at h5
          rw [← h5]
          have hsp := hsp0 (Nat.lt_of_le_of_lt (Nat.zero_le _) (Nat.lt_of_lt_of_le hil hlc))
          have ea : a = ⟨a.block, a.off, none⟩ := by cases a; simp_all
          rw [ea, addr_add, addr_add]
          have e3 : q / P.cellsOf e * P.cellsOf e + q % P.cellsOf e = q := by
            rw [Nat.mul_comm]; exact Nat.div_add_mod q (P.cellsOf e)
          have e4 : a.off + q = a.off + q / P.cellsOf e * P.cellsOf e + q % P.cellsOf e := by rw [Nat.add_assoc, e3]
          rw [e4]
        refine ⟨τ ++ [⟨a.block, a.off, none⟩], R ++ [.row e false xs.flatten], [.slice (some ⟨(S ++ R).length, 0, none⟩) xs.length 0], ⟨?_, fun o ty cs hS => ?_⟩, ?_, ?_⟩
        · rw [← List.append_assoc, ← List.append_assoc]
          refine hg1.1.addRead (fun i v hv => ?_) (fun o' l' ty' cs' hS => absurd hS (hg1.2 _ _ _))
          have hil : i < cl.flatten.length := by rw [← hr1.1]; exact (List.getElem?_eq_some_iff.1 hv).1
          obtain ⟨r1, r2⟩ := hr1.2 i v _ hv (List.getElem?_eq_getElem hil)
          exact ⟨_, hread i _ (List.getElem?_eq_getElem hil), r1.mono (List.prefix_append _ _), r2⟩
        · rw [← List.append_assoc] at hS
          rcases get_snoc hS with ⟨q1, _⟩ | ⟨_, q1⟩
          · exact hg1.2 _ _ _ q1
          · cases q1
        · refine .one ?_ rfl
          have hlen : (S ++ R).length = (σ ++ τ).length := hg1.1.len.symm
          rw [hxl, ← List.append_assoc, hlen]
          rcases Nat.eq_zero_or_pos cap with hc | hc
          · obtain rfl : len = 0 := by omega
            subst hc
            exact .sliceE _ _ _ _ (.inr rfl) (by simp)
          · have ea : a = ⟨a.block, a.off + 0, none⟩ := by have := hsp0 hc; cases a; simp_all
            rw [ea]
            exact .slice (σ ++ τ).length 0 len 0 cap ⟨a.block, a.off, none⟩ (by simp) hlc hcm (fun N hN => by cases hN)
        · rw [← List.append_assoc]
          refine .slice _ xs hu (by simp) ?_ (by omega) (fun x hx => (hxs x hx).2) (fun x hx => (hxs x hx).1.append _)
          refine Nat.le_trans (Nat.mul_le_mul_right _ ?_) hwl
          omega
    · rename_i fs hu
      simp only [Bool.and_eq_true, List.all_eq_true] at h
      obtain ⟨htile, hall⟩ := h
      obtain ⟨ys, m', rfl, rfl, hcl, hyl, hf⟩ := DataW.trod_struct hu hd
      obtain ⟨e1, e2⟩ := tile_flatten hcl fs.toList 0 htile
      refine ⟨fun σ S hg => ?_, hcl⟩
      let l : List (TypeId × List Value) := fs.toList.map (fun f => (f.type, (cs.drop f.offset).take (P.cellsOf f.type)))
      have hfield : ∀ (i : Nat) f, fs[i]? = some f → Opens P W base f.type ((cs.drop f.offset).take (P.cellsOf f.type)) ∧ ((cs.drop f.offset).take (P.cellsOf f.type)).length = P.cellsOf f.type := by
        intro i f hi
        have h1 := hf i f hi
        have hil : i < ys.length := by rw [hyl]; exact (Array.getElem?_eq_some_iff.1 hi).1
        rw [List.getElem?_eq_getElem hil] at h1
        refine opens ok n f.type _ m' _ (hall f (by simpa using Array.mem_of_getElem? hi)) h1 (fun k hk => hw k ?_)
        simp only [DataW.weights, hu]
        exact weightsEach_mem (j := i) (by simp [hi]) (by simp [hil]) k hk
      obtain ⟨τ, R, xs, hg1, hr1, hn1, hl1⟩ := opens_list (P := P) (W := W) (base := base) l (fun p hp => by
        obtain ⟨f, hfm, rfl⟩ := List.mem_map.1 hp
        obtain ⟨i, hi⟩ := List.mem_iff_getElem?.1 hfm
        exact (hfield i f (by simpa using hi)).1) σ S hg
      have hfl : (l.map (·.2)).flatten = cs := by
        have : l.map (·.2) = fs.toList.map (fun f => (cs.drop f.offset).take (P.cellsOf f.type)) := by simp [l, Function.comp_def]
        rw [this, e1, List.drop_zero]
      rw [hfl] at hr1
      have hli : ∀ (i : Nat) f, fs[i]? = some f → l[i]? = some (f.type, (cs.drop f.offset).take (P.cellsOf f.type)) := by
        intro i f hi
        have : fs.toList[i]? = some f := by simpa using hi
        simp only [l, List.getElem?_map, this, Option.map_some]
      refine ⟨τ, R, xs.flatten, hg1, hr1, .struct xs hu (by rw [hn1]; simp [l]) (fun i f x h1 h2 => ?_) (fun i f x h1 h2 => ?_)⟩
      · rw [(hl1 i _ x (hli i f h1) h2).2.1]; exact (hfield i f h1).2
      · exact (hl1 i _ x (hli i f h1) h2).1
    · rename_i q e hu
      simp only [Bool.and_eq_true, beq_iff_eq] at h
      obtain ⟨hsz, hse⟩ := h
      obtain ⟨ys, m', rfl, rfl, hcl, hyl, hf⟩ := DataW.trod_array hu hd
      refine ⟨fun σ S hg => ?_, hcl⟩
      let l : List (TypeId × List Value) := (List.range q).map (fun i => (e, (cs.drop (i * P.cellsOf e)).take (P.cellsOf e)))
      have hfield : ∀ (i : Nat), i < q → Opens P W base e ((cs.drop (i * P.cellsOf e)).take (P.cellsOf e)) ∧ ((cs.drop (i * P.cellsOf e)).take (P.cellsOf e)).length = P.cellsOf e := by
        intro i hi
        have h1 := hf i hi
        have hil : i < ys.length := by rw [hyl]; exact hi
        rw [List.getElem?_eq_getElem hil] at h1
        refine opens ok n e _ m' _ hse h1 (fun k hk => hw k ?_)
        simp only [DataW.weights, hu]
        exact weightsAll_mem (List.mem_map.2 ⟨_, List.getElem_mem hil, rfl⟩) k hk
      obtain ⟨τ, R, xs, hg1, hr1, hn1, hl1⟩ := opens_list (P := P) (W := W) (base := base) l (fun p hp => by
        obtain ⟨i, hi, rfl⟩ := List.mem_map.1 hp
        exact (hfield i (by simpa using hi)).1) σ S hg
      have hfl : ∀ k, k ≤ q → (((List.range k).map (fun i => (e, (cs.drop (i * P.cellsOf e)).take (P.cellsOf e)))).map (·.2)).flatten = cs.take (k * P.cellsOf e) := by
        intro k
        induction k with
        | zero => intro _; simp
        | succ k ih =>
          intro hk
          rw [List.range_succ, List.map_append, List.map_append, List.flatten_append, ih (by omega)]
          simp only [List.map_cons, List.map_nil, List.flatten_cons, List.flatten_nil, List.append_nil]
          rw [Nat.add_mul, Nat.one_mul, List.take_add]
      have hfl2 : (l.map (·.2)).flatten = cs := by
        have := hfl q (Nat.le_refl _)
        rw [show l = (List.range q).map (fun i => (e, (cs.drop (i * P.cellsOf e)).take (P.cellsOf e))) from rfl, this, ← hsz, ← hcl, List.take_length]
      rw [hfl2] at hr1
      have hx : ∀ x ∈ xs, Lies P (S ++ R) e x ∧ x.length = P.cellsOf e := by
        intro x hx
        obtain ⟨i, hi⟩ := List.mem_iff_getElem?.1 hx
        have hil : i < q := by
          have : i < xs.length := (List.getElem?_eq_some_iff.1 hi).1
          rw [hn1] at this
          simpa [l] using this
        have hli : l[i]? = some (e, (cs.drop (i * P.cellsOf e)).take (P.cellsOf e)) := by simp [l, hil]
        obtain ⟨q1, q2, _⟩ := hl1 i _ x hli hi
        exact ⟨q1, by rw [q2]; exact (hfield i hil).2⟩
      exact ⟨τ, R, xs.flatten, hg1, hr1, .array xs hu (by rw [hn1]; simp [l]) (fun x h1 => (hx x h1).2) (fun x h1 => (hx x h1).1)⟩
    · cases h

/-- An argument as it lies in the store. -/
def ArgL (P : Program) (S : St) (t : TypeId) (u : Value) : Prop :=
  match P.underlying t with
  | some (.struct _) | some (.array _ _) => ∃ us, u = .agg us.toArray ∧ Lies P S t us
  | _ => Lies P S t [u]

theorem trodAll_get : ∀ {ts : List TypeId} {vs : List Value} {ds : List (DataW H)} {p : List MemPlace}, DataW.TrodAll enc P W 0 (fun _ => true) true ts vs ds p →
    vs.length = ts.length ∧ ds.length = ts.length ∧ ∀ (j : Nat) t v, ts[j]? = some t → vs[j]? = some v → ∃ d q, ds[j]? = some d ∧ DataW.Trod enc P W 0 (fun _ => true) true t v d q
  | [], vs, ds, p, h => by
    obtain ⟨rfl, rfl, rfl⟩ := trodAll_nil h
    exact ⟨rfl, rfl, fun j t v h => by simp at h⟩
  | t :: ts, vs, ds, p, h => by
    obtain ⟨v, vs', d, ds', p', q', rfl, rfl, rfl, hd, hr⟩ := trodAll_cons h
    obtain ⟨h1, h2, h3⟩ := trodAll_get hr
    refine ⟨by simp [h1], by simp [h2], fun j u w hj hw => ?_⟩
    cases j with
    | zero => simp at hj hw; subst hj; subst hw; exact ⟨d, p', rfl, hd⟩
    | succ j => simpa using h3 j u w (by simpa using hj) (by simpa using hw)

theorem okWide_one {r : Reach} {b0 : Nat} {t : TypeId} {v : Value} (hv : Value.okWide P W r b0 t v)
    (h : P.underlying t = some .bool ∨ (∃ k, P.underlying t = some (.int k)) ∨ P.underlying t = some .string ∨ ∃ e, P.underlying t = some (.slice e)) : v.cells = #[v] := by
  rcases h with hu | ⟨k, hu⟩ | hu | ⟨e, hu⟩ <;> simp only [Value.okWide, hu, Cell.okWide] at hv <;> cases v <;> first | rfl | (simp [Cell.ok, hu] at hv)

/-- **A law's call, out of the call over the opened arguments.** -/
theorem calls_of_args {g : FuncId} {ts : List TypeId} {args : Array Value} {ds : List (DataW H)} {p : List MemPlace} {b0 : Nat} (hs : ts.all (simpleT P 8) = true)
    (hA : DataW.TrodAll enc P W 0 (fun _ => true) true ts args.toList ds p)
    (hval : ∀ (j : Nat) t v, ts[j]? = some t → args[j]? = some v → Value.okWide P W .any b0 t v)
    (hw : (DataW.weightsEach P ts ds).all (· ≤ reachBytes) = true)
    (h : ∀ (S : St) (us : List Value), us.length = ts.length → (∀ (j : Nat) t u, ts[j]? = some t → us[j]? = some u → ArgL P S t u) → ACalls P g us S (fun r _ => r = .bool true)) :
    Calls P g args W (fun e W' => e = .returned (.bool true) ∧ Below W.heap.size W W') := by
  obtain ⟨hl1, hl2, hget⟩ := trodAll_get hA
  have hg0 : Good W W.heap.size [] [] := ⟨⟨rfl, Below.refl _ _, Nat.le_refl _, fun o l ty rw cs h => by simp at h, fun o l ty cs h => by simp at h, fun o o' l l' ty cs ty' rw' cs' _ _ h => by simp at h⟩, fun o ty cs h => by simp at h⟩
  let l : List (TypeId × List Value) := ts.zip (args.toList.map (fun v => v.cells.toList))
  have hl : ∀ (j : Nat) t v, ts[j]? = some t → args.toList[j]? = some v → l[j]? = some (t, v.cells.toList) := fun j t v h1 h2 => by
    simp only [l, List.getElem?_zip_eq_some, List.getElem?_map, h2, Option.map_some]
    exact ⟨h1, trivial⟩
  have hll : l.length = ts.length := by simp [l, hl1]
  obtain ⟨τ, R, xs, hg1, hr1, hn1, hx⟩ := opens_list (P := P) (W := W) (base := W.heap.size) l (fun q hq => by
    obtain ⟨j, hj⟩ := List.mem_iff_getElem?.1 hq
    have hjl : j < ts.length := by rw [← hll]; exact (List.getElem?_eq_some_iff.1 hj).1
    have e1 := List.getElem?_eq_getElem hjl
    have e2 := List.getElem?_eq_getElem (by rw [hl1]; exact hjl : j < args.toList.length)
    rw [hl j _ _ e1 e2] at hj
    cases hj
    obtain ⟨d, q, h1, fuel, h2⟩ := hget j _ _ e1 e2
    refine (opens rfl 8 _ _ fuel _ (List.all_eq_true.1 hs _ (List.getElem_mem hjl)) h2 (fun k hk => ?_)).1
    have := List.all_eq_true.1 hw k (weightsEach_mem e1 h1 k hk)
    simpa using this) [] [] hg0
  simp only [List.nil_append] at hg1 hr1 hx
  have key : ∀ (j : Nat) t v x, ts[j]? = some t → args.toList[j]? = some v → xs[j]? = some x → ∃ u, (match P.underlying t with
      | some (.struct _) | some (.array _ _) => Value.agg x.toArray
      | _ => x.getD 0 undef) = u ∧ Rep τ u v ∧ ArgL P R t u := by
    intro j t v x h1 h2 h3
    obtain ⟨q1, q2, q3⟩ := hx j _ x (hl j t v h1 h2) h3
    have hv := hval j t v h1 (by simpa using h2)
    have agg : ∀ cs, v = .agg cs → Rep τ (.agg x.toArray) v := fun cs hc => by
      subst hc
      refine .agg _ _ (by simpa [Value.cells] using q3.1) (fun i a b h1 h2 => (q3.2 i a b (by simpa using h1) (by simpa [Value.cells] using h2)).1) (fun i b h2 => ?_)
      have hi : i < x.length := by rw [q3.1]; simpa [Value.cells] using (Array.getElem?_eq_some_iff.1 h2).1
      exact (q3.2 i _ b (List.getElem?_eq_getElem hi) (by simpa [Value.cells] using h2)).2
    have one : v.cells = #[v] → Rep τ (x.getD 0 undef) v ∧ x = [x.getD 0 undef] := fun hc => by
      rw [hc] at q3
      have hxl : x.length = 1 := q3.1
      match x, hxl with
      | [a], _ => exact ⟨(q3.2 0 a v rfl rfl).1, rfl⟩
    have hst0 : ∃ n, simpleT P (n + 1) t = true := ⟨7, List.all_eq_true.1 hs _ (List.mem_of_getElem? h1)⟩
    obtain ⟨n8, hst⟩ := hst0
    simp only [simpleT] at hst
    unfold ArgL
    split at hst
    · rename_i hu
      have : v.cells = #[v] := okWide_one hv (.inl hu)
      simp only [hu]
      exact ⟨_, rfl, (one this).1, by rw [← (one this).2]; exact q1⟩
    · rename_i k hu
      have : v.cells = #[v] := okWide_one hv (.inr (.inl ⟨k, hu⟩))
      simp only [hu]
      exact ⟨_, rfl, (one this).1, by rw [← (one this).2]; exact q1⟩
    · rename_i hu
      have : v.cells = #[v] := okWide_one hv (.inr (.inr (.inl hu)))
      simp only [hu]
      exact ⟨_, rfl, (one this).1, by rw [← (one this).2]; exact q1⟩
    · rename_i e hu
      have : v.cells = #[v] := okWide_one hv (.inr (.inr (.inr ⟨e, hu⟩)))
      simp only [hu]
      exact ⟨_, rfl, (one this).1, by rw [← (one this).2]; exact q1⟩
    · rename_i fs hu
      simp only [Value.okWide, hu] at hv
      obtain ⟨cs, hc, _⟩ := hv
      simp only [hu]
      exact ⟨_, rfl, agg cs hc, _, rfl, q1⟩
    · rename_i q e hu
      simp only [Value.okWide, hu] at hv
      obtain ⟨cs, hc, _⟩ := hv
      simp only [hu]
      exact ⟨_, rfl, agg cs hc, _, rfl, q1⟩
    · cases hst
  let us : List Value := (ts.zip xs).map (fun q => match P.underlying q.1 with
      | some (.struct _) | some (.array _ _) => Value.agg q.2.toArray
      | _ => q.2.getD 0 undef)
  have hul : us.length = ts.length := by simp [us, hn1, hll]
  have hget2 : ∀ (j : Nat), j < ts.length → ∃ t v x, ts[j]? = some t ∧ args.toList[j]? = some v ∧ xs[j]? = some x ∧ us[j]? = some (match P.underlying t with
      | some (.struct _) | some (.array _ _) => Value.agg x.toArray
      | _ => x.getD 0 undef) := by
    intro j hj
    have e1 := List.getElem?_eq_getElem hj
    have e2 := List.getElem?_eq_getElem (by rw [hl1]; exact hj : j < args.toList.length)
    have e3 := List.getElem?_eq_getElem (by rw [hn1, hll]; exact hj : j < xs.length)
    refine ⟨_, _, _, e1, e2, e3, ?_⟩
    have : (ts.zip xs)[j]? = some (ts[j], xs[j]'(by rw [hn1, hll]; exact hj)) := List.getElem?_zip_eq_some.2 ⟨e1, e3⟩
    simp only [us, List.getElem?_map, this, Option.map_some]
  have hc := h R us hul (fun j t u h1 h2 => by
    obtain ⟨t', v, x, e1, e2, e3, e4⟩ := hget2 j (List.getElem?_eq_some_iff.1 h1).1
    rw [h1] at e1
    cases e1
    rw [h2] at e4
    cases e4
    obtain ⟨u, rfl, _, q⟩ := key j t v x h1 e2 e3
    exact q)
  refine (hc.2 τ W.heap.size W W args hg1.1 ⟨by rw [hul, ← hl1]; simp, fun j u c h1 h2 => ?_⟩).mono ?_
  · obtain ⟨t', v, x, e1, e2, e3, e4⟩ := hget2 j (by rw [← hul]; exact (List.getElem?_eq_some_iff.1 h1).1)
    rw [h1] at e4
    cases e4
    have h2' : args.toList[j]? = some c := by simpa using h2
    rw [h2'] at e2
    cases e2
    obtain ⟨u, rfl, q, _⟩ := key j t' c x e1 h2' e3
    exact q
  · rintro e w' ⟨c, r, S', σ', rfl, rfl, _, hr, hsim⟩
    rw [hr.bool_]
    exact ⟨rfl, hsim.below⟩
end

end Go.Ab
