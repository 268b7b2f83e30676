/- Arithmetic, comparisons, conversions, cuts and the like over abstract values, and that the model's operations come to the same; for any program whose types stand in a table. -/
import Derived.Test.YtpgiiidnimbdgaaAbB
import Derived.ChangeKeysEq
import Derived.Laws.StructEq
namespace Go.Ab
open Go.RowKit

def intBin (op : BinOp) (k : IntKind) (a b : Int) : Option Value :=
  match op with
  | .add => some (.int k (k.wrap (a + b)))
  | .sub => some (.int k (k.wrap (a - b)))
  | .mul => some (.int k (k.wrap (a * b)))
  | .quo => if b = 0 then none else some (.int k (k.wrap (a.tdiv b)))
  | .rem => if b = 0 then none else some (.int k (a.tmod b))
  | .and => some (.int k (bits .and k a b))
  | .or => some (.int k (bits .or k a b))
  | .xor => some (.int k (bits .xor k a b))
  | .andNot => some (.int k (bits .andNot k a b))
  | .eql => some (.bool (a == b))
  | .neq => some (.bool (a != b))
  | .lss => some (.bool (decide (a < b)))
  | .leq => some (.bool (decide (a ≤ b)))
  | .gtr => some (.bool (decide (a > b)))
  | .geq => some (.bool (decide (a ≥ b)))
  | _ => none

def shiftA (op : BinOp) (k : IntKind) (a b : Int) : Option Value :=
  if b < 0 then none else
  match op with
  | .shl => some (.int k (k.wrap (a * 2 ^ (min b.toNat k.bits))))
  | .shr => some (.int k (a.fdiv (2 ^ (min b.toNat k.bits))))
  | _ => none

def strBin (op : BinOp) (a b : ByteArray) : Option Value :=
  match op with
  | .add => if a.size + b.size ≤ 9223372036854775807 then some (.string (a ++ b)) else none
  | .eql => some (.bool (a.toList == b.toList))
  | .neq => some (.bool !(a.toList == b.toList))
  | _ => none

def tf (op : BinOp) (b : Bool) : Option Value :=
  match op with
  | .eql => some (.bool b)
  | .neq => some (.bool !b)
  | _ => none

def isPtrD : TypeDesc → Bool | .pointer _ => true | _ => false
def isIfaceD : TypeDesc → Bool | .interface _ => true | _ => false
def isBoolD : TypeDesc → Bool | .bool => true | _ => false

/-- Equality of numbers that lie side by side. -/
def eqRun (xs ys : Array Value) : Nat → Nat → Option Bool
  | _, 0 => some true
  | off, n + 1 =>
    match xs[off]?, ys[off]?, eqRun xs ys (off + 1) n with
    | some (.int k a), some (.int k' b), some r => if k = k' then some (a == b && r) else none
    | _, _, _ => none
/-- Equality of structs of simple fields, and of arrays of numbers. -/
def eqFlat (T : Tab) (xs ys : Array Value) : List Field → Option Bool
  | [] => some true
  | f :: fs =>
    if f.name = "_" then none else
    match T f.type, xs[f.offset]?, ys[f.offset]?, eqFlat T xs ys fs with
    | some ⟨.int _, _, _, _⟩, some (.int k a), some (.int k' b), some r => if k = k' then some (a == b && r) else none
    | some ⟨.bool, _, _, _⟩, some (.bool a), some (.bool b), some r => some (a == b && r)
    | some ⟨.string, _, _, _⟩, some (.string a), some (.string b), some r => some (a.toList == b.toList && r)
    | some ⟨.array n e, s, _, _⟩, _, _, some r => match T e, eqRun xs ys f.offset n with
      | some ⟨.int _, 1, _, _⟩, some q => if s = n then some (q && r) else none
      | _, _ => none
    | _, _, _, _ => none
def binA (T : Tab) (c : Bool) (op : BinOp) (t : TypeId) (x y : Value) : Option Value :=
  match x, y with
  | .int k a, .int k' b =>
    match op with
    | .shl | .shr => shiftA op k a b
    | _ => if k = k' then intBin op k a b else none
  | .string a, .string b => strBin op a b
  | .bool a, .bool b => if ((T t).map (isBoolD ·.desc)).getD false then tf op (a == b) else none
  | .nilIface, .nilIface => if c && ((T t).map (isIfaceD ·.desc)).getD false then tf op true else none
  | .nilIface, .iface _ _ | .iface _ _, .nilIface => if ((T t).map (isIfaceD ·.desc)).getD false then tf op false else none
  | .agg xs, .agg ys => match T t with
    | some ⟨.struct fs, _, _, _⟩ => match eqFlat T xs ys fs.toList with
      | some b => tf op b
      | none => none
    | _ => none
  | .pointer none, .pointer none => if ((T t).map (isPtrD ·.desc)).getD false then tf op true else none
  | .pointer none, .pointer (some _) | .pointer (some _), .pointer none => if ((T t).map (isPtrD ·.desc)).getD false then tf op false else none
  | _, _ => none

theorem tab_desc {P : Program} {T : Tab} (ok : TabOk P T) {t : TypeId} {p : TypeDesc → Bool} (h : ((T t).map (p ·.desc)).getD false = true) (w : World) : ∃ d, (underlying t).run P w = .ok d w ∧ p d = true := by
  cases hi : T t with
  | none => simp [hi] at h
  | some i => exact ⟨i.desc, ok.run_under hi w, by simpa [hi] using h⟩

def isConst : Operand → Bool | .const _ => true | _ => false

theorem ptrD {d : TypeDesc} (h : isPtrD d = true) : ∃ e, d = .pointer e := by cases d <;> simp_all [isPtrD]
theorem ifaceD {d : TypeDesc} (h : isIfaceD d = true) : ∃ e, d = .interface e := by cases d <;> simp_all [isIfaceD]
theorem boolD {d : TypeDesc} (h : isBoolD d = true) : d = .bool := by cases d <;> simp_all [isBoolD]

theorem intBin_sound {P : Program} {op : BinOp} {k : IntKind} {a b : Int} {v : Value} (h : intBin op k a b = some v) (t : TypeId) (w : World) :
    (binOp op t (.int k a) (.int k b)).run P w = .ok v w ∧ okc v = true := by
  cases op <;> simp only [intBin] at h <;>
    first
      | (cases h; simp [binOp, Op.intArith, Op.intBits, Op.intCmp, bits, okc]; done)
      | (split at h
         · cases h
         · rename_i h0
           cases h
           simp [binOp, Op.intDiv, h0, okc])
      | (cases h; done)

theorem shiftA_sound {P : Program} {op : BinOp} {k k' : IntKind} {a b : Int} {v : Value} (hop : op = .shl ∨ op = .shr) (h : shiftA op k a b = some v) (t : TypeId) (w : World) :
    (binOp op t (.int k a) (.int k' b)).run P w = .ok v w ∧ okc v = true := by
  unfold shiftA at h
  split at h
  · cases h
  · rename_i h0
    rcases hop with rfl | rfl <;> (simp only at h; cases h; simp [binOp, Op.shift, h0, okc])

theorem strBin_sound {P : Program} {op : BinOp} {a b : ByteArray} {v : Value} (h : strBin op a b = some v) (t : TypeId) (w : World) :
    (binOp op t (.string a) (.string b)).run P w = .ok v w ∧ okc v = true := by
  cases op <;> simp only [strBin] at h <;>
    first
      | (cases h; done)
      | (cases h; simp [binOp, Op.stringOp, okc]; done)
      | (split at h
         · rename_i h0
           cases h
           have h1 : ¬ ((a.size + b.size : Nat) : Int) > IntKind.i64.max := by simp [IntKind.max, IntKind.bits, IntKind.signed]; omega
           simp only [binOp, Op.stringOp, if_neg h1]
           simp [okc]
         · cases h)

theorem tf_sound {P : Program} {op : BinOp} {b : Bool} {v : Value} (h : tf op b = some v) {t : TypeId} {x y : Value} {w : World} (he : (Op.equal t x y).run P w = .ok b w)
    (h1 : binOp .eql t x y = (do pure (.bool (← Op.equal t x y)))) (h2 : binOp .neq t x y = (do pure (.bool (!(← Op.equal t x y))))) :
    (binOp op t x y).run P w = .ok v w ∧ okc v = true := by
  cases op <;> simp only [tf] at h <;> first | (cases h; done) | skip
  · cases h; rw [h1]; simp [he, okc]
  · cases h; rw [h2]; simp [he, okc]

theorem eq_run {P : Program} {t : TypeId} {x y : Value} {w : World} {b : Bool} (h : ∀ d, (Op.equalIn (d + 1) t x y).run P w = .ok b w) : (Op.equal t x y).run P w = .ok b w := h 9999

theorem part_simple {P : Program} {T : Tab} (ok : TabOk P T) {t : TypeId} {i : TI} (ht : T t = some i) (hs : simpleD i.desc = true) {xs : Array Value} {off : Nat} {c : Value} (hc : xs[off]? = some c) (w : World) :
    (part t xs off).run P w = .ok c w := by
  have ha : isAggD i.desc = false := by cases hd : i.desc <;> simp_all [isAggD, simpleD]
  simp only [part, Sem.run_bind, ok.run_isAgg ht, ha, Result.andThen_ok]
  simp [hc]

theorem cell_int {σ : Sg} {xs xs' : Array Value} (hz : xs.size = xs'.size) (hr : ∀ (i : Nat) (v v' : Value), xs[i]? = some v → xs'[i]? = some v' → Rep σ v v') {off : Nat} {c : Value} (h : xs[off]? = some c) :
    ∃ c', xs'[off]? = some c' ∧ Rep σ c c' := by
  have : off < xs'.size := by rw [← hz]; exact (Array.getElem?_eq_some_iff.1 h).1
  exact ⟨_, Array.getElem?_eq_getElem this, hr off c _ h (Array.getElem?_eq_getElem this)⟩

theorem eqRun_sound {P : Program} {T : Tab} (ok : TabOk P T) {σ : Sg} {xs xs' ys ys' : Array Value} (hzx : xs.size = xs'.size) (hrx : ∀ (i : Nat) (v v' : Value), xs[i]? = some v → xs'[i]? = some v' → Rep σ v v')
    (hzy : ys.size = ys'.size) (hry : ∀ (i : Nat) (v v' : Value), ys[i]? = some v → ys'[i]? = some v' → Rep σ v v') {e : TypeId} {kk : IntKind} {z : Value} {y : Nat} (he : T e = some ⟨.int kk, 1, z, y⟩) (d off N : Nat) (w : World) :
    ∀ (n s : Nat) (q : Bool), s + n ≤ N → eqRun xs ys (off + s) n = some q → (Op.eqItems (d + 1) e 1 (xs'.extract off (off + N)) (ys'.extract off (off + N)) (List.range' s n)).run P w = .ok q w
  | 0, s, q, _, h => by
    simp only [eqRun, Option.some.injEq] at h
    subst h
    simp [Op.eqItems]
  | n + 1, s, q, hs, h => by
    simp only [eqRun] at h
    split at h
    · rename_i k a k' b r hx hy hr
      split at h
      · rename_i hk
        subst hk
        cases h
        obtain ⟨c1, e1, e2⟩ := cell_int hzx hrx hx
        obtain ⟨c2, e3, e4⟩ := cell_int hzy hry hy
        obtain rfl := e2.int_
        obtain rfl := e4.int_
        have hp : ∀ {us : Array Value} {c : Value}, us[off + s]? = some c → (part e (us.extract off (off + N)) (s * 1)).run P w = .ok c w := by
          intro us c hc
          refine part_simple ok he rfl ?_ w
          have hlt := (Array.getElem?_eq_some_iff.1 hc).1
          have hl2 : s < (us.extract off (off + N)).size := by rw [Array.size_extract]; omega
          rw [Nat.mul_one, Array.getElem?_eq_getElem hl2, Array.getElem_extract]
          exact (Array.getElem?_eq_getElem hlt).symm.trans hc
        have hrec := eqRun_sound ok hzx hrx hzy hry he d off N w n (s + 1) r (by omega) hr
        rw [List.range'_succ]
        simp only [Op.eqItems, Sem.run_bind, hp e1, hp e3, run_equalIn_int w d e _ _ _ _ (ok.under _ _ he), Result.andThen_ok]
        cases a == b
        · simp
        · simpa using hrec
      · cases h
    · cases h
/-- Fields that are compared. -/
def FieldOk (T : Tab) (t : TypeId) : Prop := ∃ j, T t = some j ∧ (simpleD j.desc = true ∨ ∃ n e i', j.desc = .array n e ∧ T e = some i' ∧ simpleD i'.desc = true)
theorem part_arr {P : Program} {T : Tab} (ok : TabOk P T) {t e : TypeId} {n s : Nat} {z : Value} {y : Nat} (ht : T t = some ⟨.array n e, s, z, y⟩) (xs : Array Value) (off : Nat) (w : World) :
    (part t xs off).run P w = .ok (.agg (xs.extract off (off + s))) w := by
  simp only [part, Sem.run_bind, ok.run_isAgg ht, isAggD, Result.andThen_ok]
  simp [ok.run_size ht]

theorem eqFlat_sound {P : Program} {T : Tab} (ok : TabOk P T) {σ : Sg} {xs xs' ys ys' : Array Value} (hzx : xs.size = xs'.size) (hrx : ∀ (i : Nat) (v v' : Value), xs[i]? = some v → xs'[i]? = some v' → Rep σ v v')
    (hzy : ys.size = ys'.size) (hry : ∀ (i : Nat) (v v' : Value), ys[i]? = some v → ys'[i]? = some v' → Rep σ v v') (d : Nat) (w : World) : ∀ (fs : List Field) (b : Bool), eqFlat T xs ys fs = some b →
    (Op.eqFields (d + 2) xs' ys' fs).run P w = .ok b w ∧ ∀ f ∈ fs, FieldOk T f.type
  | [], b, h => by
    simp only [eqFlat, Option.some.injEq] at h
    subst h
    exact ⟨by simp [Op.eqFields], fun f hf => by simp at hf⟩
  | f :: fs, b, h => by
    simp only [eqFlat] at h
    split at h
    · cases h
    · rename_i hn
      have hn' : f.name ≠ "_" := hn
      have fin0 : ∀ {c1 c2 : Value} {r1 r2 : Bool}, FieldOk T f.type → (part f.type xs' f.offset).run P w = .ok c1 w → (part f.type ys' f.offset).run P w = .ok c2 w → (Op.equalIn (d + 2) f.type c1 c2).run P w = .ok r1 w →
          eqFlat T xs ys fs = some r2 → (Op.eqFields (d + 2) xs' ys' (f :: fs)).run P w = .ok (r1 && r2) w ∧ ∀ g ∈ f :: fs, FieldOk T g.type := by
        intro c1 c2 r1 r2 hs h1 h2 he hr
        obtain ⟨q1, q2⟩ := eqFlat_sound ok hzx hrx hzy hry d w fs r2 hr
        refine ⟨?_, fun g hg => ?_⟩
        · simp only [Op.eqFields, if_pos hn', Sem.run_bind, h1, h2, he, Result.andThen_ok]
          cases r1
          · simp
          · simpa using q1
        · rcases List.mem_cons.1 hg with rfl | hg
          · exact hs
          · exact q2 g hg
      have fin : ∀ {i : TI} {c1 c2 : Value} {r1 r2 : Bool}, T f.type = some i → simpleD i.desc = true → xs'[f.offset]? = some c1 → ys'[f.offset]? = some c2 → (Op.equalIn (d + 2) f.type c1 c2).run P w = .ok r1 w →
          eqFlat T xs ys fs = some r2 → (Op.eqFields (d + 2) xs' ys' (f :: fs)).run P w = .ok (r1 && r2) w ∧ ∀ g ∈ f :: fs, FieldOk T g.type := by
        intro i c1 c2 r1 r2 ht hs h1 h2 he hr
        exact fin0 ⟨i, ht, .inl hs⟩ (part_simple ok ht hs h1 w) (part_simple ok ht hs h2 w) he hr
      split at h
      · rename_i k s1 z1 y1 k1 a k2 b2 r ht hx hy hr
        split at h
        · rename_i hk
          cases h
          subst hk
          obtain ⟨c1, e1, e2⟩ := cell_int hzx hrx hx
          obtain ⟨c2, e3, e4⟩ := cell_int hzy hry hy
          obtain rfl := e2.int_
          obtain rfl := e4.int_
          exact fin ht rfl e1 e3 (run_equalIn_int w (d + 1) f.type _ _ _ _ (ok.under _ _ ht)) hr
        · cases h
      · rename_i s1 z1 y1 a b2 r ht hx hy hr
        cases h
        obtain ⟨c1, e1, e2⟩ := cell_int hzx hrx hx
        obtain ⟨c2, e3, e4⟩ := cell_int hzy hry hy
        obtain rfl := e2.bool_
        obtain rfl := e4.bool_
        exact fin ht rfl e1 e3 (run_equalIn_bool' w (d + 1) f.type _ _ (ok.under _ _ ht)) hr
      · rename_i s1 z1 y1 a b2 r ht hx hy hr
        cases h
        obtain ⟨c1, e1, e2⟩ := cell_int hzx hrx hx
        obtain ⟨c2, e3, e4⟩ := cell_int hzy hry hy
        obtain rfl := e2.string_
        obtain rfl := e4.string_
        exact fin ht rfl e1 e3 (run_equalIn_string w (d + 1) f.type _ _ (ok.under _ _ ht)) hr
      · rename_i n e s1 z1 y1 r ht hr
        split at h
        · rename_i kk z2 y2 q he hq
          split at h
          · rename_i hsn
            cases h
            subst hsn
            obtain ⟨j, g1, g2, _⟩ := ok.info e _ he
            have hce : P.cellsOf e = 1 := by simp [Program.cellsOf, g1, g2]
            refine fin0 ⟨_, ht, .inr ⟨_, e, _, rfl, he, rfl⟩⟩ (part_arr ok ht xs' f.offset w) (part_arr ok ht ys' f.offset w) ?_ hr
            rw [run_equalIn_array w (d + 1) _ _ (ok.under _ _ ht) g1, hce, List.range_eq_range']
            exact eqRun_sound ok hzx hrx hzy hry he d f.offset _ w _ 0 q (by omega) hq
          · cases h
        · cases h
      · cases h

theorem binA_sound {P : Program} {T : Tab} (ok : TabOk P T) {σ : Sg} {w : World} {op : BinOp} {t : TypeId} {xo yo : Operand} {x x' y y' v : Value}
    (hx : Rep σ x x') (hy : Rep σ y y') (h : binA T (isConst xo || isConst yo) op t x y = some v) :
    ∃ v', (do eqGuard op t xo yo x' y'; binOp op t x' y' : Sem Value).run P w = .ok v' w ∧ Rep σ v v' := by
  have key : ∀ {v'}, (binOp op t x' y').run P w = .ok v' w ∧ okc v' = true → (eqGuard op t xo yo x' y').run P w = .ok () w → v' = v → ∃ v', (do eqGuard op t xo yo x' y'; binOp op t x' y' : Sem Value).run P w = .ok v' w ∧ Rep σ v v' := by
    rintro v' ⟨h1, h2⟩ h3 rfl
    exact ⟨v', by simp only [Sem.run_bind, h3, Result.andThen_ok, h1], .const _ h2⟩
  unfold binA at h
  split at h
  · rename_i k a k' b
    obtain rfl := hx.int_
    obtain rfl := hy.int_
    have hg : (eqGuard op t xo yo (.int k a) (.int k' b)).run P w = .ok () w := by simp only [eqGuard]; cases op <;> rfl
    split at h
    · exact key (shiftA_sound (.inl rfl) h t w) hg rfl
    · exact key (shiftA_sound (.inr rfl) h t w) hg rfl
    · split at h
      · rename_i hk
        subst hk
        exact key (intBin_sound h t w) hg rfl
      · cases h
  · rename_i a b
    obtain rfl := hx.string_
    obtain rfl := hy.string_
    have hg : (eqGuard op t xo yo (.string a) (.string b)).run P w = .ok () w := by simp only [eqGuard]; cases op <;> rfl
    exact key (strBin_sound h t w) hg rfl
  · rename_i a b
    obtain rfl := hx.bool_
    obtain rfl := hy.bool_
    split at h
    · rename_i hd
      obtain ⟨d, hu, hp⟩ := tab_desc ok hd w
      obtain rfl := boolD hp
      have hg : (eqGuard op t xo yo (.bool a) (.bool b)).run P w = .ok () w := by simp only [eqGuard]; cases op <;> rfl
      exact key (tf_sound h (eq_run (fun d => by simp [Op.equalIn, hu])) rfl rfl) hg rfl
    · cases h
  · obtain rfl := hx.nilIface_
    obtain rfl := hy.nilIface_
    split at h
    · rename_i hd
      simp only [Bool.and_eq_true] at hd
      obtain ⟨d, hu, hp⟩ := tab_desc ok hd.2 w
      obtain ⟨e, rfl⟩ := ifaceD hp
      have hc := hd.1
      have hg : (eqGuard op t xo yo .nilIface .nilIface).run P w = .ok () w := by
        simp only [eqGuard]
        cases op <;> first | rfl | skip
        all_goals (cases xo <;> cases yo <;> first | rfl | (simp [isConst] at hc))
      exact key (tf_sound h (eq_run (fun d => by simp [Op.equalIn, hu])) rfl rfl) hg rfl
    · cases h
  · rename_i T1 x1
    obtain rfl := hx.nilIface_
    obtain ⟨y1, rfl, _⟩ := hy.iface_
    split at h
    · rename_i hd
      obtain ⟨d, hu, hp⟩ := tab_desc ok hd w
      obtain ⟨e, rfl⟩ := ifaceD hp
      have hg : (eqGuard op t xo yo .nilIface (.iface T1 y1)).run P w = .ok () w := by simp only [eqGuard]; cases op <;> rfl
      exact key (tf_sound h (eq_run (fun d => by simp [Op.equalIn, hu])) rfl rfl) hg rfl
    · cases h
  · rename_i T1 x1
    obtain rfl := hy.nilIface_
    obtain ⟨y1, rfl, _⟩ := hx.iface_
    split at h
    · rename_i hd
      obtain ⟨d, hu, hp⟩ := tab_desc ok hd w
      obtain ⟨e, rfl⟩ := ifaceD hp
      have hg : (eqGuard op t xo yo (.iface T1 y1) .nilIface).run P w = .ok () w := by simp only [eqGuard]; cases op <;> rfl
      exact key (tf_sound h (eq_run (fun d => by simp [Op.equalIn, hu])) rfl rfl) hg rfl
    · cases h
  · rename_i xs ys
    obtain ⟨xs', rfl, ⟨hzx, hrx⟩, _⟩ := hx.agg_
    obtain ⟨ys', rfl, ⟨hzy, hry⟩, _⟩ := hy.agg_
    split at h
    · rename_i fs s1 z1 y1 ht
      split at h
      · rename_i b hb
        obtain ⟨h1, h2⟩ := eqFlat_sound ok hzx hrx hzy hry 9997 w fs.toList b hb
        obtain ⟨g1, g2⟩ := ok.cmp t _ fs ht rfl h2
        have hf : P.fieldsOf t = fs := by simp [Program.fieldsOf, ok.under t _ ht]
        have he : (Op.equalIn 10000 t (.agg xs') (.agg ys')).run P w = .ok b w := by
          rw [run_equalIn_struct (P := P) w 9999 t xs' ys' (by rw [hf]; exact ok.under t _ ht) g1, hf]
          exact h1
        have hg := run_eqGuard_agg (P := P) w op t xo yo xs' ys' g2
        unfold tf at h
        split at h
        · cases h
          exact ⟨.bool b, by simp only [Sem.run_bind, hg, Result.andThen_ok, run_eql_struct, he], .const _ rfl⟩
        · cases h
          exact ⟨.bool !b, by simp only [Sem.run_bind, hg, Result.andThen_ok, run_neq_struct, he], .const _ rfl⟩
        · cases h
      · cases h
    · cases h
  · obtain rfl := hx.nilptr_
    obtain rfl := hy.nilptr_
    split at h
    · rename_i hd
      obtain ⟨d, hu, hp⟩ := tab_desc ok hd w
      obtain ⟨e, rfl⟩ := ptrD hp
      have hg : (eqGuard op t xo yo (.pointer none) (.pointer none)).run P w = .ok () w := by simp only [eqGuard]; cases op <;> rfl
      exact key (tf_sound h (eq_run (fun d => by simp [Op.equalIn, hu])) rfl rfl) hg rfl
    · cases h
  · rename_i a1
    obtain rfl := hx.nilptr_
    obtain ⟨l, _, _, rfl⟩ := hy.ptr_
    split at h
    · rename_i hd
      obtain ⟨d, hu, hp⟩ := tab_desc ok hd w
      obtain ⟨e, rfl⟩ := ptrD hp
      have hg : (eqGuard op t xo yo (.pointer none) (.pointer (some ⟨l.b, l.off + a1.off, none⟩))).run P w = .ok () w := by simp only [eqGuard]; cases op <;> rfl
      exact key (tf_sound h (eq_run (fun d => by simp [Op.equalIn, hu])) rfl rfl) hg rfl
    · cases h
  · rename_i a1
    obtain rfl := hy.nilptr_
    obtain ⟨l, _, _, rfl⟩ := hx.ptr_
    split at h
    · rename_i hd
      obtain ⟨d, hu, hp⟩ := tab_desc ok hd w
      obtain ⟨e, rfl⟩ := ptrD hp
      have hg : (eqGuard op t xo yo (.pointer (some ⟨l.b, l.off + a1.off, none⟩)) (.pointer none)).run P w = .ok () w := by simp only [eqGuard]; cases op <;> rfl
      exact key (tf_sound h (eq_run (fun d => by simp [Op.equalIn, hu])) rfl rfl) hg rfl
    · cases h
  · cases h

def unA (op : UnOp) : Value → Option Value
  | .int k n => match op with
    | .neg => some (.int k (k.wrap (0 - n)))
    | .xor => some (.int k (bits .xor k (if k.signed then -1 else k.max) n))
    | _ => none
  | .bool b => match op with
    | .not => some (.bool !b)
    | _ => none
  | _ => none

theorem unA_sound {P : Program} {σ : Sg} {w : World} {op : UnOp} {x x' v : Value} (hx : Rep σ x x') (h : unA op x = some v) :
    ∃ v', (Op.unary op x').run P w = .ok v' w ∧ Rep σ v v' := by
  unfold unA at h
  split at h
  · obtain rfl := hx.int_
    split at h <;> first | (cases h; done) | skip
    · cases h; exact ⟨_, rfl, .const _ rfl⟩
    · cases h; exact ⟨_, rfl, .const _ rfl⟩
  · obtain rfl := hx.bool_
    split at h <;> first | (cases h; done) | skip
    cases h; exact ⟨_, rfl, .const _ rfl⟩
  · cases h

/-- Bytes out of cells. -/
def numsOf : List Value → Option (List Int)
  | [] => some []
  | .int .u8 n :: r => (numsOf r).map (n :: ·)
  | _ :: _ => none

theorem numsOf_get : ∀ (l : List Value) (xs : List Int), numsOf l = some xs → xs.length = l.length ∧ ∀ i, i < l.length → l[i]? = some (.int .u8 (xs.getD i 0))
  | [], xs, h => by simp [numsOf] at h; subst h; simp
  | v :: l, xs, h => by
    unfold numsOf at h
    split at h
    · rename_i heq; cases heq
    · rename_i n r heq
      cases heq
      cases hr : numsOf l with
      | none => simp [hr] at h
      | some r =>
        simp only [hr, Option.map_some, Option.some.injEq] at h
        subst h
        obtain ⟨h1, h2⟩ := numsOf_get l r hr
        refine ⟨by simp [h1], fun i hi => ?_⟩
        cases i with
        | zero => simp
        | succ i => simpa using h2 i (by simpa using hi)
    · cases h
theorem numsOf_map (xs : List Int) : numsOf (xs.map (Value.int .u8)) = some xs := by
  induction xs with
  | nil => rfl
  | cons x xs ih => simp [numsOf, ih]

/-- A conversion: between whole numbers, of a string to itself, of bytes to a string. -/
def convA (T : Tab) (S : St) (src dst : TypeId) (x : Value) : Option Value :=
  match T src, T dst, x with
  | some _, some ⟨.int k, _, _, _⟩, .int _ n => some (.int k (k.wrap n))
  | some ⟨.string, _, _, _⟩, some ⟨.string, _, _, _⟩, .string s => some (.string s)
  | some ⟨.slice e, _, _, _⟩, some ⟨.string, _, _, _⟩, .slice none 0 0 =>
    match T e with
    | some ⟨.int .u8, _, _, _⟩ => some (.string ByteArray.empty)
    | _ => none
  | some ⟨.slice e, _, _, _⟩, some ⟨.string, _, _, _⟩, .slice (some ⟨o, k, none⟩) n _ =>
    match T e with
    | some ⟨.int .u8, _, _, _⟩ =>
      match S[o]? with
      | some (.row _ _ cs) => if k + n ≤ cs.length then (numsOf ((cs.drop k).take n)).map (fun l => .string (strOfNums l)) else none
      | _ => none
    | _ => none
  | _, _, _ => none

theorem strOfNums_nil : strOfNums [] = ByteArray.empty := rfl

theorem convA_sound {P : Program} {T : Tab} (ok : TabOk P T) {σ : Sg} {S : St} {base : Nat} {w0 w : World} (hs : Sim σ S base w0 w) {src dst : TypeId} {x x' v : Value}
    (hx : Rep σ x x') (h : convA T S src dst x = some v) : ∃ v', (convert src dst x').run P w = .ok v' w ∧ Rep σ v v' := by
  unfold convA at h
  split at h
  · rename_i i1 k a b c k1 n h1 h2
    obtain rfl := hx.int_
    cases h
    have u1 := ok.run_under h1 w
    have u2 : (underlying dst).run P w = .ok (.int k) w := ok.run_under h2 w
    refine ⟨_, ?_, .const _ rfl⟩
    simp only [convert, Sem.run_bind, u1, u2, Result.andThen_ok]
    rfl
  · rename_i a b c a' b' c' s h1 h2
    obtain rfl := hx.string_
    cases h
    have u1 : (underlying src).run P w = .ok .string w := ok.run_under h1 w
    have u2 : (underlying dst).run P w = .ok .string w := ok.run_under h2 w
    exact ⟨_, by simp only [convert, Sem.run_bind, u1, u2, Result.andThen_ok]; rfl, .const _ rfl⟩
  · rename_i e a b c a' b' c' h1 h2
    obtain rfl := hx.snil_
    split at h
    · rename_i a2 b2 c2 h3
      cases h
      exact ⟨_, run_convert_bytes_nil w src e (ok.under _ _ h1) (ok.under _ _ h3) 0 0 dst (ok.under _ _ h2), .const _ rfl⟩
    · cases h
  · rename_i e a b c a' b' c' o k n s h1 h2
    split at h
    · rename_i a2 b2 c2 h3
      split at h
      · rename_i ty rw cs hS
        split at h
        · rename_i hle
          cases hn : numsOf ((cs.drop k).take n) with
          | none => simp [hn] at h
          | some xs =>
            simp only [hn, Option.map_some, Option.some.injEq] at h
            subst h
            obtain ⟨g1, g2⟩ := numsOf_get _ _ hn
            have hlen : ((cs.drop k).take n).length = n := by simp; omega
            rcases hx.slice_.2.1 with ⟨l, c', hl, hc, _, _, rfl⟩ | ⟨rfl, _, A, rfl⟩
            · refine ⟨_, run_convert_bytes_arg w src e (ok.under _ _ h1) (ok.under _ _ h3) l.b (l.off + k) n c' xs (by omega) (fun i hi => ?_) dst (ok.under _ _ h2), .const _ rfl⟩
              have g3 := g2 i (by omega)
              rw [List.getElem?_take, if_pos hi, List.getElem?_drop] at g3
              obtain ⟨v', q1, q2, _⟩ := hs.cell o l ty rw cs hS hl (k + i) _ g3
              rw [q2.int_] at q1
              rw [← q1]; congr 2; omega
            · have hx0 : xs = [] := List.eq_nil_of_length_eq_zero (by omega)
              subst hx0
              cases A with
              | none => exact ⟨_, run_convert_bytes_nil w src e (ok.under _ _ h1) (ok.under _ _ h3) 0 0 dst (ok.under _ _ h2), .const _ rfl⟩
              | some A =>
                refine ⟨_, ?_, .const _ rfl⟩
                rw [run_convert_bytes_string w src dst e _ _ _ (ok.under _ _ h1) (ok.under _ _ h3) (ok.under _ _ h2)]
                exact run_bytesToString w A 0 0 [] rfl
        · cases h
      · cases h
    · cases h
  · cases h

end Go.Ab
