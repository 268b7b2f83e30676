/- Abstract values and stores over the model's worlds: what an abstract value and store say of a world, and how they move; for any program. -/
import Derived.Below
import Derived.Maps.AppendAt
import Derived.Deep.Quiet
import Derived.WalkKit
namespace Go.Ab
open Go.RowKit

/-- Where an abstract object lies: block, first cell, and (a row that may be written) how many cells its block has. -/
structure Loc where
  b : Nat
  off : Nat
  N : Option Nat
abbrev Sg := List Loc

/-- An abstract object: a row of cells (may it be written?), or nothing that is known. -/
inductive AObj where
  | row (ty : TypeId) (rw : Bool) (cs : List Value)
  | dead
  deriving Inhabited
abbrev St := List AObj

/-- Values that hold no address. -/
def okc : Value → Bool
  | .bool _ | .int _ _ | .string _ | .pointer none | .slice none 0 0 | .map none | .nilFunc | .nilIface => true
  | _ => false

/-- An abstract value (its addresses: object and cell; a slice's capacity field: the cells of one element) and a value of the model. -/
inductive Rep (σ : Sg) : Value → Value → Prop where
  | top (v : Value) : Rep σ (.chan none) v
  | const (v : Value) (h : okc v = true) : Rep σ v v
  | ptr (o i : Nat) (l : Loc) (h : σ[o]? = some l) : Rep σ (.pointer (some ⟨o, i, none⟩)) (.pointer (some ⟨l.b, l.off + i, none⟩))
  | slice (o i n s c : Nat) (l : Loc) (h : σ[o]? = some l) (hc : n ≤ c) (hm : c ≤ maxLen) (hN : ∀ N, l.N = some N → s = 0 ∨ l.off + i + c * s = N) :
      Rep σ (.slice (some ⟨o, i, none⟩) n s) (.slice (some ⟨l.b, l.off + i, none⟩) n c)
  | sliceE (o i s : Nat) (A : Option Addr) (hi : i ≠ 0 ∨ s = 0) (ho : o < σ.length) : Rep σ (.slice (some ⟨o, i, none⟩) 0 s) (.slice A 0 0)
  | iface (T : TypeId) (v v' : Value) (h : Rep σ v v') : Rep σ (.iface T v) (.iface T v')
  | agg (cs cs' : Array Value) (hs : cs.size = cs'.size) (h : ∀ (i : Nat) (v v' : Value), cs[i]? = some v → cs'[i]? = some v' → Rep σ v v') (h1 : ∀ (i : Nat) (v' : Value), cs'[i]? = some v' → v'.oneCell' = true) : Rep σ (.agg cs) (.agg cs')
  | tuple (cs cs' : Array Value) (hs : cs.size = cs'.size) (h : ∀ (i : Nat) (v v' : Value), cs[i]? = some v → cs'[i]? = some v' → Rep σ v v') : Rep σ (.tuple cs) (.tuple cs')
  | func (fn : Fn) (cs cs' ds ds' : Array Value) (hs : cs.size = cs'.size) (h : ∀ (i : Nat) (v v' : Value), cs[i]? = some v → cs'[i]? = some v' → Rep σ v v')
      (hs2 : ds.size = ds'.size) (h2 : ∀ (i : Nat) (v v' : Value), ds[i]? = some v → ds'[i]? = some v' → Rep σ v v') : Rep σ (.func fn cs ds) (.func fn cs' ds')

theorem sg_get {σ σ' : Sg} (h : σ <+: σ') {o : Nat} {l : Loc} (hl : σ[o]? = some l) : σ'[o]? = some l := by
  obtain ⟨t, rfl⟩ := h
  rw [List.getElem?_append_left (by exact (List.getElem?_eq_some_iff.1 hl).1)]
  exact hl

theorem Rep.mono {σ σ' : Sg} (h : σ <+: σ') {v v' : Value} (r : Rep σ v v') : Rep σ' v v' := by
  induction r with
  | top v => exact .top v
  | const v h => exact .const v h
  | ptr o i l hl => exact .ptr o i l (sg_get h hl)
  | slice o i n s c l hl hc hm hN => exact .slice o i n s c l (sg_get h hl) hc hm hN
  | sliceE o i s A hi ho => exact .sliceE o i s A hi (Nat.lt_of_lt_of_le ho h.length_le)
  | iface T v v' _ ih => exact .iface T v v' ih
  | agg cs cs' hs _ h1 ih => exact .agg cs cs' hs ih h1
  | tuple cs cs' hs _ ih => exact .tuple cs cs' hs ih
  | func fn cs cs' ds ds' hs _ hs2 _ ih ih2 => exact .func fn cs cs' ds ds' hs ih hs2 ih2

/-! what a value of the model is, by its abstract value -/
theorem Rep.int_ {σ : Sg} {k : IntKind} {n : Int} {v : Value} (h : Rep σ (.int k n) v) : v = .int k n := by cases h; rfl
theorem Rep.bool_ {σ : Sg} {b : Bool} {v : Value} (h : Rep σ (.bool b) v) : v = .bool b := by cases h; rfl
theorem Rep.string_ {σ : Sg} {s : ByteArray} {v : Value} (h : Rep σ (.string s) v) : v = .string s := by cases h; rfl
theorem Rep.nilIface_ {σ : Sg} {v : Value} (h : Rep σ .nilIface v) : v = .nilIface := by cases h; rfl
theorem Rep.nilptr_ {σ : Sg} {v : Value} (h : Rep σ (.pointer none) v) : v = .pointer none := by cases h; rfl
theorem Rep.ptr_ {σ : Sg} {a : Addr} {v : Value} (h : Rep σ (.pointer (some a)) v) : ∃ l, σ[a.block]? = some l ∧ a.spot = none ∧ v = .pointer (some ⟨l.b, l.off + a.off, none⟩) := by
  cases h with
  | const _ h => simp [okc] at h
  | ptr o i l h => exact ⟨l, h, rfl, rfl⟩
theorem Rep.iface_ {σ : Sg} {T : TypeId} {x v : Value} (h : Rep σ (.iface T x) v) : ∃ x', v = .iface T x' ∧ Rep σ x x' := by
  cases h with
  | const _ h => simp [okc] at h
  | iface _ _ v' h => exact ⟨v', rfl, h⟩
theorem Rep.agg_ {σ : Sg} {cs : Array Value} {v : Value} (h : Rep σ (.agg cs) v) : ∃ cs', v = .agg cs' ∧ (cs.size = cs'.size ∧ ∀ (i : Nat) (v v' : Value), cs[i]? = some v → cs'[i]? = some v' → Rep σ v v') ∧ ∀ (i : Nat) (v' : Value), cs'[i]? = some v' → v'.oneCell' = true := by
  cases h with
  | const _ h => simp [okc] at h
  | agg _ cs' hs h h1 => exact ⟨cs', rfl, ⟨hs, h⟩, h1⟩
theorem Rep.slice_ {σ : Sg} {a : Addr} {n s : Nat} {v : Value} (h : Rep σ (.slice (some a) n s) v) :
    a.spot = none ∧ ((∃ l c, σ[a.block]? = some l ∧ n ≤ c ∧ c ≤ maxLen ∧ (∀ N, l.N = some N → s = 0 ∨ l.off + a.off + c * s = N) ∧ v = .slice (some ⟨l.b, l.off + a.off, none⟩) n c) ∨ (n = 0 ∧ (a.off ≠ 0 ∨ s = 0) ∧ ∃ A, v = .slice A 0 0)) ∧ a.block < σ.length := by
  cases h with
  | const _ h => simp [okc] at h
  | slice o i n s c l h hc hm hN => exact ⟨rfl, .inl ⟨l, c, h, hc, hm, hN, rfl⟩, (List.getElem?_eq_some_iff.1 h).1⟩
  | sliceE o i s A hi ho => exact ⟨rfl, .inr ⟨rfl, hi, A, rfl⟩, ho⟩
theorem Rep.snil_ {σ : Sg} {v : Value} (h : Rep σ (.slice none 0 0) v) : v = .slice none 0 0 := by cases h; rfl
theorem Rep.func_ {σ : Sg} {fn : Fn} {cs ds : Array Value} {v : Value} (h : Rep σ (.func fn cs ds) v) :
    ∃ cs' ds', v = .func fn cs' ds' ∧ cs.size = cs'.size ∧ (∀ (i : Nat) (v v' : Value), cs[i]? = some v → cs'[i]? = some v' → Rep σ v v') ∧
      ds.size = ds'.size ∧ (∀ (i : Nat) (v v' : Value), ds[i]? = some v → ds'[i]? = some v' → Rep σ v v') := by
  cases h with
  | const _ h => simp [okc] at h
  | func _ _ cs' _ ds' hs h hs2 h2 => exact ⟨cs', ds', rfl, hs, h, hs2, h2⟩
theorem Rep.tuple_ {σ : Sg} {cs : Array Value} {v : Value} (h : Rep σ (.tuple cs) v) :
    ∃ cs', v = .tuple cs' ∧ cs.size = cs'.size ∧ (∀ (i : Nat) (v v' : Value), cs[i]? = some v → cs'[i]? = some v' → Rep σ v v') := by
  cases h with
  | const _ h => simp [okc] at h
  | tuple _ cs' hs h => exact ⟨cs', rfl, hs, h⟩

/-- What a store says of a world: 'base': the blocks from there on are the call's own. -/
structure Sim (σ : Sg) (S : St) (base : Nat) (w0 w : World) : Prop where
  len : σ.length = S.length
  below : Below base w0 w
  size : base ≤ w.heap.size
  cell : ∀ (o : Nat) (l : Loc) ty rw cs, S[o]? = some (.row ty rw cs) → σ[o]? = some l → ∀ (i : Nat) v, cs[i]? = some v →
    ∃ v', w.cell? ⟨l.b, l.off + i, none⟩ = some v' ∧ Rep σ v v' ∧ v'.oneCell' = true
  own : ∀ (o : Nat) (l : Loc) ty cs, S[o]? = some (.row ty true cs) → σ[o]? = some l →
    l.off = 0 ∧ base ≤ l.b ∧ ∃ car, w.heap[l.b]? = some (.cells car ty (0, 0)) ∧ l.N = some car.size
  apart : ∀ (o o' : Nat) (l l' : Loc) ty cs ty' rw' cs', o ≠ o' → (rw' = true ∨ cs' ≠ []) → S[o]? = some (.row ty true cs) → S[o']? = some (.row ty' rw' cs') → σ[o]? = some l → σ[o']? = some l' → l.b ≠ l'.b

/-- All that S says S' says, too. -/
def Sub (S S' : St) : Prop := S.length = S'.length ∧ ∀ (o : Nat) ty rw cs, S[o]? = some (.row ty rw cs) → S'[o]? = some (.row ty rw cs)
theorem Sub.refl (S : St) : Sub S S := ⟨rfl, fun _ _ _ _ h => h⟩
theorem Sim.sub {σ : Sg} {S S' : St} {base : Nat} {w0 w : World} (h : Sim σ S' base w0 w) (hs : Sub S S') : Sim σ S base w0 w where
  len := h.len.trans hs.1.symm
  below := h.below
  size := h.size
  cell := fun o l ty rw cs h1 h2 => h.cell o l ty rw cs (hs.2 o ty rw cs h1) h2
  own := fun o l ty cs h1 h2 => h.own o l ty cs (hs.2 o ty true cs h1) h2
  apart := fun o o' l l' ty cs ty' rw' cs' hne hh h1 h1' h2 h2' => h.apart o o' l l' ty cs ty' rw' cs' hne hh (hs.2 _ _ _ _ h1) (hs.2 _ _ _ _ h1') h2 h2'

/-- A draw. -/
theorem Sim.drawn {σ : Sg} {S : St} {base : Nat} {w0 w : World} (h : Sim σ S base w0 w) (n : Nat) : Sim σ S base w0 { w with drawn := n } where
  len := h.len
  below := ⟨h.below.os, h.below.tape, h.below.output, h.below.size, h.below.block⟩
  size := h.size
  cell := h.cell
  own := h.own
  apart := h.apart

end Go.Ab
