/- The base of an abstract machine for walks: data without memory, abstract values, how they read in a world, and how a world may grow. Plain definitions and theorems; no program. -/
import Derived.WalkKit
import Derived.WalkSpells
import Derived.Maps.AppendAt
namespace Go.Am
open Go.RowKit

/-- A datum: a value with all that it leads to, read-only. A slice bears 'none' where each element is one cell, 'some m' where each is a struct of m cells. -/
inductive Dat where
  | bool (b : Bool)
  | int (k : IntKind) (n : Int)
  | str (s : ByteArray)
  | nilIf
  | someIf
  | sl (ek : Option Nat) (xs : List Dat)
  | agg (cs : List Dat)
  | tup (xs : List Dat)

instance : Inhabited Dat := ⟨.bool false⟩

def Dat.cells : Dat → List Dat
  | .agg cs => cs
  | x => [x]
def Dat.cell (x : Dat) (j : Nat) : Dat := x.cells.getD j default
def Dat.one : Dat → Bool
  | .agg _ => false
  | .tup _ => false
  | _ => true
def esz : Option Nat → Nat
  | none => 1
  | some m => m
/-- An element fits its slice. -/
def Fits (ek : Option Nat) (x : Dat) : Prop := match ek with
  | none => x.one = true
  | some m => ∃ cs, x = .agg cs ∧ cs.length = m ∧ ∀ y ∈ cs, y.one = true

theorem Fits.len {ek : Option Nat} {x : Dat} (h : Fits ek x) : x.cells.length = esz ek := by
  cases ek with
  | none => cases x <;> simp_all [Fits, Dat.one, Dat.cells, esz]
  | some m => obtain ⟨cs, rfl, h1, _⟩ := h; simpa [Dat.cells, esz] using h1
theorem Fits.one {ek : Option Nat} {x : Dat} (h : Fits ek x) : ∀ y ∈ x.cells, y.one = true := by
  cases ek with
  | none => cases x <;> simp_all [Fits, Dat.one, Dat.cells]
  | some m => obtain ⟨cs, rfl, h1, h2⟩ := h; simpa [Dat.cells] using h2

/-- A value is read as a datum; only protected blocks are looked into. -/
inductive RepD (w : World) (pr : Nat → Bool) : Dat → Value → Prop where
  | bool (b) : RepD w pr (.bool b) (.bool b)
  | int (k n) : RepD w pr (.int k n) (.int k n)
  | str (s) : RepD w pr (.str s) (.string s)
  | nilIf : RepD w pr .nilIf .nilIface
  | someIf (t v) : RepD w pr .someIf (.iface t v)
  | nil (ek) : RepD w pr (.sl ek []) (.slice none 0 0)
  | sl (ek) (xs : List Dat) (b off cap : Nat) (spot : Option Nat) (u : Nat → Value) (hc : xs.length ≤ cap) (hm : cap ≤ maxLen) (hs : 0 < xs.length → spot = none)
      (hf : ∀ x ∈ xs, Fits ek x)
      (hu : ∀ (k j : Nat) (x y : Dat), xs[k]? = some x → x.cells[j]? = some y → pr b = true ∧ w.cell? ⟨b, off + (k * esz ek + j), none⟩ = some (u (k * esz ek + j)))
      (hr : ∀ (k j : Nat) (x y : Dat), xs[k]? = some x → x.cells[j]? = some y → RepD w pr y (u (k * esz ek + j))) :
      RepD w pr (.sl ek xs) (.slice (some ⟨b, off, spot⟩) xs.length cap)
  | agg (cs : List Dat) (vs : Array Value) (hl : vs.size = cs.length) (h1 : ∀ y ∈ cs, y.one = true)
      (hr : ∀ (j : Nat) (y : Dat), cs[j]? = some y → RepD w pr y (vs.getD j undef)) : RepD w pr (.agg cs) (.agg vs)
  | tup (cs : List Dat) (vs : Array Value) (hl : vs.size = cs.length)
      (hr : ∀ (j : Nat) (y : Dat), cs[j]? = some y → RepD w pr y (vs.getD j undef)) : RepD w pr (.tup cs) (.tuple vs)

theorem RepD.mono {w w' : World} {pr pr' : Nat → Bool} {x : Dat} {v : Value} (h : RepD w pr x v)
    (hk : ∀ b, b < w.heap.size → pr b = true → w'.heap[b]? = w.heap[b]? ∧ pr' b = true) : RepD w' pr' x v := by
  induction h with
  | bool b => exact .bool b
  | int k n => exact .int k n
  | str s => exact .str s
  | nilIf => exact .nilIf
  | someIf t v => exact .someIf t v
  | nil ek => exact .nil ek
  | sl ek xs b off cap spot u hc hm hs hf hu hr ih =>
    refine .sl ek xs b off cap spot u hc hm hs hf (fun k j x y h1 h2 => ?_) ih
    obtain ⟨hp, h3⟩ := hu k j x y h1 h2
    obtain ⟨h4, h5⟩ := hk b (World.block_lt_of_cell? w _ h3) hp
    exact ⟨h5, by rw [← h3]; exact World.cell?_of_block (w := w) h4⟩
  | agg cs vs hl h1 hr ih => exact .agg cs vs hl h1 ih
  | tup cs vs hl hr ih => exact .tup cs vs hl ih

theorem RepD.oneCell {w : World} {pr : Nat → Bool} {x : Dat} {v : Value} (h : RepD w pr x v) (h1 : x.one = true) : v.oneCell' = true := by
  cases h <;> first | rfl | (simp [Dat.one] at h1)

/-- The element of a slice lies in memory. -/
def MemAt (w : World) (pr : Nat → Bool) (b off : Nat) (x : Dat) : Prop :=
  ∀ (j : Nat) (y : Dat), x.cells[j]? = some y → pr b = true ∧ y.one = true ∧ ∃ u, w.cell? ⟨b, off + j, none⟩ = some u ∧ RepD w pr y u
theorem MemAt.mono {w w' : World} {pr pr' : Nat → Bool} {b off : Nat} {x : Dat} (h : MemAt w pr b off x)
    (hk : ∀ b, b < w.heap.size → pr b = true → w'.heap[b]? = w.heap[b]? ∧ pr' b = true) : MemAt w' pr' b off x := by
  intro j y hy
  obtain ⟨hp, h1, u, hc, hr⟩ := h j y hy
  obtain ⟨h4, h5⟩ := hk b (World.block_lt_of_cell? w _ hc) hp
  exact ⟨h5, h1, u, by rw [← hc]; exact World.cell?_of_block (w := w) h4, hr.mono hk⟩

theorem RepD.sl_inv {w : World} {pr : Nat → Bool} {ek : Option Nat} {xs : List Dat} {v : Value} (h : RepD w pr (.sl ek xs) v) :
    (v = .slice none 0 0 ∧ xs = []) ∨ ∃ b off spot cap, v = .slice (some ⟨b, off, spot⟩) xs.length cap ∧ xs.length ≤ cap ∧ cap ≤ maxLen ∧ (0 < xs.length → spot = none) ∧
      (∀ x ∈ xs, Fits ek x) ∧ ∀ k x, xs[k]? = some x → MemAt w pr b (off + k * esz ek) x := by
  cases h with
  | nil => exact .inl ⟨rfl, rfl⟩
  | sl ek xs b off cap spot u hc hm hs hf hu hr =>
    refine .inr ⟨b, off, spot, cap, rfl, hc, hm, hs, hf, fun k x hk j y hj => ?_⟩
    obtain ⟨hp, h3⟩ := hu k j x y hk hj
    exact ⟨hp, (hf x (List.mem_of_getElem? hk)).one y (List.mem_of_getElem? hj), _, by rw [← h3]; congr 2; omega, hr k j x y hk hj⟩

theorem RepD.sl_mk {w : World} {pr : Nat → Bool} {ek : Option Nat} {xs : List Dat} {b off cap n : Nat} {spot : Option Nat} (hn : n = xs.length) (hc : xs.length ≤ cap) (hm : cap ≤ maxLen) (hs : 0 < xs.length → spot = none)
    (hf : ∀ x ∈ xs, Fits ek x) (hx : ∀ k x, xs[k]? = some x → MemAt w pr b (off + k * esz ek) x) : RepD w pr (.sl ek xs) (.slice (some ⟨b, off, spot⟩) n cap) := by
  subst hn
  refine .sl ek xs b off cap spot (fun i => (w.cell? ⟨b, off + i, none⟩).getD undef) hc hm hs hf (fun k j x y h1 h2 => ?_) (fun k j x y h1 h2 => ?_)
  · obtain ⟨hp, _, u, hu, _⟩ := hx k x h1 j y h2
    rw [Nat.add_assoc] at hu
    exact ⟨hp, by rw [hu]; rfl⟩
  · obtain ⟨hp, _, u, hu, hr⟩ := hx k x h1 j y h2
    rw [Nat.add_assoc] at hu
    rw [hu]
    exact hr

theorem RepD.fits {w : World} {pr : Nat → Bool} {ek : Option Nat} {xs : List Dat} {v : Value} (h : RepD w pr (.sl ek xs) v) : ∀ x ∈ xs, Fits ek x := by
  rcases h.sl_inv with ⟨_, rfl⟩ | ⟨_, _, _, _, _, _, _, _, hf, _⟩
  · simp
  · exact hf

/-- Abstract values of a walk. -/
inductive AV where
  | undef
  | un
  | d (x : Dat)
  | nil (ek : Option Nat)
  | agg (cs : List AV)
  | tup (xs : List AV)
  | ref (i : Nat)
  | ptr (i off : Nat)
  | elt (i : Nat) (ek : Option Nat) (k : Nat)
  | at_ (ek : Option Nat) (x : Dat)
  | fn (f : FuncId) (cap : List AV)

def AV.one : AV → Bool
  | .undef => false
  | .un => false
  | .d x => x.one
  | .agg _ => false
  | .tup _ => false
  | _ => true

/-- The block that a value leads to. -/
def blk : Value → Option Nat
  | .slice (some a) _ _ => some a.block
  | .pointer (some a) => some a.block
  | _ => none

/-- A concrete state of a walk: the world; which blocks are protected (read-only from here on); the values of the objects; which objects there are; the blocks below B were there before the call. -/
structure Ct where
  w : World
  pr : Nat → Bool
  ρ : Nat → Value
  ok : Nat → Bool
  B : Nat

inductive Rep (c : Ct) : AV → Value → Prop where
  | undef (v) : Rep c .undef v
  | un : Rep c .un Go.undef
  | d {x v} (h : RepD c.w c.pr x v) : Rep c (.d x) v
  | nil (ek) : Rep c (.nil ek) (.slice none 0 0)
  | agg (cs : List AV) (vs : Array Value) (hl : vs.size = cs.length) (h1 : ∀ y ∈ cs, y.one = true) (hr : ∀ (j : Nat) (y : AV), cs[j]? = some y → Rep c y (vs.getD j Go.undef)) : Rep c (.agg cs) (.agg vs)
  | tup (cs : List AV) (vs : Array Value) (hl : vs.size = cs.length) (hr : ∀ (j : Nat) (y : AV), cs[j]? = some y → Rep c y (vs.getD j Go.undef)) : Rep c (.tup cs) (.tuple vs)
  | ref (i) (hi : c.ok i = true) (v) (hv : v = c.ρ i) (h1 : v.oneCell' = true) : Rep c (.ref i) v
  | ptr (i off g) (hi : c.ok i = true) (hg : blk (c.ρ i) = some g) : Rep c (.ptr i off) (.pointer (some ⟨g, off, none⟩))
  | elt (i ek k g) (hi : c.ok i = true) (hg : blk (c.ρ i) = some g) : Rep c (.elt i ek k) (.pointer (some ⟨g, k * esz ek, none⟩))
  | at_ (ek x b off) (hf : Fits ek x) (hm : MemAt c.w c.pr b off x) : Rep c (.at_ ek x) (.pointer (some ⟨b, off, none⟩))
  | fn (f) (cap : List AV) (vs : Array Value) (hl : vs.size = cap.length) (hr : ∀ (j : Nat) (y : AV), cap[j]? = some y → Rep c y (vs.getD j Go.undef)) : Rep c (.fn f cap) (.func (.func f) #[] vs)

/-- How a concrete state may go on: protected blocks stay as they are, and protected; the objects keep their values. -/
structure Evo (c c' : Ct) : Prop where
  os : c'.w.os = c.w.os
  tape : c'.w.tape = c.w.tape
  output : c'.w.output = c.w.output
  size : c.w.heap.size ≤ c'.w.heap.size
  kept : ∀ b, b < c.w.heap.size → c.pr b = true → c'.w.heap[b]? = c.w.heap[b]? ∧ c'.pr b = true
  ok : ∀ i, c.ok i = true → c'.ok i = true
  ρ : ∀ i, c.ok i = true → c'.ρ i = c.ρ i
  B : c'.B = c.B
  low : ∀ b, b < c.B → c'.w.heap[b]? = c.w.heap[b]?
  prlow : ∀ b, b < c.B → c'.pr b = c.pr b

theorem Evo.refl (c : Ct) : Evo c c := ⟨rfl, rfl, rfl, Nat.le_refl _, fun _ _ h => ⟨rfl, h⟩, fun _ h => h, fun _ _ => rfl, rfl, fun _ _ => rfl, fun _ _ => rfl⟩
theorem Evo.trans {a b c : Ct} (h : Evo a b) (k : Evo b c) : Evo a c :=
  ⟨k.os.trans h.os, k.tape.trans h.tape, k.output.trans h.output, Nat.le_trans h.size k.size,
   fun i hi hp => ⟨(k.kept i (Nat.lt_of_lt_of_le hi h.size) (h.kept i hi hp).2).1.trans (h.kept i hi hp).1, (k.kept i (Nat.lt_of_lt_of_le hi h.size) (h.kept i hi hp).2).2⟩,
   fun i hi => k.ok i (h.ok i hi), fun i hi => (k.ρ i (h.ok i hi)).trans (h.ρ i hi), k.B.trans h.B, fun b hb => (k.low b (by rw [h.B]; exact hb)).trans (h.low b hb), fun b hb => (k.prlow b (by rw [h.B]; exact hb)).trans (h.prlow b hb)⟩

theorem Rep.mono {c c' : Ct} {x : AV} {v : Value} (h : Rep c x v) (e : Evo c c') : Rep c' x v := by
  induction h with
  | undef v => exact .undef v
  | un => exact .un
  | d h => exact .d (h.mono e.kept)
  | nil ek => exact .nil ek
  | agg cs vs hl h1 hr ih => exact .agg cs vs hl h1 ih
  | tup cs vs hl hr ih => exact .tup cs vs hl ih
  | ref i hi v hv h1 => exact .ref i (e.ok i hi) v (hv.trans (e.ρ i hi).symm) h1
  | ptr i off g hi hg => exact .ptr i off g (e.ok i hi) (by rw [e.ρ i hi]; exact hg)
  | elt i ek k g hi hg => exact .elt i ek k g (e.ok i hi) (by rw [e.ρ i hi]; exact hg)
  | at_ ek x b off hf hm => exact .at_ ek x b off hf (hm.mono e.kept)
  | fn f cap vs hl hr ih => exact .fn f cap vs hl ih

theorem Rep.oneCell {c : Ct} {x : AV} {v : Value} (h : Rep c x v) (h1 : x.one = true) : v.oneCell' = true := by
  cases h with
  | undef => simp [AV.one] at h1
  | un => simp [AV.one] at h1
  | d h => exact h.oneCell h1
  | nil => rfl
  | agg => simp [AV.one] at h1
  | tup => simp [AV.one] at h1
  | ref i hi v hv h1 => exact h1
  | ptr => rfl
  | elt => rfl
  | at_ => rfl
  | fn => rfl

/-- Objects that the walk owns: a variable with an address; a slice that it may write and append to; one that is read-only from here on. -/
inductive AO where
  | box (t : TypeId) (cs : List AV)
  | row (ek : Option Nat) (e : TypeId) (xs : List Dat)
  | frz (ek : Option Nat) (xs : List Dat)
  | dead
def AO.excl : AO → Bool
  | .frz _ _ => false
  | .dead => false
  | _ => true

/-- The cells of a row of elements. -/
def CellsRep (w : World) (pr : Nat → Bool) (ek : Option Nat) (xs : List Dat) (m : Nat → Option Value) : Prop :=
  ∀ k x, xs[k]? = some x → Fits ek x ∧ ∀ j y, x.cells[j]? = some y → ∃ u, m (k * esz ek + j) = some u ∧ RepD w pr y u
theorem CellsRep.mono {w w' : World} {pr pr' : Nat → Bool} {ek : Option Nat} {xs : List Dat} {m : Nat → Option Value} (h : CellsRep w pr ek xs m)
    (hk : ∀ b, b < w.heap.size → pr b = true → w'.heap[b]? = w.heap[b]? ∧ pr' b = true) : CellsRep w' pr' ek xs m := by
  intro k x hx
  obtain ⟨h1, h2⟩ := h k x hx
  exact ⟨h1, fun j y hy => let ⟨u, a, b⟩ := h2 j y hy; ⟨u, a, b.mono hk⟩⟩

def ORep (c : Ct) (i : Nat) : AO → Prop
  | .box t cs => c.ok i = true ∧ ∃ g cur, c.ρ i = .pointer (some ⟨g, 0, none⟩) ∧ c.pr g = false ∧ c.B ≤ g ∧ c.w.heap[g]? = some (.cells cur t (0, 0)) ∧ cur.size = cs.length ∧
      (∀ y ∈ cs, y.one = true) ∧ ∀ j y, cs[j]? = some y → Rep c y (cur.getD j undef)
  | .row ek e xs => c.ok i = true ∧ ∃ vals, c.w.ownsRow c.B e (esz ek) (c.ρ i) xs.length vals ∧ (∀ g, blk (c.ρ i) = some g → c.pr g = false) ∧ CellsRep c.w c.pr ek xs (fun j => vals[j]?)
  | .frz ek xs => c.ok i = true ∧ RepD c.w c.pr (.sl ek xs) (c.ρ i)
  | .dead => c.ok i = true
theorem ORep.lt {c : Ct} {i : Nat} {o : AO} (h : ORep c i o) : c.ok i = true := by
  cases o <;> first | exact h.1 | exact h

/-- An object stays where its block stays (or is read-only). -/
theorem ORep.mono {c c' : Ct} {i : Nat} {o : AO} (h : ORep c i o) (e : Evo c c')
    (hb : o.excl = true → ∀ g, blk (c.ρ i) = some g → c'.w.heap[g]? = c.w.heap[g]? ∧ c'.pr g = false) : ORep c' i o := by
  cases o with
  | box t cs =>
    obtain ⟨hi, g, cur, hρ, hp, hB, hg, hs, h1, hr⟩ := h
    obtain ⟨h2, h3⟩ := hb rfl g (by rw [hρ]; rfl)
    exact ⟨e.ok i hi, g, cur, (e.ρ i hi).trans hρ, h3, by rw [e.B]; exact hB, h2.trans hg, hs, h1, fun j y hy => (hr j y hy).mono e⟩
  | row ek t xs =>
    obtain ⟨hi, vals, ho, hp, hc⟩ := h
    refine ⟨e.ok i hi, vals, ?_, fun g hg => ?_, hc.mono e.kept⟩
    · rw [e.ρ i hi, e.B]
      refine ⟨ho.1, ?_⟩
      rcases ho.2 with hn | ⟨g, cap, cur, hv, hb0, hg, rest⟩
      · exact .inl hn
      · exact .inr ⟨g, cap, cur, hv, hb0, (hb rfl g (by rw [hv]; rfl)).1.trans hg, rest⟩
    · rw [e.ρ i hi] at hg
      exact (hb rfl g hg).2
  | frz ek xs => exact ⟨e.ok i h.1, by rw [e.ρ i h.1]; exact h.2.mono e.kept⟩
  | dead => exact e.ok i h

/-- An abstract state: how many slots the frame has; what is known of slots; the objects; how many numbers of objects are used up. -/
structure St where
  sz : Nat
  tm : List (Nat × AV)
  ob : List (Nat × AO)
  nx : Nat

def look {α : Type} (t : Nat) : List (Nat × α) → Option α
  | [] => none
  | (k, x) :: r => match Nat.beq k t with
    | true => some x
    | false => look t r
def St.get (σ : St) (t : Nat) : Option AV := look t σ.tm
def St.obj (σ : St) (i : Nat) : Option AO := look i σ.ob
def St.put (σ : St) (dst : Option Tmp) (x : AV) : St := match dst with
  | none => σ
  | some d => { σ with tm := (d, x) :: σ.tm }

structure Models (σ : St) (a : Act) (c : Ct) : Prop where
  defers : a.defers = []
  sz : a.tmps.size = σ.sz
  nx : ∀ i, c.ok i = true → i < σ.nx
  tm : ∀ t x, σ.get t = some x → t < σ.sz ∧ Rep c x (a.tmps.getD t undef)
  ob : ∀ i o, σ.obj i = some o → ORep c i o
  apart : ∀ i j o o' g, σ.obj i = some o → σ.obj j = some o' → o.excl = true → o'.excl = true → blk (c.ρ i) = some g → blk (c.ρ j) = some g → i = j

theorem look_cons {α : Type} (k t : Nat) (x : α) (r : List (Nat × α)) : look t ((k, x) :: r) = if k = t then some x else look t r := by
  by_cases h : k = t
  · subst h; simp [look]
  · have hb : Nat.beq k t = false := by
      cases hb : Nat.beq k t with
      | false => rfl
      | true => exact absurd (Nat.eq_of_beq_eq_true hb) h
    rw [if_neg h, look]
    simp only [hb]

theorem Models.put {σ : St} {a : Act} {c : Ct} (h : Models σ a c) {dst : Option Tmp} {x : AV} {v : Value} (hv : Rep c x v) (hd : ∀ d, dst = some d → d < σ.sz) : Models (σ.put dst x) (a.put dst v) c := by
  cases dst with
  | none => exact h
  | some d =>
    refine ⟨h.defers, by simpa [Act.put, St.put] using h.sz, h.nx, fun t y ht => ?_, h.ob, h.apart⟩
    have hds := hd d rfl
    rw [St.get, St.put, look_cons] at ht
    split at ht
    · rename_i e
      subst e
      cases ht
      have hlt : d < a.tmps.size := by rw [h.sz]; exact hds
      exact ⟨hds, by simpa [Act.put, hlt] using hv⟩
    · rename_i hne
      obtain ⟨h1, h2⟩ := h.tm t y ht
      refine ⟨h1, ?_⟩
      simpa [Act.put, Array.getElem?_setIfInBounds_ne hne] using h2

/-- The objects stay, the frame stays, the concrete state goes on. -/
theorem Models.mono {σ : St} {a : Act} {c c' : Ct} (h : Models σ a c) (e : Evo c c') (hn : ∀ i, c'.ok i = true → c.ok i = true)
    (hb : ∀ i o g, σ.obj i = some o → o.excl = true → blk (c.ρ i) = some g → c'.w.heap[g]? = c.w.heap[g]? ∧ c'.pr g = false) : Models σ a c' :=
  ⟨h.defers, h.sz, fun i hi => h.nx i (hn i hi), fun t x ht => ⟨(h.tm t x ht).1, (h.tm t x ht).2.mono e⟩,
   fun i o hi => (h.ob i o hi).mono e (fun ho g hg => hb i o g hi ho hg),
   fun i j o o' g hi hj ho ho' hg hg' => by
    have hin : c.ok i = true := (h.ob i o hi).lt
    have hjn : c.ok j = true := (h.ob j o' hj).lt
    rw [e.ρ i hin] at hg
    rw [e.ρ j hjn] at hg'
    exact h.apart i j o o' g hi hj ho ho' hg hg'⟩

end Go.Am
