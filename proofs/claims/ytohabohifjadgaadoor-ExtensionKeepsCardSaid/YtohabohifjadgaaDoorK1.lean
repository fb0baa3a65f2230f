/- Part 1 of the texts of this proof: an abstract machine for walks, the walks of the functions, plain laws. Each part says in its own first lines what is proved there. -/
import Derived.WalkKit
import Derived.WalkSpells
import Derived.Maps.AppendAt
import Derived.Laws.BitsLemmas
import Derived.StillTail

/- The base of an abstract machine for walks: data without memory, abstract values, how they read in a world, and how a world may grow. Plain definitions and theorems; no program. -/
namespace Go.Am
open Go.RowKit

/-- A datum: a value with all that it leads to, read-only. A slice bears 'none' where each element is one cell, 'some m' where each is a struct of m cells. -/
inductive Dat where
  | bool (b : Bool)
  | int (k : IntKind) (n : Int)
  | str (s : ByteArray)
  | nilIf
  | someIf
  | sl (ek : Option Nat) (xs : List Dat)
  | agg (cs : List Dat)
  | tup (xs : List Dat)
  | nw (n : Nat) (ek : Option Nat) (xs : List Dat)

instance : Inhabited Dat := ⟨.bool false⟩

def Dat.cells : Dat → List Dat
  | .agg cs => cs
  | x => [x]
def Dat.cell (x : Dat) (j : Nat) : Dat := x.cells.getD j default
def Dat.one : Dat → Bool
  | .agg _ => false
  | .tup _ => false
  | _ => true
def esz : Option Nat → Nat
  | none => 1
  | some m => m
/-- An element fits its slice. -/
def Fits (ek : Option Nat) (x : Dat) : Prop := match ek with
  | none => x.one = true
  | some m => ∃ cs, x = .agg cs ∧ cs.length = m ∧ ∀ y ∈ cs, y.one = true

theorem Fits.len {ek : Option Nat} {x : Dat} (h : Fits ek x) : x.cells.length = esz ek := by
  cases ek with
  | none => cases x <;> simp_all [Fits, Dat.one, Dat.cells, esz]
  | some m => obtain ⟨cs, rfl, h1, _⟩ := h; simpa [Dat.cells, esz] using h1
theorem Fits.one {ek : Option Nat} {x : Dat} (h : Fits ek x) : ∀ y ∈ x.cells, y.one = true := by
  cases ek with
  | none => cases x <;> simp_all [Fits, Dat.one, Dat.cells]
  | some m => obtain ⟨cs, rfl, h1, h2⟩ := h; simpa [Dat.cells] using h2

/-- The block that a value leads to. -/
def blk : Value → Option Nat
  | .slice (some a) _ _ => some a.block
  | .pointer (some a) => some a.block
  | .map (some g) => some g
  | _ => none
/-- A block of cells that may be written. -/
def plainB (w : World) (b : Nat) : Bool := match w.heap[b]? with
  | some (.cells _ _ (0, 0)) => true
  | _ => false
theorem plainB_lt {w : World} {b : Nat} (h : plainB w b = true) : b < w.heap.size := by
  unfold plainB at h
  split at h
  · rename_i hb
    exact (Array.getElem?_eq_some_iff.1 hb).1
  · cases h
theorem plainB_of {w : World} {b : Nat} {c : Array Value} {t : TypeId} (h : w.heap[b]? = some (.cells c t (0, 0))) : plainB w b = true := by
  unfold plainB
  rw [h]
  rfl
theorem plainB_inv {w : World} {b : Nat} (h : plainB w b = true) : ∃ c t, w.heap[b]? = some (.cells c t (0, 0)) := by
  unfold plainB at h
  split at h
  · exact ⟨_, _, by assumption⟩
  · cases h

/-- A value is read as a datum; only protected blocks are looked into. -/
inductive RepD (w : World) (pr : Nat → Bool) : Dat → Value → Prop where
  | bool (b) : RepD w pr (.bool b) (.bool b)
  | int (k n) : RepD w pr (.int k n) (.int k n)
  | str (s) : RepD w pr (.str s) (.string s)
  | nilIf : RepD w pr .nilIf .nilIface
  | someIf (t v) : RepD w pr .someIf (.iface t v)
  | nil (ek) : RepD w pr (.sl ek []) (.slice none 0 0)
  | sl (ek) (xs : List Dat) (b off cap : Nat) (spot : Option Nat) (u : Nat → Value) (hc : xs.length ≤ cap) (hm : cap ≤ maxLen) (hs : 0 < xs.length → spot = none)
      (hf : ∀ x ∈ xs, Fits ek x)
      (hu : ∀ (k j : Nat) (x y : Dat), xs[k]? = some x → x.cells[j]? = some y → pr b = true ∧ w.cell? ⟨b, off + (k * esz ek + j), none⟩ = some (u (k * esz ek + j)))
      (hr : ∀ (k j : Nat) (x y : Dat), xs[k]? = some x → x.cells[j]? = some y → RepD w pr y (u (k * esz ek + j))) :
      RepD w pr (.sl ek xs) (.slice (some ⟨b, off, spot⟩) xs.length cap)
  | agg (cs : List Dat) (vs : Array Value) (hl : vs.size = cs.length) (h1 : ∀ y ∈ cs, y.one = true)
      (hr : ∀ (j : Nat) (y : Dat), cs[j]? = some y → RepD w pr y (vs.getD j undef)) : RepD w pr (.agg cs) (.agg vs)
  | tup (cs : List Dat) (vs : Array Value) (hl : vs.size = cs.length)
      (hr : ∀ (j : Nat) (y : Dat), cs[j]? = some y → RepD w pr y (vs.getD j undef)) : RepD w pr (.tup cs) (.tuple vs)
  /-- A slice in a block from n on that may be written. -/
  | nw (n : Nat) (ek : Option Nat) (xs : List Dat) (v : Value) (h : RepD w pr (.sl ek xs) v) (hb : ∀ g, blk v = some g → n ≤ g ∧ pr g = true ∧ plainB w g = true) : RepD w pr (.nw n ek xs) v

theorem RepD.mono {w w' : World} {pr pr' : Nat → Bool} {x : Dat} {v : Value} (h : RepD w pr x v)
    (hk : ∀ b, b < w.heap.size → pr b = true → w'.heap[b]? = w.heap[b]? ∧ pr' b = true) : RepD w' pr' x v := by
  induction h with
  | bool b => exact .bool b
  | int k n => exact .int k n
  | str s => exact .str s
  | nilIf => exact .nilIf
  | someIf t v => exact .someIf t v
  | nil ek => exact .nil ek
  | sl ek xs b off cap spot u hc hm hs hf hu hr ih =>
    refine .sl ek xs b off cap spot u hc hm hs hf (fun k j x y h1 h2 => ?_) ih
    obtain ⟨hp, h3⟩ := hu k j x y h1 h2
    obtain ⟨h4, h5⟩ := hk b (World.block_lt_of_cell? w _ h3) hp
    exact ⟨h5, by rw [← h3]; exact World.cell?_of_block (w := w) h4⟩
  | agg cs vs hl h1 hr ih => exact .agg cs vs hl h1 ih
  | tup cs vs hl hr ih => exact .tup cs vs hl ih
  | nw n ek xs v h hb ih =>
    refine .nw n ek xs v ih fun g hg => ?_
    obtain ⟨h1, h2, h3⟩ := hb g hg
    obtain ⟨h4, h5⟩ := hk g (plainB_lt h3) h2
    exact ⟨h1, h5, by rw [← h3, plainB, plainB, h4]⟩

theorem RepD.oneCell {w : World} {pr : Nat → Bool} {x : Dat} {v : Value} (h : RepD w pr x v) (h1 : x.one = true) : v.oneCell' = true := by
  cases h <;> first | rfl | (simp [Dat.one] at h1; done) | (rename_i h _; cases h <;> rfl)

/-- The element of a slice lies in memory. -/
def MemAt (w : World) (pr : Nat → Bool) (b off : Nat) (x : Dat) : Prop :=
  ∀ (j : Nat) (y : Dat), x.cells[j]? = some y → pr b = true ∧ y.one = true ∧ ∃ u, w.cell? ⟨b, off + j, none⟩ = some u ∧ RepD w pr y u
theorem MemAt.mono {w w' : World} {pr pr' : Nat → Bool} {b off : Nat} {x : Dat} (h : MemAt w pr b off x)
    (hk : ∀ b, b < w.heap.size → pr b = true → w'.heap[b]? = w.heap[b]? ∧ pr' b = true) : MemAt w' pr' b off x := by
  intro j y hy
  obtain ⟨hp, h1, u, hc, hr⟩ := h j y hy
  obtain ⟨h4, h5⟩ := hk b (World.block_lt_of_cell? w _ hc) hp
  exact ⟨h5, h1, u, by rw [← hc]; exact World.cell?_of_block (w := w) h4, hr.mono hk⟩

theorem RepD.sl_inv {w : World} {pr : Nat → Bool} {ek : Option Nat} {xs : List Dat} {v : Value} (h : RepD w pr (.sl ek xs) v) :
    (v = .slice none 0 0 ∧ xs = []) ∨ ∃ b off spot cap, v = .slice (some ⟨b, off, spot⟩) xs.length cap ∧ xs.length ≤ cap ∧ cap ≤ maxLen ∧ (0 < xs.length → spot = none) ∧
      (∀ x ∈ xs, Fits ek x) ∧ ∀ k x, xs[k]? = some x → MemAt w pr b (off + k * esz ek) x := by
  cases h with
  | nil => exact .inl ⟨rfl, rfl⟩
  | sl ek xs b off cap spot u hc hm hs hf hu hr =>
    refine .inr ⟨b, off, spot, cap, rfl, hc, hm, hs, hf, fun k x hk j y hj => ?_⟩
    obtain ⟨hp, h3⟩ := hu k j x y hk hj
    exact ⟨hp, (hf x (List.mem_of_getElem? hk)).one y (List.mem_of_getElem? hj), _, by rw [← h3]; congr 2; omega, hr k j x y hk hj⟩

theorem RepD.sl_mk {w : World} {pr : Nat → Bool} {ek : Option Nat} {xs : List Dat} {b off cap n : Nat} {spot : Option Nat} (hn : n = xs.length) (hc : xs.length ≤ cap) (hm : cap ≤ maxLen) (hs : 0 < xs.length → spot = none)
    (hf : ∀ x ∈ xs, Fits ek x) (hx : ∀ k x, xs[k]? = some x → MemAt w pr b (off + k * esz ek) x) : RepD w pr (.sl ek xs) (.slice (some ⟨b, off, spot⟩) n cap) := by
  subst hn
  refine .sl ek xs b off cap spot (fun i => (w.cell? ⟨b, off + i, none⟩).getD undef) hc hm hs hf (fun k j x y h1 h2 => ?_) (fun k j x y h1 h2 => ?_)
  · obtain ⟨hp, _, u, hu, _⟩ := hx k x h1 j y h2
    rw [Nat.add_assoc] at hu
    exact ⟨hp, by rw [hu]; rfl⟩
  · obtain ⟨hp, _, u, hu, hr⟩ := hx k x h1 j y h2
    rw [Nat.add_assoc] at hu
    rw [hu]
    exact hr

theorem RepD.fits {w : World} {pr : Nat → Bool} {ek : Option Nat} {xs : List Dat} {v : Value} (h : RepD w pr (.sl ek xs) v) : ∀ x ∈ xs, Fits ek x := by
  rcases h.sl_inv with ⟨_, rfl⟩ | ⟨_, _, _, _, _, _, _, _, hf, _⟩
  · simp
  · exact hf

/-- Abstract values of a walk. -/
inductive AV where
  | undef
  | un
  | d (x : Dat)
  | nil (ek : Option Nat)
  | empty (ek : Option Nat)
  | agg (cs : List AV)
  | tup (xs : List AV)
  | ref (i : Nat)
  | ptr (i off : Nat)
  | elt (i : Nat) (ek : Option Nat) (k : Nat)
  | at_ (ek : Option Nat) (x : Dat)
  | fn (f : FuncId) (cap : List AV)

def AV.one : AV → Bool
  | .undef => false
  | .un => false
  | .d x => x.one
  | .agg _ => false
  | .tup _ => false
  | _ => true

/-- A concrete state of a walk: the world; which blocks are protected (read-only from here on); the values of the objects; which objects there are; the blocks below B were there before the call. -/
structure Ct where
  w : World
  pr : Nat → Bool
  ρ : Nat → Value
  ok : Nat → Bool
  B : Nat

inductive Rep (c : Ct) : AV → Value → Prop where
  | undef (v) : Rep c .undef v
  | un : Rep c .un Go.undef
  | d {x v} (h : RepD c.w c.pr x v) : Rep c (.d x) v
  | nil (ek) : Rep c (.nil ek) (.slice none 0 0)
  | empty (ek a) : Rep c (.empty ek) (.slice (some a) 0 0)
  | agg (cs : List AV) (vs : Array Value) (hl : vs.size = cs.length) (h1 : ∀ y ∈ cs, y.one = true) (hr : ∀ (j : Nat) (y : AV), cs[j]? = some y → Rep c y (vs.getD j Go.undef)) : Rep c (.agg cs) (.agg vs)
  | tup (cs : List AV) (vs : Array Value) (hl : vs.size = cs.length) (hr : ∀ (j : Nat) (y : AV), cs[j]? = some y → Rep c y (vs.getD j Go.undef)) : Rep c (.tup cs) (.tuple vs)
  | ref (i) (hi : c.ok i = true) (v) (hv : v = c.ρ i) (h1 : v.oneCell' = true) : Rep c (.ref i) v
  | ptr (i off g) (hi : c.ok i = true) (hg : blk (c.ρ i) = some g) : Rep c (.ptr i off) (.pointer (some ⟨g, off, none⟩))
  | elt (i ek k g) (hi : c.ok i = true) (hg : blk (c.ρ i) = some g) : Rep c (.elt i ek k) (.pointer (some ⟨g, k * esz ek, none⟩))
  | at_ (ek x b off) (hf : Fits ek x) (hm : MemAt c.w c.pr b off x) : Rep c (.at_ ek x) (.pointer (some ⟨b, off, none⟩))
  | fn (f) (cap : List AV) (vs : Array Value) (hl : vs.size = cap.length) (hr : ∀ (j : Nat) (y : AV), cap[j]? = some y → Rep c y (vs.getD j Go.undef)) : Rep c (.fn f cap) (.func (.func f) #[] vs)

/-- How a concrete state may go on: protected blocks stay as they are, and protected; the objects keep their values. -/
structure Evo (c c' : Ct) : Prop where
  os : c'.w.os = c.w.os
  tape : c'.w.tape = c.w.tape
  output : c'.w.output = c.w.output
  size : c.w.heap.size ≤ c'.w.heap.size
  kept : ∀ b, b < c.w.heap.size → c.pr b = true → c'.w.heap[b]? = c.w.heap[b]? ∧ c'.pr b = true
  ok : ∀ i, c.ok i = true → c'.ok i = true
  ρ : ∀ i, c.ok i = true → c'.ρ i = c.ρ i
  B : c'.B = c.B
  low : ∀ b, b < c.B → c'.w.heap[b]? = c.w.heap[b]?
  prlow : ∀ b, b < c.B → c'.pr b = c.pr b

theorem Evo.refl (c : Ct) : Evo c c := ⟨rfl, rfl, rfl, Nat.le_refl _, fun _ _ h => ⟨rfl, h⟩, fun _ h => h, fun _ _ => rfl, rfl, fun _ _ => rfl, fun _ _ => rfl⟩
theorem Evo.trans {a b c : Ct} (h : Evo a b) (k : Evo b c) : Evo a c :=
  ⟨k.os.trans h.os, k.tape.trans h.tape, k.output.trans h.output, Nat.le_trans h.size k.size,
   fun i hi hp => ⟨(k.kept i (Nat.lt_of_lt_of_le hi h.size) (h.kept i hi hp).2).1.trans (h.kept i hi hp).1, (k.kept i (Nat.lt_of_lt_of_le hi h.size) (h.kept i hi hp).2).2⟩,
   fun i hi => k.ok i (h.ok i hi), fun i hi => (k.ρ i (h.ok i hi)).trans (h.ρ i hi), k.B.trans h.B, fun b hb => (k.low b (by rw [h.B]; exact hb)).trans (h.low b hb), fun b hb => (k.prlow b (by rw [h.B]; exact hb)).trans (h.prlow b hb)⟩

theorem Rep.mono {c c' : Ct} {x : AV} {v : Value} (h : Rep c x v) (e : Evo c c') : Rep c' x v := by
  induction h with
  | undef v => exact .undef v
  | un => exact .un
  | d h => exact .d (h.mono e.kept)
  | nil ek => exact .nil ek
  | empty ek a => exact .empty ek a
  | agg cs vs hl h1 hr ih => exact .agg cs vs hl h1 ih
  | tup cs vs hl hr ih => exact .tup cs vs hl ih
  | ref i hi v hv h1 => exact .ref i (e.ok i hi) v (hv.trans (e.ρ i hi).symm) h1
  | ptr i off g hi hg => exact .ptr i off g (e.ok i hi) (by rw [e.ρ i hi]; exact hg)
  | elt i ek k g hi hg => exact .elt i ek k g (e.ok i hi) (by rw [e.ρ i hi]; exact hg)
  | at_ ek x b off hf hm => exact .at_ ek x b off hf (hm.mono e.kept)
  | fn f cap vs hl hr ih => exact .fn f cap vs hl ih

theorem Rep.oneCell {c : Ct} {x : AV} {v : Value} (h : Rep c x v) (h1 : x.one = true) : v.oneCell' = true := by
  cases h with
  | undef => simp [AV.one] at h1
  | un => simp [AV.one] at h1
  | d h => exact h.oneCell h1
  | nil => rfl
  | empty => rfl
  | agg => simp [AV.one] at h1
  | tup => simp [AV.one] at h1
  | ref i hi v hv h1 => exact h1
  | ptr => rfl
  | elt => rfl
  | at_ => rfl
  | fn => rfl

/-- Objects that the walk owns: a variable with an address; a slice that it may write and append to; one that is read-only from here on. -/
inductive AO where
  | box (t : TypeId) (cs : List AV)
  | row (ek : Option Nat) (e : TypeId) (xs : List Dat)
  | frz (ek : Option Nat) (xs : List Dat)
  | map (es : List (Dat × AV))
  | dead
def AO.excl : AO → Bool
  | .frz _ _ => false
  | .dead => false
  | _ => true

/-- The cells of a row of elements. -/
def CellsRep (w : World) (pr : Nat → Bool) (ek : Option Nat) (xs : List Dat) (m : Nat → Option Value) : Prop :=
  ∀ k x, xs[k]? = some x → Fits ek x ∧ ∀ j y, x.cells[j]? = some y → ∃ u, m (k * esz ek + j) = some u ∧ RepD w pr y u
theorem CellsRep.mono {w w' : World} {pr pr' : Nat → Bool} {ek : Option Nat} {xs : List Dat} {m : Nat → Option Value} (h : CellsRep w pr ek xs m)
    (hk : ∀ b, b < w.heap.size → pr b = true → w'.heap[b]? = w.heap[b]? ∧ pr' b = true) : CellsRep w' pr' ek xs m := by
  intro k x hx
  obtain ⟨h1, h2⟩ := h k x hx
  exact ⟨h1, fun j y hy => let ⟨u, a, b⟩ := h2 j y hy; ⟨u, a, b.mono hk⟩⟩

/-- The entries of a map. -/
def EntRep (c : Ct) (es : List (Dat × AV)) (en : List MapEntry) : Prop :=
  en.length = es.length ∧ ∀ (j : Nat) (k : Dat) (x : AV), es[j]? = some (k, x) → ∃ e, en[j]? = some e ∧ RepD c.w c.pr k e.key ∧ Rep c x e.val

def ORep (c : Ct) (i : Nat) : AO → Prop
  | .box t cs => c.ok i = true ∧ ∃ g cur, c.ρ i = .pointer (some ⟨g, 0, none⟩) ∧ c.pr g = false ∧ c.B ≤ g ∧ c.w.heap[g]? = some (.cells cur t (0, 0)) ∧ cur.size = cs.length ∧
      (∀ y ∈ cs, y.one = true) ∧ ∀ j y, cs[j]? = some y → Rep c y (cur.getD j undef)
  | .row ek e xs => c.ok i = true ∧ ∃ vals, c.w.ownsRow c.B e (esz ek) (c.ρ i) xs.length vals ∧ (∀ g, blk (c.ρ i) = some g → c.pr g = false) ∧ CellsRep c.w c.pr ek xs (fun j => vals[j]?)
  | .frz ek xs => (c.ok i = true ∧ ∀ g, blk (c.ρ i) = some g → c.B ≤ g) ∧ RepD c.w c.pr (.sl ek xs) (c.ρ i)
  | .map es => c.ok i = true ∧ ∃ g en, c.ρ i = .map (some g) ∧ c.pr g = false ∧ c.B ≤ g ∧ c.w.heap[g]? = some (.map en en.size) ∧ EntRep c es en.toList
  | .dead => c.ok i = true
theorem ORep.lt {c : Ct} {i : Nat} {o : AO} (h : ORep c i o) : c.ok i = true := by
  cases o <;> first | exact h.1 | exact h.1.1 | exact h

/-- An object stays where its block stays (or is read-only). -/
theorem ORep.mono {c c' : Ct} {i : Nat} {o : AO} (h : ORep c i o) (e : Evo c c')
    (hb : o.excl = true → ∀ g, blk (c.ρ i) = some g → c'.w.heap[g]? = c.w.heap[g]? ∧ c'.pr g = false) : ORep c' i o := by
  cases o with
  | box t cs =>
    obtain ⟨hi, g, cur, hρ, hp, hB, hg, hs, h1, hr⟩ := h
    obtain ⟨h2, h3⟩ := hb rfl g (by rw [hρ]; rfl)
    exact ⟨e.ok i hi, g, cur, (e.ρ i hi).trans hρ, h3, by rw [e.B]; exact hB, h2.trans hg, hs, h1, fun j y hy => (hr j y hy).mono e⟩
  | row ek t xs =>
    obtain ⟨hi, vals, ho, hp, hc⟩ := h
    refine ⟨e.ok i hi, vals, ?_, fun g hg => ?_, hc.mono e.kept⟩
    · rw [e.ρ i hi, e.B]
      refine ⟨ho.1, ?_⟩
      rcases ho.2 with hn | ⟨g, cap, cur, hv, hb0, hg, rest⟩
      · exact .inl hn
      · exact .inr ⟨g, cap, cur, hv, hb0, (hb rfl g (by rw [hv]; rfl)).1.trans hg, rest⟩
    · rw [e.ρ i hi] at hg
      exact (hb rfl g hg).2
  | frz ek xs => exact ⟨⟨e.ok i h.1.1, by rw [e.ρ i h.1.1, e.B]; exact h.1.2⟩, by rw [e.ρ i h.1.1]; exact h.2.mono e.kept⟩
  | map es =>
    obtain ⟨hi, g, en, hρ, hp, hB, hg, hs, hr⟩ := h
    obtain ⟨h2, h3⟩ := hb rfl g (by rw [hρ]; rfl)
    exact ⟨e.ok i hi, g, en, (e.ρ i hi).trans hρ, h3, by rw [e.B]; exact hB, h2.trans hg, hs, fun j k x hj => let ⟨q, a, b, d⟩ := hr j k x hj; ⟨q, a, b.mono e.kept, d.mono e⟩⟩
  | dead => exact e.ok i h

/-- An abstract state: how many slots the frame has; what is known of slots; the objects; how many numbers of objects are used up. -/
structure St where
  sz : Nat
  tm : List (Nat × AV)
  ob : List (Nat × AO)
  nx : Nat

def look {α : Type} (t : Nat) : List (Nat × α) → Option α
  | [] => none
  | (k, x) :: r => match Nat.beq k t with
    | true => some x
    | false => look t r
def St.get (σ : St) (t : Nat) : Option AV := look t σ.tm
def St.obj (σ : St) (i : Nat) : Option AO := look i σ.ob
def St.put (σ : St) (dst : Option Tmp) (x : AV) : St := match dst with
  | none => σ
  | some d => { σ with tm := (d, x) :: σ.tm }

structure Models (σ : St) (a : Act) (c : Ct) : Prop where
  defers : a.defers = []
  sz : a.tmps.size = σ.sz
  nx : ∀ i, c.ok i = true → i < σ.nx
  tm : ∀ t x, σ.get t = some x → t < σ.sz ∧ Rep c x (a.tmps.getD t undef)
  ob : ∀ i o, σ.obj i = some o → ORep c i o
  apart : ∀ i j o o' g, σ.obj i = some o → σ.obj j = some o' → o.excl = true → o'.excl = true → blk (c.ρ i) = some g → blk (c.ρ j) = some g → i = j

theorem look_cons {α : Type} (k t : Nat) (x : α) (r : List (Nat × α)) : look t ((k, x) :: r) = if k = t then some x else look t r := by
  by_cases h : k = t
  · subst h; simp [look]
  · have hb : Nat.beq k t = false := by
      cases hb : Nat.beq k t with
      | false => rfl
      | true => exact absurd (Nat.eq_of_beq_eq_true hb) h
    rw [if_neg h, look]
    simp only [hb]

theorem Models.put {σ : St} {a : Act} {c : Ct} (h : Models σ a c) {dst : Option Tmp} {x : AV} {v : Value} (hv : Rep c x v) (hd : ∀ d, dst = some d → d < σ.sz) : Models (σ.put dst x) (a.put dst v) c := by
  cases dst with
  | none => exact h
  | some d =>
    refine ⟨h.defers, by simpa [Act.put, St.put] using h.sz, h.nx, fun t y ht => ?_, h.ob, h.apart⟩
    have hds := hd d rfl
    rw [St.get, St.put, look_cons] at ht
    split at ht
    · rename_i e
      subst e
      cases ht
      have hlt : d < a.tmps.size := by rw [h.sz]; exact hds
      exact ⟨hds, by simpa [Act.put, hlt] using hv⟩
    · rename_i hne
      obtain ⟨h1, h2⟩ := h.tm t y ht
      refine ⟨h1, ?_⟩
      simpa [Act.put, Array.getElem?_setIfInBounds_ne hne] using h2

/-- The objects stay, the frame stays, the concrete state goes on. -/
theorem Models.mono {σ : St} {a : Act} {c c' : Ct} (h : Models σ a c) (e : Evo c c') (hn : ∀ i, c'.ok i = true → c.ok i = true)
    (hb : ∀ i o g, σ.obj i = some o → o.excl = true → blk (c.ρ i) = some g → c'.w.heap[g]? = c.w.heap[g]? ∧ c'.pr g = false) : Models σ a c' :=
  ⟨h.defers, h.sz, fun i hi => h.nx i (hn i hi), fun t x ht => ⟨(h.tm t x ht).1, (h.tm t x ht).2.mono e⟩,
   fun i o hi => (h.ob i o hi).mono e (fun ho g hg => hb i o g hi ho hg),
   fun i j o o' g hi hj ho ho' hg hg' => by
    have hin : c.ok i = true := (h.ob i o hi).lt
    have hjn : c.ok j = true := (h.ob j o' hj).lt
    rw [e.ρ i hin] at hg
    rw [e.ρ j hjn] at hg'
    exact h.apart i j o o' g hi hj ho ho' hg hg'⟩

end Go.Am

/- The abstract machine, second part: a table of types; operations that leave the world as it is, computed on abstract values, and why that is right. No program. -/
namespace Go.Am
open Go.RowKit
set_option linter.unusedSimpArgs false
set_option linter.unusedVariables false

structure TI where
  desc : TypeDesc
  size : Nat
  bytes : Nat
  zero : Value
  zd : List Dat

def TI.agg (i : TI) : Bool := match i.desc with
  | .struct _ => true
  | .array _ _ => true
  | _ => false
def TI.ek (i : TI) : Option Nat := match i.agg with
  | true => some i.size
  | false => none

/-- The zero value of a slice is nil. -/
def isNilSl : Dat → Bool
  | .sl _ [] => true
  | _ => false
def isNilV : Value → Bool
  | .slice none 0 0 => true
  | _ => false
theorem isNilV_eq {v : Value} (h : isNilV v = true) : v = .slice none 0 0 := by
  unfold isNilV at h
  split at h
  · rfl
  · cases h
def znilB : List Dat → List Value → Bool
  | [], _ => true
  | d :: ds, v :: vs => (!isNilSl d || isNilV v) && znilB ds vs
  | _ :: _, [] => false
theorem znilB_get : ∀ {ds : List Dat} {vs : List Value}, znilB ds vs = true → ∀ (j : Nat) (ek : Option Nat), ds[j]? = some (.sl ek []) → vs.getD j undef = .slice none 0 0
  | [], _, _, j, ek, h => by simp at h
  | d :: ds, [], hb, j, ek, h => by cases hb
  | d :: ds, v :: vs, hb, 0, ek, h => by
    simp at h
    subst h
    simp only [znilB, isNilSl, Bool.not_true, Bool.false_or, Bool.and_eq_true] at hb
    simpa using isNilV_eq hb.1
  | d :: ds, v :: vs, hb, j + 1, ek, h => by
    simp only [znilB, Bool.and_eq_true] at hb
    simpa using znilB_get hb.2 j ek (by simpa using h)
structure TyOk (P : Program) (ty : TypeId → Option TI) : Prop where
  und : ∀ t i, ty t = some i → P.underlying t = some i.desc
  info : ∀ t i, ty t = some i → ∃ j, P.info? t = some j ∧ j.size = i.size ∧ j.bytes = i.bytes ∧ j.zero = some i.zero
  one : ∀ t i, ty t = some i → i.agg = false → i.size = 1
  zsize : ∀ t i, ty t = some i → i.zero.cells.size = i.size ∧ i.zd.length = i.size
  zone : ∀ t i, ty t = some i → ∀ y ∈ i.zd, y.one = true
  zrep : ∀ t i, ty t = some i → ∀ w pr j y, i.zd[j]? = some y → RepD w pr y (i.zero.cells.getD j undef)
  znil : ∀ t i, ty t = some i → znilB i.zd i.zero.cells.toList = true
  places : ∀ t i, ty t = some i → ∀ fields, i.desc = .struct fields → ∃ places, fields.toList.mapM (fun f => (P.info? f.type).map fun i => (f.offset, i.size)) = some places

section
variable {P : Program} {ty : TypeId → Option TI}

theorem TI.esz_ek {i : TI} (h1 : i.agg = false → i.size = 1) : esz i.ek = i.size := by
  unfold TI.ek
  cases h : i.agg <;> simp [esz]
  exact (h1 h).symm

theorem TyOk.esz (hT : TyOk P ty) {t i} (h : ty t = some i) : esz i.ek = i.size := TI.esz_ek (hT.one t i h)
theorem TyOk.run_und (hT : TyOk P ty) {t i} (h : ty t = some i) (w : World) : (underlying t).run P w = .ok i.desc w := run_underlying (hT.und t i h) w
theorem TyOk.run_size (hT : TyOk P ty) {t i} (h : ty t = some i) (w : World) : (sizeOf t).run P w = .ok i.size w := by
  obtain ⟨j, hj, hs, _, _⟩ := hT.info t i h
  simp [sizeOf, typeInfo, hj, hs]
theorem TyOk.run_agg (hT : TyOk P ty) {t i} (h : ty t = some i) (w : World) : (isAgg t).run P w = .ok i.agg w := by
  unfold isAgg TI.agg
  simp only [Sem.run_bind, hT.run_und h, Result.andThen_ok]
  cases i.desc <;> rfl

/-- A constant. -/
def cav (ty : TypeId → Option TI) (t : TypeId) : Value → Option AV
  | .bool b => some (.d (.bool b))
  | .int k n => some (.d (.int k n))
  | .string s => some (.d (.str s))
  | .nilIface => some (.d .nilIf)
  | .slice none 0 0 => match ty t with
    | some ⟨.slice e, _, _, _, _⟩ => match ty e with
      | some i => some (.nil i.ek)
      | none => none
    | _ => none
  | _ => none
def St.ev (σ : St) (ty : TypeId → Option TI) (t : TypeId) : Operand → Option AV
  | .tmp s => σ.get s
  | .const v => cav ty t v
  | .func f => some (.fn f [])
  | .global _ => none

theorem ev_sound {σ : St} {a : Act} {c : Ct} (hM : Models σ a c) {t : TypeId} {x : Operand} {y : AV} (h : σ.ev ty t x = some y) : Rep c y (a.eval x) := by
  cases x with
  | tmp s => exact (hM.tm s y h).2
  | const v =>
    simp only [St.ev] at h
    unfold cav at h
    split at h
    all_goals first | (cases h; first | exact .d (.bool _) | exact .d (.int _ _) | exact .d (.str _) | exact .d .nilIf) | skip
    · split at h
      · split at h
        · cases h; exact .nil _
        · cases h
      · cases h
    · cases h
  | func f =>
    simp only [St.ev] at h
    cases h
    exact .fn f [] #[] rfl (by simp)
  | global g => cases h

/-! ### Arithmetic -/
def shft (op : BinOp) (k : IntKind) (a b : Int) : Int := match op with
  | .shl => k.wrap (a * 2 ^ (min b.toNat k.bits))
  | _ => a.fdiv (2 ^ (min b.toNat k.bits))
/-- What does not run over; other kinds than int may. -/
def wr (k : IntKind) (n : Int) : Option (Prop × Dat) := match k with
  | .i64 => some (-9223372036854775808 ≤ n ∧ n ≤ 9223372036854775807, .int .i64 n)
  | k => some (True, .int k (k.wrap n))
theorem wr_sound {k : IntKind} {n : Int} {p : Prop} {y : Dat} (h : wr k n = some (p, y)) (hp : p) : y = .int k (k.wrap n) := by
  unfold wr at h
  split at h
  · simp only [Option.some.injEq, Prod.mk.injEq] at h
    obtain ⟨rfl, rfl⟩ := h
    congr 1
    rw [IntKind.wrap_i64]
    omega
  · simp only [Option.some.injEq, Prod.mk.injEq] at h
    exact h.2.symm
def arith (op : BinOp) (k : IntKind) (a b : Int) : Option (Prop × Dat) := match op with
  | .add => wr k (a + b)
  | .sub => wr k (a - b)
  | .mul => wr k (a * b)
  | .quo => some (b ≠ 0, .int k (k.wrap (a.tdiv b)))
  | .rem => some (b ≠ 0, .int k (a.tmod b))
  | .and => some (True, .int k (bits .and k a b))
  | .or => some (True, .int k (bits .or k a b))
  | .xor => some (True, .int k (bits .xor k a b))
  | .andNot => some (True, .int k (bits .andNot k a b))
  | .eql => some (True, .bool (a == b))
  | .neq => some (True, .bool (a != b))
  | .lss => some (True, .bool (decide (a < b)))
  | .leq => some (True, .bool (decide (a ≤ b)))
  | .gtr => some (True, .bool (decide (a > b)))
  | .geq => some (True, .bool (decide (a ≥ b)))
  | _ => none
def strOp (op : BinOp) (x y : ByteArray) : Option (Prop × Dat) := match op with
  | .add => some (x.size + y.size ≤ 9223372036854775807, .str (x ++ y))
  | .eql => some (True, .bool (decide (x = y)))
  | .neq => some (True, .bool (!decide (x = y)))
  | _ => none
def kindB : IntKind → IntKind → Bool
  | .i8, .i8 => true
  | .i16, .i16 => true
  | .i32, .i32 => true
  | .i64, .i64 => true
  | .u8, .u8 => true
  | .u16, .u16 => true
  | .u32, .u32 => true
  | .u64, .u64 => true
  | _, _ => false
theorem kindB_eq {k k' : IntKind} (h : kindB k k' = true) : k = k' := by cases k <;> cases k' <;> simp_all [kindB]
def binDat (op : BinOp) (xt : Option TI) : Dat → Dat → Option (Prop × Dat)
  | .int k a, .int k' b => match op with
    | .shl => some (0 ≤ b, .int k (shft .shl k a b))
    | .shr => some (0 ≤ b, .int k (shft .shr k a b))
    | op => match kindB k k' with
      | true => arith op k a b
      | false => none
  | .str a, .str b => strOp op a b
  | .bool a, .bool b => match xt with
    | some ⟨.bool, _, _, _, _⟩ => match op with
      | .eql => some (True, .bool (a == b))
      | .neq => some (True, .bool (a != b))
      | _ => none
    | _ => none
  | _, _ => none

theorem byteArray_toList_eq (x y : ByteArray) : (x.toList == y.toList) = decide (x = y) := by
  by_cases h : x = y
  · subst h; simp
  · have : x.toList ≠ y.toList := by
      intro e
      apply h
      rw [ByteArray.toList_eq, ByteArray.toList_eq] at e
      cases x; cases y
      simp only [ByteArray.mk.injEq]
      exact Array.toList_inj.1 e
    simp [h, this]

theorem arith_sound {op : BinOp} {k : IntKind} {a b : Int} {p : Prop} {y : Dat} (h : arith op k a b = some (p, y)) (hp : p) (t : TypeId) (w : World) (pr : Nat → Bool) :
    ∃ v, (binOp op t (.int k a) (.int k b)).run P w = .ok v w ∧ RepD w pr y v := by
  by_cases h3 : op = .add ∨ op = .sub ∨ op = .mul
  · rcases h3 with rfl | rfl | rfl
    · exact ⟨.int k (k.wrap (a + b)), by simp [binOp_add, Op.intArith], by rw [wr_sound h hp]; exact .int _ _⟩
    · exact ⟨.int k (k.wrap (a - b)), by simp [binOp_sub, Op.intArith], by rw [wr_sound h hp]; exact .int _ _⟩
    · exact ⟨.int k (k.wrap (a * b)), by simp [binOp_mul, Op.intArith], by rw [wr_sound h hp]; exact .int _ _⟩
  cases op <;> simp only [arith, Option.some.injEq, Prod.mk.injEq, reduceCtorEq, true_or, or_true, not_true] at h h3 <;> obtain ⟨rfl, rfl⟩ := h
  case quo => exact ⟨_, by simp [binOp_quo, Op.intDiv, hp], .int _ _⟩
  case rem => exact ⟨_, by simp [binOp_rem, Op.intDiv, hp], .int _ _⟩
  case and => exact ⟨_, by rw [binOp_and, intBits_and]; rfl, .int _ _⟩
  case or => exact ⟨_, by rw [binOp_or, intBits_or]; rfl, .int _ _⟩
  case xor => exact ⟨_, by rw [binOp_xor, intBits_xor]; rfl, .int _ _⟩
  case andNot => exact ⟨_, by rw [binOp_andNot, intBits_andNot]; rfl, .int _ _⟩
  case eql => exact ⟨_, by rw [binOp_eql]; rfl, .bool _⟩
  case neq => exact ⟨_, by rw [binOp_neq]; rfl, .bool _⟩
  case lss => exact ⟨_, by rw [binOp_lss]; rfl, .bool _⟩
  case leq => exact ⟨_, by rw [binOp_leq]; rfl, .bool _⟩
  case gtr => exact ⟨_, by rw [binOp_gtr]; rfl, .bool _⟩
  case geq => exact ⟨_, by rw [binOp_geq]; rfl, .bool _⟩

theorem eqGuard_bare (op : BinOp) (t : TypeId) (x y : Operand) (a b : Value) (ha : ∀ cs, a ≠ .agg cs) (hn : a ≠ .nilIface) : eqGuard op t x y a b = pure () := by
  cases a <;> first | (cases op <;> rfl) | exact absurd rfl hn | exact absurd rfl (ha _)

theorem run_equal_bool {t : TypeId} (hu : P.underlying t = some .bool) (a b : Bool) (w : World) : (Op.equal t (.bool a) (.bool b)).run P w = .ok (a == b) w := by
  have h : ∀ d : Nat, (Op.equalIn (d + 1) t (.bool a) (.bool b)).run P w = .ok (a == b) w := fun d => by
    simp only [Op.equalIn, Sem.run_bind, run_underlying hu, Result.andThen_ok]
    rfl
  exact h 9999
theorem run_eql_bool {t : TypeId} (hu : P.underlying t = some .bool) (a b : Bool) (w : World) : (binOp .eql t (.bool a) (.bool b)).run P w = .ok (.bool (a == b)) w := by
  show (do pure (Value.bool (← Op.equal t (.bool a) (.bool b))) : Sem Value).run P w = _
  simp only [Sem.run_bind, run_equal_bool hu, Result.andThen_ok]
  rfl
theorem run_neq_bool {t : TypeId} (hu : P.underlying t = some .bool) (a b : Bool) (w : World) : (binOp .neq t (.bool a) (.bool b)).run P w = .ok (.bool (a != b)) w := by
  show (do pure (Value.bool (!(← Op.equal t (.bool a) (.bool b)))) : Sem Value).run P w = _
  simp only [Sem.run_bind, run_equal_bool hu, Result.andThen_ok]
  rfl
theorem binDat_sound (hT : TyOk P ty) {op : BinOp} {t : TypeId} {x y z : Dat} {p : Prop} (h : binDat op (ty t) x y = some (p, z)) (hp : p) {w : World} {pr : Nat → Bool} {v u : Value}
    (hx : RepD w pr x v) (hy : RepD w pr y u) (a b : Operand) : ∃ r, (do eqGuard op t a b v u; binOp op t v u : Sem Value).run P w = .ok r w ∧ RepD w pr z r := by
  unfold binDat at h
  split at h
  · cases hx; cases hy
    rw [eqGuard_bare _ _ _ _ _ _ (by simp) (by simp)]
    split at h
    · simp only [Option.some.injEq, Prod.mk.injEq] at h
      obtain ⟨rfl, rfl⟩ := h
      refine ⟨_, ?_, .int _ _⟩
      simp [binOp_shl, Op.shift, shft, Int.not_lt.2 hp]
    · simp only [Option.some.injEq, Prod.mk.injEq] at h
      obtain ⟨rfl, rfl⟩ := h
      refine ⟨_, ?_, .int _ _⟩
      simp [binOp_shr, Op.shift, shft, Int.not_lt.2 hp]
    · split at h
      · rename_i hk
        have := kindB_eq hk
        subst this
        obtain ⟨r, hr, hz⟩ := arith_sound (P := P) h hp t w pr
        exact ⟨r, by simpa using hr, hz⟩
      · cases h
  · cases hx; cases hy
    rw [eqGuard_bare _ _ _ _ _ _ (by simp) (by simp)]
    cases op <;> simp only [strOp, Option.some.injEq, Prod.mk.injEq, reduceCtorEq] at h <;> obtain ⟨rfl, rfl⟩ := h
    case add =>
      refine ⟨_, ?_, .str _⟩
      rename_i x y
      have hq : ¬ ((x.size + y.size : Nat) : Int) > IntKind.i64.max := by simp only [IntKind.max_i64]; omega
      simp only [Sem.run_bind, Sem.run_pure, Result.andThen_ok, binOp, Op.stringOp, if_neg hq]
    case eql => exact ⟨_, by simp [binOp_string_eql, byteArray_toList_eq], .bool _⟩
    case neq => exact ⟨_, by simp [binOp_string_neq, byteArray_toList_eq], .bool _⟩
  · cases hx; cases hy
    rw [eqGuard_bare _ _ _ _ _ _ (by simp) (by simp)]
    split at h
    · rename_i s b z zd ht
      have hu : P.underlying t = some .bool := hT.und t _ ht
      split at h
      · simp only [Option.some.injEq, Prod.mk.injEq] at h
        obtain ⟨rfl, rfl⟩ := h
        exact ⟨_, by simp only [Sem.run_bind, Sem.run_pure, Result.andThen_ok, run_eql_bool hu], .bool _⟩
      · simp only [Option.some.injEq, Prod.mk.injEq] at h
        obtain ⟨rfl, rfl⟩ := h
        exact ⟨_, by simp only [Sem.run_bind, Sem.run_pure, Result.andThen_ok, run_neq_bool hu], .bool _⟩
      · cases h
    · cases h
  · cases h

/-! ### Slices -/
def St.sl (σ : St) : AV → Option (Option Nat × List Dat)
  | .d (.sl ek xs) => some (ek, xs)
  | .nil ek => some (ek, [])
  | .ref i => match σ.obj i with
    | some (.row ek _ xs) => some (ek, xs)
    | some (.frz ek xs) => some (ek, xs)
    | _ => none
  | _ => none
def SlAt (w : World) (pr : Nat → Bool) (ek : Option Nat) (xs : List Dat) (v : Value) : Prop :=
  ∃ A cap, v = .slice A xs.length cap ∧ xs.length ≤ cap ∧ cap ≤ maxLen ∧ (∀ x ∈ xs, Fits ek x) ∧ (A = none → cap = 0) ∧
    (0 < xs.length → ∃ b off, A = some ⟨b, off, none⟩ ∧ ∀ k x, xs[k]? = some x → ∀ j y, x.cells[j]? = some y → ∃ u, w.cell? ⟨b, off + k * esz ek + j, none⟩ = some u ∧ RepD w pr y u)
theorem SlAt.of_rep {w : World} {pr : Nat → Bool} {ek : Option Nat} {xs : List Dat} {v : Value} (h : RepD w pr (.sl ek xs) v) : SlAt w pr ek xs v := by
  rcases h.sl_inv with ⟨rfl, rfl⟩ | ⟨b, off, spot, cap, rfl, hc, hm, hs, hf, hx⟩
  · exact ⟨none, 0, rfl, by simp, by simp [maxLen], by simp, fun _ => rfl, by simp⟩
  · refine ⟨_, cap, rfl, hc, hm, hf, by simp, fun hl => ⟨b, off, by rw [hs hl], fun k x hk j y hj => ?_⟩⟩
    obtain ⟨_, _, u, hu, hr⟩ := hx k x hk j y hj
    exact ⟨u, hu, hr⟩
theorem SlAt.of_row {c : Ct} {i : Nat} {ek : Option Nat} {e : TypeId} {xs : List Dat} (h : ORep c i (.row ek e xs)) : SlAt c.w c.pr ek xs (c.ρ i) := by
  obtain ⟨_, vals, ho, hp, hcr⟩ := h
  have hf : ∀ x ∈ xs, Fits ek x := by
    intro x hx
    obtain ⟨k, hk⟩ := List.mem_iff_getElem?.1 hx
    exact (hcr k x hk).1
  rcases ho.2 with ⟨hn, h0⟩ | ⟨g, cap, cur, hv, _, hg, hnc, hcm, hcs, htake⟩
  · refine ⟨none, 0, by rw [hn, h0], by omega, by simp [maxLen], hf, fun _ => rfl, by omega⟩
  · refine ⟨_, cap, hv, hnc, hcm, hf, by simp, fun hl => ⟨g, 0, rfl, fun k x hk j y hj => ?_⟩⟩
    obtain ⟨u, hu, hr⟩ := (hcr k x hk).2 j y hj
    refine ⟨u, ?_, hr⟩
    have := ho.cells (g := g) (by rw [hv]; rfl) _ u hu
    rw [Addr.add_lit] at this
    rw [← this]
    congr 2
    omega
theorem sl_sound {σ : St} {a : Act} {c : Ct} (hM : Models σ a c) {x : AV} {ek : Option Nat} {xs : List Dat} {v : Value} (h : σ.sl x = some (ek, xs)) (hv : Rep c x v) : SlAt c.w c.pr ek xs v := by
  unfold St.sl at h
  split at h
  · cases h
    cases hv with
    | d h => exact .of_rep h
  · cases h
    cases hv
    exact ⟨none, 0, rfl, by simp, by simp [maxLen], by simp, fun _ => rfl, by simp⟩
  · cases hv with
    | ref i hi v hv h1 =>
      subst hv
      split at h
      · rename_i ho
        cases h
        exact .of_row (hM.ob _ _ ho)
      · rename_i ho
        cases h
        exact .of_rep (hM.ob _ _ ho).2
      · cases h
  · cases h

def Dat.toU8 : Dat → UInt8
  | .int _ n => UInt8.ofNat n.toNat
  | _ => 0
def Dat.isU8 : Dat → Bool
  | .int .u8 _ => true
  | _ => false
def strOf (xs : List Dat) : ByteArray := ⟨(xs.map Dat.toU8).toArray⟩
def ekB : Option Nat → Option Nat → Bool
  | none, none => true
  | some a, some b => Nat.beq a b
  | _, _ => false
theorem ekB_eq {a b : Option Nat} (h : ekB a b = true) : a = b := by
  cases a <;> cases b <;> simp_all [ekB]
end
end Go.Am

/- The abstract machine, third part: one operation that leaves the world as it is, computed on abstract values, and why that is right. No program. -/
namespace Go.Am
open Go.RowKit
set_option linter.unusedSimpArgs false
set_option linter.unusedVariables false

section
variable {P : Program} {ty : TypeId → Option TI}

def setAll (cells : List AV) (off : Nat) : List AV → List AV
  | [] => cells
  | x :: r => setAll (cells.set off x) (off + 1) r
def avCells (size : Nat) : AV → Option (List AV)
  | .agg cs => match Nat.beq cs.length size with
    | true => some cs
    | false => none
  | .d (.agg cs) => match Nat.beq cs.length size with
    | true => some (cs.map .d)
    | false => none
  | x => match x.one, size with
    | true, 1 => some [x]
    | _, _ => none
def zav : Dat → AV
  | .sl ek [] => .nil ek
  | x => .d x
def fillA (ty : TypeId → Option TI) (fields : Array Field) (cells : List AV) : List (Nat × AV) → Option (List AV)
  | [] => some cells
  | (i, x) :: r => match fields[i]? with
    | none => none
    | some f => match ty f.type with
      | none => none
      | some ti => match avCells ti.size x, Nat.ble (f.offset + ti.size) cells.length with
        | some cs, true => fillA ty fields (setAll cells f.offset cs) r
        | _, _ => none
def fieldType (fields : Array Field) (i : Nat) : TypeId := match fields[i]? with
  | some f => f.type
  | none => 0
def evParts (σ : St) (ty : TypeId → Option TI) (tf : Nat → TypeId) : List (Nat × Operand) → Option (List (Nat × AV))
  | [] => some []
  | (i, x) :: r => match σ.ev ty (tf i) x, evParts σ ty tf r with
    | some y, some l => some ((i, y) :: l)
    | _, _ => none
def evAll (σ : St) (ty : TypeId → Option TI) : List Operand → List TypeId → Option (List AV)
  | [], _ => some []
  | x :: r, t :: ts => match σ.ev ty t x, evAll σ ty r ts with
    | some y, some l => some (y :: l)
    | _, _ => none
  | x :: r, [] => match σ.ev ty 0 x, evAll σ ty r [] with
    | some y, some l => some (y :: l)
    | _, _ => none

def loadAV (σ : St) (i : TI) : AV → Option (Prop × AV)
  | .ptr o off => match σ.obj o with
    | some (.box _ cs) => match i.agg with
      | true => match Nat.ble (off + i.size) cs.length with
        | true => some (True, .agg ((cs.drop off).take i.size))
        | false => none
      | false => match cs[off]? with
        | some y => some (True, y)
        | none => none
    | _ => none
  | .elt o ek k => match σ.obj o with
    | some (.row ek' _ xs) => match ekB ek ek', ekB ek i.ek with
      | true, true => some (k < xs.length, .d (xs.getD k default))
      | _, _ => none
    | _ => none
  | .at_ ek x => match ekB ek i.ek with
    | true => some (True, .d x)
    | false => none
  | _ => none

/-! What is read out of a row is given its form: so that the walk can go on with an element that is not written out. -/
def Dat.num : Dat → Int
  | .int _ n => n
  | _ => 0
def Dat.tru : Dat → Bool
  | .bool b => b
  | _ => false
def Dat.txt : Dat → ByteArray
  | .str s => s
  | _ => ⟨#[]⟩
def Dat.els : Dat → List Dat
  | .sl _ xs => xs
  | _ => []
def canonD (ty : TypeId → Option TI) (d : TypeDesc) (x : Dat) : Option Dat := match d with
  | .int k => some (.int k x.num)
  | .bool => some (.bool x.tru)
  | .string => some (.str x.txt)
  | .slice e => match ty e with
    | some ei => match ei.ek with
      | none => some (.sl none x.els)
      | some m => some (.sl (some m) x.els)
    | none => none
  | _ => none
def canonL (ty : TypeId → Option TI) (x : Dat) : List Field → Option (List Dat)
  | [] => some []
  | f :: r => match ty f.type with
    | some fi => match canonD ty fi.desc (x.cell f.offset), canonL ty x r with
      | some d, some l => some (d :: l)
      | _, _ => none
    | none => none
def canonT (ty : TypeId → Option TI) (i : TI) (x : Dat) : Option Dat := match i.desc with
  | .struct fields => match Nat.beq fields.size i.size with
    | true => match canonL ty x fields.toList with
      | some l => some (.agg l)
      | none => none
    | false => none
  | d => canonD ty d x
def canonP (ty : TypeId → Option TI) (i : TI) (p : Prop) (x : Dat) : Option (Prop × AV) := match canonT ty i x with
  | some d => some (p ∧ x = d, .d d)
  | none => some (p, .d x)
def canonA (ty : TypeId → Option TI) (i : TI) : AV → Option (Prop × AV) → Option (Prop × AV)
  | .elt _ _ _, some (p, .d x) => canonP ty i p x
  | .at_ _ _, some (p, .d x) => canonP ty i p x
  | _, r => r
theorem canonP_sound {c : Ct} {i : TI} {x : Dat} {z : AV} {q p : Prop} (h : canonP ty i q x = some (p, z)) (hp : p) : q ∧ ∀ u, Rep c (.d x) u → Rep c z u := by
  unfold canonP at h
  split at h
  · simp only [Option.some.injEq, Prod.mk.injEq] at h
    obtain ⟨rfl, rfl⟩ := h
    exact ⟨hp.1, fun u hu => by rw [← hp.2]; exact hu⟩
  · simp only [Option.some.injEq, Prod.mk.injEq] at h
    obtain ⟨rfl, rfl⟩ := h
    exact ⟨hp, fun u hu => hu⟩
theorem canonA_sound {c : Ct} {i : TI} {y z : AV} {r : Option (Prop × AV)} {p : Prop} (h : canonA ty i y r = some (p, z)) (hp : p) : ∃ q z', r = some (q, z') ∧ q ∧ ∀ u, Rep c z' u → Rep c z u := by
  unfold canonA at h
  split at h
  · exact ⟨_, _, rfl, canonP_sound h hp⟩
  · exact ⟨_, _, rfl, canonP_sound h hp⟩
  · exact ⟨_, _, h, hp, fun u hu => hu⟩

def boundsA (len : Nat) (lo hi mx : Option AV) : Option (Prop × Nat × Nat) :=
  match lo, hi, mx with
  | none, none, none => some (True, 0, len)
  | some (.d (.int _ l)), none, none => some (0 ≤ l ∧ l ≤ len, l.toNat, len)
  | none, some (.d (.int _ h)), none => some (0 ≤ h ∧ h ≤ len, 0, h.toNat)
  | some (.d (.int _ l)), some (.d (.int _ h)), none => some (0 ≤ l ∧ l ≤ h ∧ h ≤ len, l.toNat, h.toNat)
  | some (.d (.int _ l)), some (.d (.int _ h)), some (.d (.int _ m)) => some (0 ≤ l ∧ l ≤ h ∧ h ≤ m ∧ m ≤ len, l.toNat, h.toNat)
  | _, _, _ => none
def cutL {α : Type} (xs : List α) (l h : Nat) : List α := (xs.take h).drop l
def evO (σ : St) (ty : TypeId → Option TI) (t : TypeId) : Option Operand → Option (Option AV)
  | none => some none
  | some x => match σ.ev ty t x with
    | some y => some (some y)
    | none => none
def sliceA (σ : St) (x : AV) (lo hi mx : Option AV) : Option (Prop × AV) :=
  match x with
  | .d (.str s) => match mx with
    | none => match boundsA s.size lo hi none with
      | some (p, l, h) => some (p, .d (.str (s.extract l h)))
      | none => none
    | some _ => none
  | .ref i => match σ.obj i with
    | some (.frz ek xs) => match boundsA xs.length lo hi mx with
      | some (p, l, h) => some (p, .d (.sl ek (cutL xs l h)))
      | none => none
    | _ => none
  | .d (.sl ek xs) => match boundsA xs.length lo hi mx with
    | some (p, l, h) => some (p, .d (.sl ek (cutL xs l h)))
    | none => none
  | .nil ek => match boundsA 0 lo hi mx with
    | some (p, _, _) => some (p, .nil ek)
    | none => none
  | _ => none

def indexA (σ : St) (ei : TI) (x : AV) (n : Int) : Option (Prop × AV) :=
  match x with
  | .d (.sl ek xs) => match ekB ek ei.ek with
    | true => some (0 ≤ n ∧ n < xs.length, .at_ ek (xs.getD n.toNat default))
    | false => none
  | .ref i => match σ.obj i with
    | some (.row ek _ xs) => match ekB ek ei.ek with
      | true => some (0 ≤ n ∧ n < xs.length, .elt i ek n.toNat)
      | false => none
    | some (.frz ek xs) => match ekB ek ei.ek with
      | true => some (0 ≤ n ∧ n < xs.length, .at_ ek (xs.getD n.toNat default))
      | false => none
    | _ => none
  | _ => none

def fieldA (fi : TI) (off : Nat) : AV → Option AV
  | .ptr o k => some (.ptr o (k + off))
  | .at_ (some m) x => match Nat.ble (off + fi.size) m with
    | true => match fi.agg with
      | true => some (.at_ fi.ek (.agg ((x.cells.drop off).take fi.size)))
      | false => some (.at_ none (x.cell off))
    | false => none
  | _ => none

def convA (ty : TypeId → Option TI) (σ : St) (src dst : TypeId) (x : AV) : Option (Prop × AV) :=
  match ty src, ty dst with
  | some si, some di => match x, si.desc, di.desc with
    | .d (.int _ n), _, .int k => some (True, .d (.int k (k.wrap n)))
    | .d (.str s), _, .string => some (True, .d (.str s))
    | x, .slice e, .string => match ty e with
      | some ⟨.int .u8, _, _, _, _⟩ => match σ.sl x with
        | some (none, xs) => some (∀ y ∈ xs, y.isU8 = true, .d (.str (strOf xs)))
        | _ => none
      | _ => none
    | _, _, _ => none
  | _, _ => none

def lenA (ty : TypeId → Option TI) (σ : St) (t : TypeId) (x : AV) : Option AV :=
  match ty t with
  | some ⟨.string, _, _, _, _⟩ => match x with
    | .d (.str s) => some (.d (.int .i64 s.size))
    | _ => none
  | some ⟨.slice _, _, _, _, _⟩ => match σ.sl x with
    | some (_, xs) => some (.d (.int .i64 xs.length))
    | none => none
  | _ => none

def ok1 (x : Option AV) : Option (Prop × AV) := match x with
  | some y => some (True, y)
  | none => none

def constB : Operand → Bool
  | .const _ => true
  | _ => false
/-- An interface held against nil. -/
def ifDat (op : BinOp) (xt : Option TI) (yc : Bool) (a b : Dat) : Option Bool := match xt with
  | some ⟨.interface _, _, _, _, _⟩ => match a, b, yc with
    | .nilIf, .nilIf, true => match op with
      | .eql => some true
      | .neq => some false
      | _ => none
    | .someIf, .nilIf, _ => match op with
      | .eql => some false
      | .neq => some true
      | _ => none
    | _, _, _ => none
  | _ => none
def minI (a b : Int) : Int := if b < a then b else a
def maxI (a b : Int) : Int := if a < b then b else a

/-- What an operation yields that leaves the world as it is: under which condition, and what. -/
def pureOp (ty : TypeId → Option TI) (σ : St) (t : TypeId) : Op → Option (Prop × AV)
  | .move x => ok1 (σ.ev ty t x)
  | .assign x => ok1 (σ.ev ty t x)
  | .pick c a b => match σ.ev ty t c with
    | some (.d (.bool true)) => ok1 (σ.ev ty t a)
    | some (.d (.bool false)) => ok1 (σ.ev ty t b)
    | _ => none
  | .load lt x => match σ.ev ty 0 x, ty lt with
    | some y, some i => canonA ty i y (loadAV σ i y)
    | _, _ => none
  | .extract x k => match σ.ev ty 0 x with
    | some (.tup l) => ok1 l[k]?
    | some (.d (.tup l)) => match l[k]? with
      | some y => some (True, .d y)
      | none => none
    | _ => none
  | .binOp op xt x y _ => match σ.ev ty xt x, σ.ev ty xt y with
    | some (.d a), some (.d b) => match binDat op (ty xt) a b with
      | some (p, z) => some (p, .d z)
      | none => match ifDat op (ty xt) (constB y) a b with
        | some z => some (True, .d (.bool z))
        | none => none
    | _, _ => none
  | .unOp .not _ x => match σ.ev ty 0 x with
    | some (.d (.bool b)) => some (True, .d (.bool (!b)))
    | _ => none
  | .unOp .neg _ x => match σ.ev ty 0 x with
    | some (.d (.int k n)) => some (True, .d (.int k (k.wrap (0 - n))))
    | _ => none
  | .convert src dst x => match σ.ev ty src x with
    | some y => convA ty σ src dst y
    | none => none
  | .fieldAddr s x f => match σ.ev ty 0 x, ty s with
    | some y, some ⟨.struct fields, _, _, _, _⟩ => match fields[f]? with
      | some fd => match ty fd.type with
        | some fi => match Nat.beq fi.size 0 with
          | false => ok1 (fieldA fi fd.offset y)
          | true => none
        | none => none
      | none => none
    | _, _ => none
  | .indexAddr st x ix => match σ.ev ty st x, σ.ev ty 0 ix, ty st with
    | some y, some (.d (.int _ n)), some ⟨.slice e, _, _, _, _⟩ => match ty e with
      | some ei => indexA σ ei y n
      | none => none
    | _, _, _ => none
  | .index xt x ix => match σ.ev ty xt x, σ.ev ty 0 ix, ty xt with
    | some (.d (.str s)), some (.d (.int _ n)), some ⟨.string, _, _, _, _⟩ => some (0 ≤ n ∧ n < s.size, .d (.int .u8 (s.data.toList.getD n.toNat 0).toNat))
    | _, _, _ => none
  | .slice xt x lo hi mx => match σ.ev ty xt x, evO σ ty 0 lo, evO σ ty 0 hi, evO σ ty 0 mx with
    | some y, some l, some h, some m => match ty xt, y with
      | some ⟨.string, _, _, _, _⟩, .d (.str s) => sliceA σ (.d (.str s)) l h m
      | some ⟨.slice e, _, _, _, _⟩, .d (.sl ek xs) => match ty e with
        | some ei => match ekB ek ei.ek with
          | true => sliceA σ (.d (.sl ek xs)) l h m
          | false => none
        | none => none
      | _, _ => none
    | _, _, _, _ => none
  | .call c => match c.callee, c.args.toList, c.argTypes.toList with
    | .builtin .len, [x], [at_] => match σ.ev ty at_ x with
      | some y => ok1 (lenA ty σ at_ y)
      | none => none
    | .builtin .min, [x, z], [_, _] => match σ.ev ty 0 x, σ.ev ty 0 z with
      | some (.d (.int k a)), some (.d (.int _ b)) => some (True, .d (.int k (minI a b)))
      | _, _ => none
    | .builtin .max, [x, z], [_, _] => match σ.ev ty 0 x, σ.ev ty 0 z with
      | some (.d (.int k a)), some (.d (.int _ b)) => some (True, .d (.int k (maxI a b)))
      | _, _ => none
    | _, _, _ => none
  | .build bt parts => match ty bt with
    | some ⟨.struct fields, _, _, _, zd⟩ => match evParts σ ty (fieldType fields) parts.toList with
      | some l => match fillA ty fields (zd.map zav) l with
        | some cs => some (True, .agg cs)
        | none => none
      | none => none
    | _ => none
  | .makeFunc (.func f) first captured => match first.toList, evAll σ ty captured.toList [] with
    | [], some l => some (True, .fn f l)
    | _, _ => none
  | _ => none

theorem cells_of_rep {c : Ct} {size : Nat} {x : AV} {cs : List AV} {v : Value} (h : avCells size x = some cs) (hv : Rep c x v) :
    v.cells.size = size ∧ cs.length = size ∧ (∀ y ∈ cs, y.one = true) ∧ ∀ j y, cs[j]? = some y → Rep c y (v.cells.getD j undef) := by
  unfold avCells at h
  split at h
  · split at h
    · rename_i hb
      cases h
      cases hv with
      | agg cs vs hl h1 hr => exact ⟨by rw [← Nat.eq_of_beq_eq_true hb]; exact hl, Nat.eq_of_beq_eq_true hb, h1, hr⟩
    · cases h
  · split at h
    · rename_i hb
      cases h
      cases hv with
      | d h =>
        cases h with
        | agg cs vs hl h1 hr =>
          refine ⟨by rw [← Nat.eq_of_beq_eq_true hb]; exact hl, by simpa using Nat.eq_of_beq_eq_true hb, ?_, ?_⟩
          · intro y hy
            obtain ⟨z, hz, rfl⟩ := List.mem_map.1 hy
            exact h1 z hz
          · intro j y hy
            rw [List.getElem?_map] at hy
            obtain ⟨z, hz, rfl⟩ := Option.map_eq_some_iff.1 hy
            exact .d (hr j z hz)
    · cases h
  · split at h
    · rename_i hx
      cases h
      have hone := hv.oneCell hx
      have hc : v.cells = #[v] := by cases v <;> simp_all [Value.cells, Value.oneCell']
      rw [hc]
      refine ⟨rfl, rfl, by simpa using hx, fun j y hy => ?_⟩
      match j, hy with
      | 0, hy =>
        simp at hy
        subst hy
        simpa using hv
    · cases h

theorem mapM_getElem {α β : Type} {f : α → Option β} : ∀ {l : List α} {r : List β}, l.mapM f = some r → ∀ (i : Nat) (x : α), l[i]? = some x → ∃ y, r[i]? = some y ∧ f x = some y := by
  intro l
  induction l with
  | nil => intro r _ i x h; simp at h
  | cons a l ih =>
    intro r h i x hx
    simp only [List.mapM_cons, Option.bind_eq_bind, Option.pure_def] at h
    cases ha : f a with
    | none => simp [ha] at h
    | some b =>
      cases hl : l.mapM f with
      | none => simp [ha, hl] at h
      | some rest =>
        simp [ha, hl] at h
        subst h
        cases i with
        | zero => simp at hx; subst hx; exact ⟨b, rfl, ha⟩
        | succ i => simp at hx; simpa using ih hl i x hx

/-- Cells that read as a list of abstract values. -/
def CsRep (c : Ct) (cs : List AV) (vs : Array Value) : Prop := vs.size = cs.length ∧ (∀ y ∈ cs, y.one = true) ∧ ∀ j y, cs[j]? = some y → Rep c y (vs.getD j undef)

theorem setAll_length (off : Nat) (new : List AV) : ∀ cells, (setAll cells off new).length = cells.length := by
  induction new generalizing off with
  | nil => intro cells; rfl
  | cons x r ih => intro cells; simp [setAll, ih]

theorem setAll_sound {c : Ct} (off : Nat) (new : List AV) (vn : List Value) : ∀ (k : Nat) (cells : List AV) (vs : Array Value), CsRep c cells vs → new.length = vn.length → (∀ y ∈ new, y.one = true) → (∀ j y, new[j]? = some y → Rep c y (vn.getD j undef)) →
    CsRep c (setAll cells (off + k) new) ((vn.zipIdx k).foldl (fun cs (x : Value × Nat) => cs.setIfInBounds (off + x.2) x.1) vs) := by
  induction new generalizing vn with
  | nil =>
    intro k cells vs h hl _ _
    cases vn with
    | nil => exact h
    | cons => simp at hl
  | cons x r ih =>
    intro k cells vs h hl h1 hr
    cases vn with
    | nil => simp at hl
    | cons v vr =>
      simp only [setAll, List.zipIdx_cons, List.foldl_cons]
      have hx : Rep c x v := by simpa using hr 0 x rfl
      refine ih vr (k + 1) _ _ ⟨by simpa using h.1, ?_, ?_⟩ (by simpa using hl) (fun y hy => h1 y (List.mem_cons_of_mem _ hy)) (fun j y hj => by simpa using hr (j + 1) y hj)
      · intro y hy
        rcases List.mem_or_eq_of_mem_set hy with hy | rfl
        · exact h.2.1 y hy
        · exact h1 _ (List.mem_cons_self ..)
      · intro j y hj
        rw [List.getElem?_set] at hj
        split at hj
        · rename_i e
          subst e
          split at hj
          · rename_i hlt
            cases hj
            have : off + k < vs.size := by rw [h.1]; exact hlt
            simpa [this] using hx
          · cases hj
        · rename_i hne
          have := h.2.2 j y hj
          simpa [Array.getElem?_setIfInBounds_ne hne] using this

theorem fillA_sound (hT : TyOk P ty) {c : Ct} {fields : Array Field} {places : List (Nat × Nat)} (hpl : fields.toList.mapM (fun f => (P.info? f.type).map fun i => (f.offset, i.size)) = some places) :
    ∀ (l : List (Nat × AV)) (vl : List (Nat × Value)) (cells : List AV) (vs : Array Value) (cs : List AV), CsRep c cells vs → l.length = vl.length → (∀ (j : Nat) (p : Nat × AV) (q : Nat × Value), l[j]? = some p → vl[j]? = some q → p.1 = q.1 ∧ Rep c p.2 q.2) →
      fillA ty fields cells l = some cs → ∃ vs', Instr.fill (places.toArray[·]?) vs vl = some vs' ∧ CsRep c cs vs' := by
  intro l
  induction l with
  | nil =>
    intro vl cells vs cs h hl _ hf
    cases vl with
    | nil => simp only [fillA] at hf; cases hf; exact ⟨vs, rfl, h⟩
    | cons => simp at hl
  | cons p r ih =>
    intro vl cells vs cs h hl hr hf
    cases vl with
    | nil => simp at hl
    | cons q vr =>
      obtain ⟨i, x⟩ := p
      obtain ⟨i', v⟩ := q
      obtain ⟨rfl, hx⟩ := hr 0 (i, x) (i', v) rfl rfl
      simp only at hx
      simp only [fillA] at hf
      split at hf
      · cases hf
      · rename_i f hfi
        split at hf
        · cases hf
        · rename_i ti hti
          split at hf
          · rename_i ncs hnc hle
            obtain ⟨hs, hlen, h1, hcr⟩ := cells_of_rep hnc hx
            obtain ⟨j, hj, hjs, _, _⟩ := hT.info _ _ hti
            have hplace : places.toArray[i]? = some (f.offset, ti.size) := by
              have : places[i]? = some (f.offset, ti.size) := by
                obtain ⟨y, hy1, hy2⟩ := mapM_getElem hpl i f (by simpa using hfi)
                rw [hj] at hy2
                simp only [Option.map_some, Option.some.injEq] at hy2
                rw [hy1, ← hy2, hjs]
              simpa using this
            have hle' : f.offset + ti.size ≤ cells.length := Nat.le_of_ble_eq_true hle
            obtain ⟨vs', hv', hc'⟩ := ih vr (setAll cells f.offset ncs) (v.cells.zipIdx.foldl (fun cs (x : Value × Nat) => cs.setIfInBounds (f.offset + x.2) x.1) vs) cs
              (by
                have h9 := setAll_sound (c := c) f.offset ncs v.cells.toList 0 cells vs h (by simp [hlen, hs]) h1 (by simpa using hcr)
                rw [← Array.foldl_toList, Array.toList_zipIdx]
                exact h9)
              (by simpa using hl) (fun k p q hp hq => hr (k + 1) p q (by simpa using hp) (by simpa using hq)) hf
            refine ⟨vs', ?_, hc'⟩
            simp only [Instr.fill, hplace, hs]
            have hsz : vs.size = cells.length := h.1
            rw [if_neg (by simp [hsz]; omega)]
            exact hv'
          · cases hf
theorem zero_csrep (hT : TyOk P ty) {t : TypeId} {ti : TI} (ht : ty t = some ti) (C : Ct) : CsRep C (ti.zd.map zav) ti.zero.cells := by
  obtain ⟨hz1, hz2⟩ := hT.zsize _ _ ht
  refine ⟨by simpa using hz1.trans hz2.symm, ?_, ?_⟩
  · intro y hy
    obtain ⟨q, hq, rfl⟩ := List.mem_map.1 hy
    have h1 := hT.zone _ _ ht q hq
    unfold zav
    split
    · rfl
    · exact h1
  · intro j y hy
    rw [List.getElem?_map] at hy
    obtain ⟨q, hq, rfl⟩ := Option.map_eq_some_iff.1 hy
    have hr := hT.zrep _ _ ht C.w C.pr j q hq
    have hn := hT.znil _ _ ht
    unfold zav
    split
    · have := znilB_get hn j _ hq
      simp only [Array.getD_eq_getD_getElem?, List.getD_eq_getElem?_getD, Array.getElem?_toList] at this ⊢
      rw [this]
      exact .nil _
    · exact .d hr
end
end Go.Am

/- The abstract machine, fourth part: an operation that leaves the world as it is yields what was computed. No program. -/
namespace Go.Am
open Go.RowKit
set_option linter.unusedSimpArgs false
set_option linter.unusedVariables false

section
variable {P : Program} {ty : TypeId → Option TI}

theorem run_loadAt (hT : TyOk P ty) {t : TypeId} {i : TI} (ht : ty t = some i) (w : World) (b off : Nat) (vals : List Value) (hl : vals.length = i.size)
    (hv : ∀ (j : Nat) (v : Value), vals[j]? = some v → w.cell? ⟨b, off + j, none⟩ = some v) :
    (Instr.loadAt t (.pointer (some ⟨b, off, none⟩))).run P w = .ok (if i.agg then .agg vals.toArray else vals.getD 0 undef) w := by
  have hlc : (loadCells ⟨b, off, none⟩ i.size).run P w = .ok vals.toArray w := by
    rw [← hl]
    exact run_loadCells_list (P := P) w ⟨b, off, none⟩ vals (fun j v hj => by rw [Addr.add_lit]; exact hv j v hj)
  unfold Instr.loadAt Instr.sureAddr loadVar
  simp only [Sem.run_bind, Sem.run_pure, Result.andThen_ok, hT.run_agg ht]
  cases ha : i.agg with
  | true => simp only [if_true, Sem.run_bind, hT.run_size ht, Result.andThen_ok, hlc]; rfl
  | false =>
    have h1 := hT.one t i ht ha
    rw [h1] at hl
    match vals, hl with
    | [v], _ =>
      have := hv 0 v rfl
      simp only [Nat.add_zero] at this
      simp [load, Sem.run, this]

theorem loadAV_sound (hT : TyOk P ty) {σ : St} {a : Act} {c : Ct} (hM : Models σ a c) {t : TypeId} {i : TI} (ht : ty t = some i) {x y : AV} {p : Prop} {v : Value} (h : loadAV σ i x = some (p, y)) (hp : p) (hx : Rep c x v) :
    ∃ u, (Instr.loadAt t v).run P c.w = .ok u c.w ∧ Rep c y u := by
  unfold loadAV at h
  split at h
  · rename_i o off
    cases hx with
    | ptr i' off' g hi hg =>
      split at h
      · rename_i bt cs ho
        obtain ⟨_, g', cur, hρ, hpr, _, hheap, hsz, h1, hr⟩ := hM.ob _ _ ho
        have hgg : g' = g := by rw [hρ] at hg; simpa [blk] using hg
        subst hgg
        split at h
        · rename_i hagg
          split at h
          · rename_i hle
            cases h
            have hle' := Nat.le_of_ble_eq_true hle
            have hl : ((cur.toList.drop off).take i.size).length = i.size := by simp [hsz]; omega
            refine ⟨_, run_loadAt hT ht c.w g' off ((cur.toList.drop off).take i.size) hl (fun j v hj => ?_), ?_⟩
            · rw [List.getElem?_take] at hj
              split at hj
              · rw [List.getElem?_drop] at hj
                rw [cell_of_row c.w g' _ cur bt (0, 0) hheap]
                simpa using hj
              · cases hj
            · rw [hagg, if_pos rfl]
              refine .agg _ _ (by simp [hsz]) (fun y hy => h1 y (List.mem_of_mem_drop (List.mem_of_mem_take hy))) (fun j y hj => ?_)
              rw [List.getElem?_take] at hj
              split at hj
              · rename_i hji
                rw [List.getElem?_drop] at hj
                have := hr _ y hj
                simpa [List.getElem?_take, hji, List.getElem?_drop] using this
              · cases hj
          · cases h
        · rename_i hagg
          split at h
          · rename_i y' hy'
            cases h
            have hlt : off < cur.size := by rw [hsz]; exact (List.getElem?_eq_some_iff.1 hy').1
            refine ⟨_, run_loadAt hT ht c.w g' off [cur.getD off undef] (by simp [hT.one t i ht hagg]) (fun j v hj => ?_), ?_⟩
            · match j, hj with
              | 0, hj =>
                simp only [List.getElem?_cons_zero, Option.some.injEq] at hj
                rw [Nat.add_zero, cell_of_row c.w g' _ cur bt (0, 0) hheap, ← hj]
                simp [hlt]
            · rw [hagg]
              exact hr _ _ hy'
          · cases h
      · cases h
  · rename_i o ek k
    cases hx with
    | elt i' ek' k' g hi hg =>
      split at h
      · rename_i ek2 e xs ho
        split at h
        · rename_i he1 he2
          cases h
          have := ekB_eq he1
          subst this
          have hek := ekB_eq he2
          have hsl := SlAt.of_row (hM.ob _ _ ho)
          obtain ⟨A, cap, hv, _, _, hf, _, hcell⟩ := hsl
          obtain ⟨b, off, hA, hc⟩ := hcell (by omega)
          rw [hv, hA] at hg
          have hbg : b = g := by simpa [blk] using hg
          subst hbg
          -- the row starts at 0
          have hoff : off = 0 := by
            obtain ⟨_, vals, hown, _⟩ := hM.ob _ _ ho
            rcases hown.2 with ⟨hn, _⟩ | ⟨g2, cap2, cur, hv2, _⟩
            · rw [hv] at hn; rw [hA] at hn; simp at hn
            · rw [hv, hA] at hv2
              simp at hv2
              exact hv2.1.2
          subst hoff
          have hxk : xs[k]? = some (xs.getD k default) := by simp [hp]
          have hfit := hf _ (List.mem_of_getElem? hxk)
          have hlen := hfit.len
          have hes : esz ek = i.size := by rw [hek]; exact hT.esz ht
          let m := xs.getD k default
          have hvals : ∀ (j : Nat) (v : Value), ((List.range i.size).map fun j => (c.w.cell? ⟨b, k * esz ek + j, none⟩).getD undef)[j]? = some v → c.w.cell? ⟨b, k * esz ek + j, none⟩ = some v := by
            intro j v hj
            rw [List.getElem?_map] at hj
            obtain ⟨j', hj', rfl⟩ := Option.map_eq_some_iff.1 hj
            have hjl : j < i.size := by have := (List.getElem?_eq_some_iff.1 hj').1; simpa using this
            have : j' = j := by simpa [hjl] using hj'.symm
            subst this
            have hjc : j' < (xs.getD k default).cells.length := by rw [hlen, hes]; exact hjl
            obtain ⟨u, hu, _⟩ := hc k _ hxk j' _ (List.getElem?_eq_getElem hjc)
            simp only [Nat.zero_add] at hu
            rw [hu]; rfl
          refine ⟨_, run_loadAt hT ht c.w b (k * esz ek) ((List.range i.size).map fun j => (c.w.cell? ⟨b, k * esz ek + j, none⟩).getD undef) (by simp) hvals, ?_⟩
          refine .d ?_
          cases hagg : i.agg with
          | true =>
            rw [if_pos rfl]
            have hek' : ek = some i.size := by rw [hek]; simp [TI.ek, hagg]
            rw [hek'] at hfit
            obtain ⟨cs, hcs, hcl, hc1⟩ := hfit
            rw [hcs]
            refine .agg cs _ (by simp [hcl]) hc1 (fun j y hj => ?_)
            obtain ⟨u, hu, hr⟩ := hc k _ hxk j y (by rw [hcs]; exact hj)
            simp only [Nat.zero_add] at hu
            have hjl : j < i.size := by rw [← hcl]; exact (List.getElem?_eq_some_iff.1 hj).1
            simpa [hjl, hu] using hr
          | false =>
            have h1 := hT.one t i ht hagg
            have hek' : ek = none := by rw [hek]; simp [TI.ek, hagg]
            have hcs : (xs.getD k default).cells = [xs.getD k default] := by
              rw [hek'] at hfit
              generalize xs.getD k default = z at hfit
              cases z <;> simp_all [Fits, Dat.one, Dat.cells]
            obtain ⟨u, hu, hr⟩ := hc k _ hxk 0 (xs.getD k default) (by rw [hcs]; rfl)
            simp only [Nat.zero_add, Nat.add_zero] at hu
            simpa [h1, hu] using hr
        · cases h
      · cases h
  · rename_i ek z
    cases hx with
    | at_ ek' x' b off hf hm =>
      split at h
      · rename_i he
        cases h
        have hek := ekB_eq he
        have hlen := hf.len
        have hes : esz ek = i.size := by rw [hek]; exact hT.esz ht
        have hvals : ∀ (j : Nat) (v : Value), ((List.range i.size).map fun j => (c.w.cell? ⟨b, off + j, none⟩).getD undef)[j]? = some v → c.w.cell? ⟨b, off + j, none⟩ = some v := by
          intro j v hj
          rw [List.getElem?_map] at hj
          obtain ⟨j', hj', rfl⟩ := Option.map_eq_some_iff.1 hj
          have hjl : j < i.size := by have := (List.getElem?_eq_some_iff.1 hj').1; simpa using this
          have : j' = j := by simpa [hjl] using hj'.symm
          subst this
          have hjc : j' < z.cells.length := by rw [hlen, hes]; exact hjl
          obtain ⟨_, _, u, hu, _⟩ := hm j' _ (List.getElem?_eq_getElem hjc)
          rw [hu]; rfl
        refine ⟨_, run_loadAt hT ht c.w b off ((List.range i.size).map fun j => (c.w.cell? ⟨b, off + j, none⟩).getD undef) (by simp) hvals, ?_⟩
        refine .d ?_
        cases hagg : i.agg with
        | true =>
          rw [if_pos rfl]
          have hek' : ek = some i.size := by rw [hek]; simp [TI.ek, hagg]
          rw [hek'] at hf
          obtain ⟨cs, hcs, hcl, hc1⟩ := hf
          subst hcs
          refine .agg cs _ (by simp [hcl]) hc1 (fun j y hj => ?_)
          obtain ⟨_, _, u, hu, hr⟩ := hm j y hj
          have hjl : j < i.size := by rw [← hcl]; exact (List.getElem?_eq_some_iff.1 hj).1
          simpa [hjl, hu] using hr
        | false =>
          have h1 := hT.one t i ht hagg
          have hek' : ek = none := by rw [hek]; simp [TI.ek, hagg]
          have hcs : z.cells = [z] := by
            rw [hek'] at hf
            cases z <;> simp_all [Fits, Dat.one, Dat.cells]
          obtain ⟨_, _, u, hu, hr⟩ := hm 0 z (by rw [hcs]; rfl)
          simp only [Nat.add_zero] at hu
          simpa [h1, hu] using hr
      · cases h
  · cases h
end
end Go.Am

/- The abstract machine, fifth part: every operation that leaves the world as it is yields what was computed. No program. -/
namespace Go.Am
open Go.RowKit
set_option linter.unusedSimpArgs false
set_option linter.unusedVariables false

section
variable {P : Program} {ty : TypeId → Option TI}

def ORepV (c : Ct) : Option AV → Option Value → Prop
  | none, none => True
  | some x, some v => Rep c x v
  | _, _ => False

theorem Rep.int_inv {c : Ct} {k : IntKind} {n : Int} {v : Value} (h : Rep c (.d (.int k n)) v) : v = .int k n := by
  cases h with
  | d h => cases h; rfl
theorem Rep.str_inv {c : Ct} {s : ByteArray} {v : Value} (h : Rep c (.d (.str s)) v) : v = .string s := by
  cases h with
  | d h => cases h; rfl
theorem Rep.bool_inv {c : Ct} {b : Bool} {v : Value} (h : Rep c (.d (.bool b)) v) : v = .bool b := by
  cases h with
  | d h => cases h; rfl

theorem boundsA_sound {c : Ct} {isS : Bool} {len cap : Nat} {lo hi mx : Option AV} {vl vh vm : Option Value} {p : Prop} {l h : Nat} (hb : boundsA len lo hi mx = some (p, l, h)) (hp : p)
    (hl : ORepV c lo vl) (hh : ORepV c hi vh) (hm : ORepV c mx vm) (hc : len ≤ cap) (w : World) :
    ∃ m, (Instr.sliceBounds isS len cap vl vh vm).run P w = .ok (l, h, m) w ∧ l ≤ h ∧ h ≤ len ∧ h ≤ m ∧ m ≤ cap := by
  unfold boundsA at hb
  split at hb
  · cases hb
    cases vl <;> cases vh <;> cases vm <;> simp only [ORepV] at hl hh hm
    exact ⟨cap, by simp [Instr.sliceBounds], by omega, by omega, by omega, by omega⟩
  · rename_i kl l'
    cases hb
    cases vl <;> cases vh <;> cases vm <;> simp only [ORepV] at hl hh hm
    have := Rep.int_inv hl
    subst this
    obtain ⟨h0, h1⟩ := hp
    exact ⟨cap, by simp [Instr.sliceBounds, run_sliceBound, h0, h1], by omega, by omega, by omega, by omega⟩
  · rename_i kh h'
    cases hb
    cases vl <;> cases vh <;> cases vm <;> simp only [ORepV] at hl hh hm
    have := Rep.int_inv hh
    subst this
    obtain ⟨h0, h1⟩ := hp
    exact ⟨cap, by simp [Instr.sliceBounds, run_sliceBound, h0, (by omega : h' ≤ (cap : Int))], by omega, by omega, by omega, by omega⟩
  · rename_i kl l' kh h'
    cases hb
    cases vl <;> cases vh <;> cases vm <;> simp only [ORepV] at hl hh hm
    have := Rep.int_inv hl
    subst this
    have := Rep.int_inv hh
    subst this
    obtain ⟨h0, h1, h2⟩ := hp
    exact ⟨cap, by simp [Instr.sliceBounds, run_sliceBound, h0, (by omega : 0 ≤ h'), (by omega : h' ≤ (cap : Int)), (by omega : l' ≤ max h' 0)], by omega, by omega, by omega, by omega⟩
  · rename_i kl l' kh h' km m'
    cases hb
    cases vl <;> cases vh <;> cases vm <;> simp only [ORepV] at hl hh hm
    have := Rep.int_inv hl
    subst this
    have := Rep.int_inv hh
    subst this
    have := Rep.int_inv hm
    subst this
    obtain ⟨h0, h1, h2, h3⟩ := hp
    exact ⟨m'.toNat, by simp [Instr.sliceBounds, run_sliceBound, h0, (by omega : 0 ≤ h'), (by omega : 0 ≤ m'), (by omega : m' ≤ (cap : Int)), (by omega : h' ≤ max m' 0), (by omega : l' ≤ max h' 0)], by omega, by omega, by omega, by omega⟩
  · cases hb

theorem sliced_rep {w : World} {pr : Nat → Bool} {ek : Option Nat} {xs : List Dat} {a : Option Addr} {cap l h m s : Nat} (hr : RepD w pr (.sl ek xs) (.slice a xs.length cap)) (hs : s = esz ek)
    (h1 : l ≤ h) (h2 : h ≤ xs.length) (h3 : h ≤ m) (h4 : m ≤ cap) : RepD w pr (.sl ek (cutL xs l h)) (.slice (if m = l then a else a.map (·.add (l * s))) (h - l) (m - l)) := by
  subst hs
  have hlen : (cutL xs l h).length = h - l := by simp [cutL]; omega
  rcases hr.sl_inv with ⟨hv, rfl⟩ | ⟨b, off, spot, cap', hv, hc, hm, hsp, hf, hx⟩
  · simp only [Value.slice.injEq] at hv
    obtain ⟨rfl, _, rfl⟩ := hv
    have : h = 0 := by simpa using h2
    subst this
    have : l = 0 := by omega
    subst this
    have : m = 0 := by omega
    subst this
    simpa [cutL] using RepD.nil ek
  · simp only [Value.slice.injEq] at hv
    obtain ⟨rfl, _, rfl⟩ := hv
    have hff : ∀ x ∈ cutL xs l h, Fits ek x := fun x hx => hf x (List.mem_of_mem_take (List.mem_of_mem_drop hx))
    by_cases h0 : h - l = 0
    · have hnil : cutL xs l h = [] := List.eq_nil_of_length_eq_zero (by omega)
      rw [hnil]
      have key : ∀ ad : Addr, RepD w pr (.sl ek []) (.slice (some ad) (h - l) (m - l)) := fun ad => by
        obtain ⟨b', off', spot'⟩ := ad
        exact RepD.sl_mk (by simpa using h0) (by simp) (by omega) (by simp) (by simp) (by simp)
      split
      · exact key _
      · exact key _
    · have hsn := hsp (by omega)
      subst hsn
      rw [if_neg (by omega)]
      simp only [Option.map_some, Addr.add_lit]
      refine RepD.sl_mk hlen.symm (by omega) (by omega) (fun _ => rfl) hff (fun k x hk => ?_)
      have hk' : xs[l + k]? = some x := by
        unfold cutL at hk
        rw [List.getElem?_drop, List.getElem?_take] at hk
        split at hk
        · exact hk
        · cases hk
      have := hx (l + k) x hk'
      rw [Nat.add_mul, ← Nat.add_assoc] at this
      exact this

theorem SlAt.len_eq {w : World} {pr : Nat → Bool} {ek : Option Nat} {xs : List Dat} {v : Value} (h : SlAt w pr ek xs v) : ∃ a cap, v = .slice a xs.length cap ∧ xs.length ≤ cap := by
  obtain ⟨a, cap, hv, hc, _⟩ := h
  exact ⟨a, cap, hv, hc⟩

theorem RepD.sl_len {w : World} {pr : Nat → Bool} {ek : Option Nat} {xs : List Dat} {v : Value} (h : RepD w pr (.sl ek xs) v) : ∃ a cap, v = .slice a xs.length cap ∧ xs.length ≤ cap := (SlAt.of_rep h).len_eq

theorem run_slice_sl (hT : TyOk P ty) {t e : TypeId} {i ei : TI} (ht : ty t = some i) (hd : i.desc = .slice e) (he : ty e = some ei) {a : Option Addr} {len cap : Nat} {vl vh vm : Option Value} {l h m : Nat} {w : World}
    (hb : (Instr.sliceBounds true len cap vl vh vm).run P w = .ok (l, h, m) w) :
    (Instr.sliceAt t (.slice a len cap) vl vh vm).run P w = .ok (.slice (if m = l then a else a.map (·.add (l * ei.size))) (h - l) (m - l)) w := by
  have hu := hT.und t i ht
  rw [hd] at hu
  simp [Instr.sliceAt, Instr.slice, run_underlying hu, hb, hT.run_size he]

theorem run_slice_str (hT : TyOk P ty) {t : TypeId} {i : TI} (ht : ty t = some i) (hd : i.desc = .string) {s : ByteArray} {vl vh : Option Value} {l h m : Nat} {w : World}
    (hb : (Instr.sliceBounds false s.size s.size vl vh none).run P w = .ok (l, h, m) w) :
    (Instr.sliceAt t (.string s) vl vh none).run P w = .ok (.string (s.extract l h)) w := by
  have hu := hT.und t i ht
  rw [hd] at hu
  simp [Instr.sliceAt, Instr.slice, run_underlying hu, hb]

theorem indexA_sound (hT : TyOk P ty) {σ : St} {a : Act} {c : Ct} (hM : Models σ a c) {t e : TypeId} {i ei : TI} (ht : ty t = some i) (hd : i.desc = .slice e) (he : ty e = some ei) {x y : AV} {n : Int} {k : IntKind} {p : Prop} {v : Value}
    (h : indexA σ ei x n = some (p, y)) (hp : p) (hx : Rep c x v) : ∃ u, (Instr.indexAt t v (.int k n)).run P c.w = .ok u c.w ∧ Rep c y u := by
  have hu := hT.und t i ht
  rw [hd] at hu
  have run : ∀ (ad : Addr) (len cap : Nat), 0 ≤ n ∧ n < len → (Instr.indexAt t (.slice (some ad) len cap) (.int k n)).run P c.w = .ok (.pointer (some (ad.add (n.toNat * ei.size)))) c.w := by
    intro ad len cap hn
    simp [Instr.indexAt, run_underlying hu, asIntOf, hn, hT.run_size he]
  have imm : ∀ (ek : Option Nat) (xs : List Dat) (v : Value), ekB ek ei.ek = true → RepD c.w c.pr (.sl ek xs) v → 0 ≤ n ∧ n < xs.length → ∃ u, (Instr.indexAt t v (.int k n)).run P c.w = .ok u c.w ∧ Rep c (.at_ ek (xs.getD n.toNat default)) u := by
    intro ek xs v hek hr hn
    have hek' := ekB_eq hek
    rcases hr.sl_inv with ⟨_, rfl⟩ | ⟨b, off, spot, cap, rfl, hc, hm, hsp, hf, hxx⟩
    · simp at hn; omega
    · have hs := hsp (by omega)
      subst hs
      refine ⟨_, run _ _ _ hn, ?_⟩
      rw [Addr.add_lit]
      have hes : esz ek = ei.size := by rw [hek']; exact hT.esz he
      have hk : xs[n.toNat]? = some (xs.getD n.toNat default) := by
        have : n.toNat < xs.length := by omega
        simp [this]
      rw [← hes]
      exact .at_ ek _ b _ (hf _ (List.mem_of_getElem? hk)) (hxx _ _ hk)
  unfold indexA at h
  split at h
  · split at h
    · rename_i hek
      cases h
      cases hx with
      | d hr => exact imm _ _ _ hek hr hp
    · cases h
  · rename_i o
    cases hx with
    | ref i' hi v hv h1 =>
      subst hv
      split at h
      · rename_i ek e' xs ho
        split at h
        · rename_i hek
          cases h
          have hek' := ekB_eq hek
          have hes : esz ek = ei.size := by rw [hek']; exact hT.esz he
          obtain ⟨_, vals, hown, _⟩ := hM.ob _ _ ho
          rcases hown.2 with ⟨_, h0⟩ | ⟨g, cap, cur, hv, _⟩
          · simp [h0] at hp; omega
          · refine ⟨.pointer (some ⟨g, n.toNat * esz ek, none⟩), ?_, .elt o ek n.toNat g hi (by rw [hv]; rfl)⟩
            rw [hv, run _ _ _ hp, Addr.add_lit, hes]
            simp
        · cases h
      · rename_i ek xs ho
        split at h
        · rename_i hek
          cases h
          exact imm _ _ _ hek (hM.ob _ _ ho).2 hp
        · cases h
      · cases h
  · cases h

theorem fieldA_sound (hT : TyOk P ty) {σ : St} {a : Act} {c : Ct} (hM : Models σ a c) {s : TypeId} {i fi : TI} {fields : Array Field} {f : Nat} {fd : Field} (hs : ty s = some i) (hd : i.desc = .struct fields) (hf : fields[f]? = some fd) (hfi : ty fd.type = some fi) (h0 : fi.size ≠ 0)
    {x y : AV} {v : Value} (h : fieldA fi fd.offset x = some y) (hx : Rep c x v) : ∃ u, (Instr.fieldAt s v f).run P c.w = .ok u c.w ∧ Rep c y u := by
  have hu := hT.und s i hs
  rw [hd] at hu
  have run : ∀ (b off : Nat), (Instr.fieldAt s (.pointer (some ⟨b, off, none⟩)) f).run P c.w = .ok (.pointer (some ⟨b, off + fd.offset, none⟩)) c.w := by
    intro b off
    simp [Instr.fieldAt, run_underlying hu, hf, Instr.sureAddr, fieldPlace, hT.run_size hfi, h0, Addr.add_lit]
  unfold fieldA at h
  split at h
  · cases h
    cases hx with
    | ptr i' off g hi hg => exact ⟨_, run _ _, .ptr _ _ g hi hg⟩
  · rename_i m x
    split at h
    · rename_i hle
      have hle' := Nat.le_of_ble_eq_true hle
      cases hx with
      | at_ ek x b off hft hm =>
        obtain ⟨cs, rfl, hcl, hc1⟩ := hft
        refine ⟨_, run _ _, ?_⟩
        split at h
        · rename_i hagg
          cases h
          have hek : fi.ek = some fi.size := by simp [TI.ek, hagg]
          refine .at_ _ _ b _ ?_ ?_
          · rw [hek]
            refine ⟨_, rfl, by simp [Dat.cells, hcl]; omega, fun y hy => hc1 y (List.mem_of_mem_drop (List.mem_of_mem_take hy))⟩
          · intro j y hj
            simp only [Dat.cells] at hj
            rw [List.getElem?_take] at hj
            split at hj
            · rw [List.getElem?_drop] at hj
              have := hm _ y hj
              rw [← Nat.add_assoc] at this
              exact this
            · cases hj
        · rename_i hagg
          cases h
          have h1 := hT.one _ _ hfi hagg
          have hlt : fd.offset < cs.length := by omega
          have hcell : cs[fd.offset]? = some (Dat.cell (.agg cs) fd.offset) := by simp [Dat.cell, Dat.cells, hlt]
          have hone := hc1 _ (List.mem_of_getElem? hcell)
          have hcs : (Dat.cell (.agg cs) fd.offset).cells = [Dat.cell (.agg cs) fd.offset] := by
            generalize Dat.cell (.agg cs) fd.offset = z at hone
            cases z <;> simp_all [Dat.one, Dat.cells]
          refine .at_ none _ b _ hone ?_
          intro j y hj
          rw [hcs] at hj
          match j, hj with
          | 0, hj =>
            simp only [List.getElem?_cons_zero, Option.some.injEq] at hj
            subst hj
            exact hm _ _ hcell
    · cases h
  · cases h

theorem loadCells_sl {w : World} {pr : Nat → Bool} {xs : List Dat} {v : Value} (h : SlAt w pr none xs v) (h8 : ∀ y ∈ xs, y.isU8 = true) :
    (v = .slice none 0 0 ∧ xs = [] ∨ ∃ ad cap, v = .slice (some ad) xs.length cap ∧ (loadCells ad xs.length).run P w = .ok ((xs.map fun y => Value.int .u8 (match y with | .int _ n => n | _ => 0)).toArray) w) := by
  obtain ⟨A, cap, rfl, hc, hm, hf, hA, hcell⟩ := h
  rcases A with _ | ad
  · have h0 := hA rfl
    subst h0
    have : xs = [] := List.eq_nil_of_length_eq_zero (by omega)
    subst this
    exact .inl ⟨rfl, rfl⟩
  · refine .inr ⟨ad, cap, rfl, ?_⟩
    have hl : xs.length = (xs.map fun y => Value.int .u8 (match y with | .int _ n => n | _ => 0)).length := by simp
    rw [hl]
    refine run_loadCells_list (P := P) w ad _ (fun j u hj => ?_)
    rw [List.getElem?_map] at hj
    obtain ⟨y, hy, rfl⟩ := Option.map_eq_some_iff.1 hj
    have hlt : 0 < xs.length := by have := (List.getElem?_eq_some_iff.1 hy).1; omega
    obtain ⟨b, off, hab, hcc⟩ := hcell hlt
    cases hab
    rw [Addr.add_lit]
    have h8y := h8 y (List.mem_of_getElem? hy)
    cases y <;> simp [Dat.isU8] at h8y
    rename_i k n
    cases k <;> simp at h8y
    obtain ⟨u, hu, hr⟩ := hcc j _ hy 0 _ rfl
    simp only [esz, Nat.mul_one, Nat.add_zero] at hu
    cases hr
    exact hu

theorem convA_sound (hT : TyOk P ty) {σ : St} {a : Act} {c : Ct} (hM : Models σ a c) {src dst : TypeId} {x y : AV} {p : Prop} {v : Value} (h : convA ty σ src dst x = some (p, y)) (hp : p) (hx : Rep c x v) :
    ∃ u, (convert src dst v).run P c.w = .ok u c.w ∧ Rep c y u := by
  unfold convA at h
  split at h
  · rename_i si di hs hd
    have hus := hT.und _ _ hs
    have hud := hT.und _ _ hd
    split at h
    · rename_i k' hdd
      cases h
      rw [hdd] at hud
      have := Rep.int_inv hx
      subst this
      exact ⟨_, by simp [convert, run_underlying hus, run_underlying hud, Conv.intToInt], .d (.int _ _)⟩
    · rename_i hdd
      cases h
      rw [hdd] at hud
      have := Rep.str_inv hx
      subst this
      exact ⟨_, by simp [convert, run_underlying hus, run_underlying hud], .d (.str _)⟩
    · rename_i hsd hdd
      rw [hsd] at hus
      rw [hdd] at hud
      split at h
      · rename_i b z zd s he
        have hue := hT.und _ _ he
        split at h
        · rename_i xs hsl
          cases h
          have hat := sl_sound hM hsl hx
          refine ⟨_, ?_, .d (.str _)⟩
          rcases loadCells_sl (P := P) hat hp with ⟨rfl, rfl⟩ | ⟨ad, cap, rfl, hl⟩
          · rw [run_convert_bytes_nil c.w src _ hus hue 0 0 dst hud]
            rfl
          · rw [run_convert_bytes_string c.w src dst _ _ _ _ hus hue hud]
            have hl' : (loadCells ad xs.length).run P c.w = .ok ((xs.map fun y => (match y with | .int _ n => n | _ => 0 : Int)).map (Value.int .u8)).toArray c.w := by
              rw [hl]; congr 2; simp
            have := run_bytesToString (P := P) c.w ad xs.length cap _ hl'
            rw [this, foldl_push_bytes]
            congr 2
            unfold strOf
            have : ByteArray.empty.data = #[] := rfl
            rw [this]
            simp only [List.map_map, Array.empty_append]
            congr 2
            apply List.map_congr_left
            intro y hy
            have := hp y hy
            cases y <;> simp [Dat.isU8] at this
            rfl
        · cases h
      · cases h
    · cases h
  · cases h
end
end Go.Am

/- The abstract machine, sixth part: every operation that leaves the world as it is yields what was computed. No program. -/
namespace Go.Am
open Go.RowKit
set_option linter.unusedSimpArgs false
set_option linter.unusedVariables false

section
variable {P : Program} {ty : TypeId → Option TI}

theorem ok1_eq {x : Option AV} {p : Prop} {y : AV} (h : ok1 x = some (p, y)) : x = some y := by
  cases x <;> simp_all [ok1]

theorem lenA_sound (hT : TyOk P ty) {σ : St} {a : Act} {c : Ct} (hM : Models σ a c) {t rt : TypeId} {x y : AV} {v : Value} (h : lenA ty σ t x = some y) (hx : Rep c x v) :
    ∃ u, (Builtin.len_ #[t] rt #[v]).run P c.w = .ok u c.w ∧ Rep c y u := by
  unfold lenA at h
  split at h
  · rename_i ht
    have hu := hT.und _ _ ht
    split at h
    · cases h
      have := Rep.str_inv hx
      subst this
      exact ⟨_, by simp [Builtin.len_, run_underlying hu]; rfl, .d (.int _ _)⟩
    · cases h
  · rename_i ht
    have hu := hT.und _ _ ht
    split at h
    · rename_i hs
      cases h
      obtain ⟨a', cap, rfl, _⟩ := (sl_sound hM hs hx).len_eq
      exact ⟨_, by simp [Builtin.len_, run_underlying hu]; rfl, .d (.int _ _)⟩
    · cases h
  · cases h

theorem evO_sound {σ : St} {a : Act} {c : Ct} (hM : Models σ a c) {t : TypeId} {x : Option Operand} {y : Option AV} (h : evO σ ty t x = some y) : ORepV c y (x.map a.eval) := by
  unfold evO at h
  split at h
  · cases h; trivial
  · split at h
    · rename_i hy
      cases h
      exact ev_sound hM hy
    · cases h

theorem evAll_sound {σ : St} {a : Act} {c : Ct} (hM : Models σ a c) : ∀ {l : List Operand} {ts : List TypeId} {ys : List AV}, evAll σ ty l ts = some ys → ys.length = l.length ∧ ∀ (j : Nat) (y : AV), ys[j]? = some y → Rep c y ((l.map a.eval).getD j undef)
  | [], ts, ys, h => by
    unfold evAll at h
    cases h
    simp
  | x :: r, [], ys, h => by
    unfold evAll at h
    split at h
    · rename_i y l hy hl
      cases h
      obtain ⟨h1, h2⟩ := evAll_sound hM hl
      refine ⟨by simp [h1], fun j z hj => ?_⟩
      cases j with
      | zero => simp at hj; subst hj; simpa using ev_sound hM hy
      | succ j => simpa using h2 j z (by simpa using hj)
    · cases h
  | x :: r, t :: ts, ys, h => by
    unfold evAll at h
    split at h
    · rename_i y l hy hl
      cases h
      obtain ⟨h1, h2⟩ := evAll_sound hM hl
      refine ⟨by simp [h1], fun j z hj => ?_⟩
      cases j with
      | zero => simp at hj; subst hj; simpa using ev_sound hM hy
      | succ j => simpa using h2 j z (by simpa using hj)
    · cases h

theorem evParts_sound {σ : St} {a : Act} {c : Ct} (hM : Models σ a c) {tf : Nat → TypeId} : ∀ {l : List (Nat × Operand)} {ys : List (Nat × AV)}, evParts σ ty tf l = some ys →
    ys.length = (l.map fun (i, x) => (i, a.eval x)).length ∧ ∀ (j : Nat) (p : Nat × AV) (q : Nat × Value), ys[j]? = some p → (l.map fun (i, x) => (i, a.eval x))[j]? = some q → p.1 = q.1 ∧ Rep c p.2 q.2
  | [], ys, h => by
    unfold evParts at h
    cases h
    simp
  | (i, x) :: r, ys, h => by
    unfold evParts at h
    split at h
    · rename_i y l hy hl
      cases h
      obtain ⟨h1, h2⟩ := evParts_sound hM hl
      refine ⟨by simpa using h1, fun j p q hp hq => ?_⟩
      cases j with
      | zero =>
        simp at hp hq
        subst hp; subst hq
        exact ⟨rfl, ev_sound hM hy⟩
      | succ j => exact h2 j p q (by simpa using hp) (by simpa using hq)
    · cases h

theorem run_value {x : Sem Value} {v : Value} {w w' : World} (h : x.run P w = .ok v w') : (do pure (Next.value (← x)) : Sem Next).run P w = .ok (.value v) w' := by
  simp [Sem.run_bind, h]

theorem run_equal_if {t : TypeId} {ms : Array (String × TypeId)} (hu : P.underlying t = some (.interface ms)) (w : World) {a : Value} (b : Bool) (h : (a = .nilIface ∧ b = true) ∨ (∃ u v, a = .iface u v ∧ b = false)) : (Op.equal t a .nilIface).run P w = .ok b w := by
  have h : ∀ d : Nat, (Op.equalIn (d + 1) t a .nilIface).run P w = .ok b w := fun d => by
    rcases h with ⟨rfl, rfl⟩ | ⟨u, v, rfl, rfl⟩
    · simp only [Op.equalIn, Sem.run_bind, run_underlying hu, Result.andThen_ok]
      rfl
    · simp only [Op.equalIn, Sem.run_bind, run_underlying hu, Result.andThen_ok]
      rfl
  exact h 9999
theorem ifDat_sound (hT : TyOk P ty) {op : BinOp} {t : TypeId} {x y : Dat} {z : Bool} {yc : Bool} (h : ifDat op (ty t) yc x y = some z) {w : World} {pr : Nat → Bool} {v u : Value}
    (hx : RepD w pr x v) (hy : RepD w pr y u) (a b : Operand) (hc : yc = constB b) : (do eqGuard op t a b v u; binOp op t v u : Sem Value).run P w = .ok (.bool z) w := by
  subst hc
  unfold ifDat at h
  split at h
  · rename_i ht
    have hu := hT.und t _ ht
    split at h
    · rename_i hcb
      cases hx; cases hy
      have hg : eqGuard op t a b .nilIface .nilIface = pure () := by
        cases b <;> simp only [constB, reduceCtorEq] at hcb
        cases op <;> simp [eqGuard]
      rw [hg]
      split at h
      · cases h
        show (do pure (); (do pure (Value.bool (← Op.equal t .nilIface .nilIface)) : Sem Value)).run P w = _
        simp only [Sem.run_bind, Sem.run_pure, Result.andThen_ok, run_equal_if hu w true (.inl ⟨rfl, rfl⟩)]
      · cases h
        show (do pure (); (do pure (Value.bool (!(← Op.equal t .nilIface .nilIface))) : Sem Value)).run P w = _
        simp only [Sem.run_bind, Sem.run_pure, Result.andThen_ok, run_equal_if hu w true (.inl ⟨rfl, rfl⟩)]
        rfl
      · cases h
    · cases hx; cases hy
      rename_i tt vv
      rw [eqGuard_bare _ _ _ _ _ _ (by simp) (by simp)]
      split at h
      · cases h
        show (do pure (); (do pure (Value.bool (← Op.equal t (.iface _ _) .nilIface)) : Sem Value)).run P w = _
        simp only [Sem.run_bind, Sem.run_pure, Result.andThen_ok, run_equal_if hu w false (.inr ⟨_, _, rfl, rfl⟩)]
      · cases h
        show (do pure (); (do pure (Value.bool (!(← Op.equal t (.iface _ _) .nilIface))) : Sem Value)).run P w = _
        simp only [Sem.run_bind, Sem.run_pure, Result.andThen_ok, run_equal_if hu w false (.inr ⟨_, _, rfl, rfl⟩)]
        rfl
      · cases h
    · cases h
  · cases h
theorem pureOp_sound (hT : TyOk P ty) {σ : St} {a : Act} {c : Ct} (hM : Models σ a c) {o : Oper} {p : Prop} {y : AV} (h : pureOp ty σ o.type o.op = some (p, y)) (hp : p) :
    ∃ v, (execOp a.eval o).run P c.w = .ok (.value v) c.w ∧ Rep c y v := by
  obtain ⟨dst, op, t, pos, after, guard⟩ := o
  simp only at h
  cases op <;> simp only [pureOp, reduceCtorEq] at h
  case move x => exact ⟨_, rfl, ev_sound hM (ok1_eq h)⟩
  case assign x => exact ⟨_, rfl, ev_sound hM (ok1_eq h)⟩
  case pick cnd x z =>
    split at h
    · rename_i hc
      have := Rep.bool_inv (ev_sound hM hc)
      exact ⟨_, by simp [execOp, this, asBool], ev_sound hM (ok1_eq h)⟩
    · rename_i hc
      have := Rep.bool_inv (ev_sound hM hc)
      exact ⟨_, by simp [execOp, this, asBool], ev_sound hM (ok1_eq h)⟩
    · cases h
  case load lt x =>
    split at h
    · rename_i hy ht
      obtain ⟨q, z', hl, hq, hz⟩ := canonA_sound (c := c) h hp
      obtain ⟨u, hu, hr⟩ := loadAV_sound hT hM ht hl hq (ev_sound hM hy)
      exact ⟨u, run_value hu, hz u hr⟩
    · cases h
  case build bt parts =>
    split at h
    · rename_i fields sz b z zd ht
      split at h
      · rename_i l hl
        split at h
        · rename_i cs hcs
          cases h
          have hu := hT.und _ _ ht
          obtain ⟨j, hj, hjs, _, hjz⟩ := hT.info _ _ ht
          obtain ⟨hz1, hz2⟩ := hT.zsize _ _ ht
          obtain ⟨h1, h2⟩ := evParts_sound hM hl
          have hzr := hT.zrep _ _ ht
          have hzo := hT.zone _ _ ht
          have hcs0 : CsRep c (zd.map zav) z.cells := zero_csrep hT ht c
          obtain ⟨places, hpl⟩ : ∃ places, fields.toList.mapM (fun f => (P.info? f.type).map fun i => (f.offset, i.size)) = some places := hT.places _ _ ht fields rfl
          obtain ⟨vs', hfill, hcr⟩ := fillA_sound hT hpl l _ _ _ cs hcs0 h1 h2 hcs
          have hb : P.built bt (parts.map fun (i, x) => (i, a.eval x)).toList = some vs' := by
            have hu' : P.underlying bt = some (.struct fields) := hu
            have hjz' : j.zero = some z := hjz
            unfold Program.built
            rw [hj, hu']
            simp only [hjz', hpl]
            simpa using hfill
          exact ⟨_, run_value (run_build c.w bt _ _ hb), .agg cs vs' hcr.1 hcr.2.1 hcr.2.2⟩
        · cases h
      · cases h
    · cases h
  case binOp op xt x z yt =>
    split at h
    · rename_i hx hz
      split at h
      · rename_i hb
        cases h
        obtain ⟨r, hr, hrep⟩ := binDat_sound hT hb hp (by cases ev_sound hM hx with | d h => exact h) (by cases ev_sound hM hz with | d h => exact h) x z
        exact ⟨r, run_value hr, .d hrep⟩
      · split at h
        · rename_i hb
          cases h
          refine ⟨.bool _, run_value (ifDat_sound hT hb (by cases ev_sound hM hx with | d h => exact h) (by cases ev_sound hM hz with | d h => exact h) x z rfl), .d (.bool _)⟩
        · cases h
    · cases h
  case unOp op xt x =>
    cases op <;> simp only [reduceCtorEq] at h
    case not =>
      split at h
      · rename_i hx
        cases h
        have := Rep.bool_inv (ev_sound hM hx)
        exact ⟨_, by simp [execOp, this, Op.unary], .d (.bool _)⟩
      · cases h
    case neg =>
      split at h
      · rename_i hx
        cases h
        have := Rep.int_inv (ev_sound hM hx)
        exact ⟨_, run_value (by rw [this]; simp only [Op.unary, Op.intArith]; rfl), .d (.int _ _)⟩
      · cases h
  case convert src dst x =>
    split at h
    · rename_i hx
      obtain ⟨u, hu, hr⟩ := convA_sound hT hM h hp (ev_sound hM hx)
      exact ⟨u, run_value hu, hr⟩
    · cases h
  case makeFunc fn first captured =>
    cases fn <;> simp only [reduceCtorEq] at h
    rename_i f
    split at h
    · rename_i l hf hl
      cases h
      obtain ⟨h1, h2⟩ := evAll_sound hM hl
      have hfe : first = #[] := by
        rcases first with ⟨l⟩
        simpa using hf
      subst hfe
      refine ⟨.func (.func f) #[] (captured.map a.eval), by simp [execOp, Instr.makeFunc], ?_⟩
      refine .fn f l (captured.map a.eval) (by simp [h1]) (fun j y hj => ?_)
      have := h2 j y hj
      simpa using this
    · cases h
  case slice xt x lo hi mx =>
    split at h
    · rename_i y' l' h' m' hy hl hh hm
      have rl := evO_sound hM hl
      have rh := evO_sound hM hh
      have rm := evO_sound hM hm
      have hx := ev_sound hM hy
      split at h
      · rename_i ht
        have := Rep.str_inv hx
        simp only [sliceA] at h
        split at h
        · split at h
          · rename_i hb
            cases h
            have rm' : mx = none := by
              cases mx with
              | none => rfl
              | some q => simp [ORepV] at rm
            subst rm'
            obtain ⟨m, hrun, h1, h2, h3, h4⟩ := boundsA_sound (P := P) (isS := false) hb hp rl rh (vm := none) trivial (Nat.le_refl _) c.w
            refine ⟨_, run_value ?_, .d (.str _)⟩
            rw [this]
            exact run_slice_str hT ht rfl hrun
          · cases h
        · cases h
      · rename_i ht
        split at h
        · rename_i ei hei
          split at h
          · rename_i hek
            have hek' := ekB_eq hek
            simp only [sliceA] at h
            split at h
            · rename_i hb
              cases h
              cases hx with
              | d hd =>
                obtain ⟨av, cap, hav, hcap⟩ := hd.sl_len
                rw [hav] at hd
                obtain ⟨m, hrun, h1, h2, h3, h4⟩ := boundsA_sound (P := P) (isS := true) hb hp rl rh rm hcap c.w
                have hes := (hT.esz hei).symm
                rw [← hek'] at hes
                refine ⟨_, run_value ?_, .d (sliced_rep hd hes h1 h2 h3 h4)⟩
                rw [hav]
                exact run_slice_sl hT ht rfl hei hrun
            · cases h
          · cases h
        · cases h
      · cases h
    · cases h
  case fieldAddr s x f =>
    split at h
    · rename_i hy ht
      split at h
      · rename_i fd hfd
        split at h
        · rename_i fi hfi
          split at h
          · rename_i h0
            obtain ⟨u, hu, hr⟩ := fieldA_sound hT hM ht rfl hfd hfi (by
              intro e
              rw [e] at h0
              simp at h0) (ok1_eq h) (ev_sound hM hy)
            exact ⟨u, run_value hu, hr⟩
          · cases h
        · cases h
      · cases h
    · cases h
  case indexAddr st x ix =>
    split at h
    · rename_i hy hix ht
      split at h
      · rename_i ei hei
        have := Rep.int_inv (ev_sound hM hix)
        obtain ⟨u, hu, hr⟩ := indexA_sound hT hM ht rfl hei h hp (ev_sound hM hy)
        exact ⟨u, run_value (by rw [this]; exact hu), hr⟩
      · cases h
    · cases h
  case index xt x ix =>
    split at h
    · rename_i hy hix ht
      cases h
      have h1 := Rep.str_inv (ev_sound hM hy)
      have h2 := Rep.int_inv (ev_sound hM hix)
      have hu := hT.und _ _ ht
      rename_i s k n _ _ _ _
      obtain ⟨h3, h4⟩ := hp
      have hlt : n.toNat < s.size := by omega
      have hget : s[n.toNat]? = some (s.data.toList.getD n.toNat 0) := by
        have hlt' : n.toNat < s.data.size := hlt
        rw [getElem?_pos s n.toNat hlt]
        have e2 : s.data[n.toNat]? = some s.data[n.toNat] := Array.getElem?_eq_getElem hlt'
        simp [e2]
        rfl
      refine ⟨_, run_value ?_, .d (.int _ _)⟩
      rw [h1, h2]
      simp [Instr.index, run_underlying hu, asIntOf, h3, hget]
    · cases h
  case extract x k =>
    split at h
    · rename_i l hx
      have hxr := ev_sound hM hx
      have hk := ok1_eq h
      cases hv : a.eval x with
      | tuple vs =>
        rw [hv] at hxr
        cases hxr with
        | tup cs vs hl hr =>
          have hlt : k < vs.size := by rw [hl]; exact (List.getElem?_eq_some_iff.1 hk).1
          exact ⟨vs.getD k undef, by simp [execOp, hv, Instr.extract, hlt], hr k _ hk⟩
      | _ => rw [hv] at hxr; cases hxr
    · rename_i l hx
      have hxr := ev_sound hM hx
      split at h
      · rename_i y hk
        cases h
        cases hxr with
        | d hxr =>
          cases hv : a.eval x with
          | tuple vs =>
            rw [hv] at hxr
            cases hxr with
            | tup cs vs hl hr =>
              have hlt : k < vs.size := by rw [hl]; exact (List.getElem?_eq_some_iff.1 hk).1
              exact ⟨vs.getD k undef, by simp [execOp, hv, Instr.extract, hlt], .d (hr k _ hk)⟩
          | _ => rw [hv] at hxr; cases hxr
      · cases h
    · cases h
  case call cl =>
    split at h
    · rename_i x at_ hcl harg hat
      split at h
      · rename_i hx
        obtain ⟨callee, args, argTypes⟩ := cl
        simp only at hcl harg hat
        subst hcl
        have ha : args = #[x] := by
          rcases args with ⟨l⟩
          simpa using harg
        have ht : argTypes = #[at_] := by
          rcases argTypes with ⟨l⟩
          simpa using hat
        subst ha; subst ht
        obtain ⟨u, hu, hr⟩ := lenA_sound (rt := t) hT hM (ok1_eq h) (ev_sound hM hx)
        refine ⟨u, ?_, hr⟩
        simp [execOp, resolve, invoke, builtin, hu]
      · cases h
    · rename_i x z t1 t2 hcl harg hat
      split at h
      · rename_i hx hz
        cases h
        obtain ⟨callee, args, argTypes⟩ := cl
        simp only at hcl harg hat
        subst hcl
        have ha : args = #[x, z] := by
          rcases args with ⟨l⟩
          simpa using harg
        have ht : argTypes = #[t1, t2] := by
          rcases argTypes with ⟨l⟩
          simpa using hat
        subst ha; subst ht
        have e1 := Rep.int_inv (ev_sound hM hx)
        have e2 := Rep.int_inv (ev_sound hM hz)
        refine ⟨_, ?_, .d (.int _ _)⟩
        simp [execOp, resolve, invoke, builtin, e1, e2, Builtin.min_, Builtin.min2, minI]
      · cases h
    · rename_i x z t1 t2 hcl harg hat
      split at h
      · rename_i hx hz
        cases h
        obtain ⟨callee, args, argTypes⟩ := cl
        simp only at hcl harg hat
        subst hcl
        have ha : args = #[x, z] := by
          rcases args with ⟨l⟩
          simpa using harg
        have ht : argTypes = #[t1, t2] := by
          rcases argTypes with ⟨l⟩
          simpa using hat
        subst ha; subst ht
        have e1 := Rep.int_inv (ev_sound hM hx)
        have e2 := Rep.int_inv (ev_sound hM hz)
        refine ⟨_, ?_, .d (.int _ _)⟩
        simp [execOp, resolve, invoke, builtin, e1, e2, Builtin.max_, Builtin.max2, maxI]
      · cases h
    · cases h
end
end Go.Am

/- The abstract machine, seventh part: what it means that code, or operations in a row, go through; rules for code. No program. -/
namespace Go.Am
open Go.RowKit
set_option linter.unusedSimpArgs false
set_option linter.unusedVariables false

/-- What is known of every world of a run: it stays true while the blocks below a bound stay. -/
structure Env where
  ok : World → Prop
  lim : Nat
  lim_le : ∀ w, ok w → lim ≤ w.heap.size
  stable : ∀ w w', ok w → w'.os = w.os → w'.tape = w.tape → w.heap.size ≤ w'.heap.size → (∀ b, b < lim → w'.heap[b]? = w.heap[b]?) → ok w'
  L : Nat
def Env.any : Env := ⟨fun _ => True, 0, fun _ _ => Nat.zero_le _, fun _ _ _ _ _ _ _ => trivial, 0⟩
/-- The same, behind so many numbers of objects. -/
def Env.at (Γ : Env) (n : Nat) : Env := { Γ with L := n }

structure Base0 (Γ : Env) (C : Ct) : Prop where
  ok : Γ.ok C.w
  lim : Γ.lim ≤ C.B
  B : C.B ≤ C.w.heap.size
structure Base (Γ : Env) (C : Ct) : Prop extends Base0 Γ C where
  ids : ∀ i, C.ok i = true → i < Γ.L

theorem Evo.below {C0 C : Ct} (hB : C0.B = C0.w.heap.size) (e : Evo C0 C) : Below C0.w.heap.size C0.w C.w :=
  ⟨e.os, e.tape, e.output, e.size, fun k hk => e.low k (by rw [hB]; exact hk)⟩
theorem Base0.up {Γ : Env} {C : Ct} (b : Base0 Γ C) {n : Nat} (h : ∀ i, C.ok i = true → i < n) : Base (Γ.at n) C := ⟨⟨b.ok, b.lim, b.B⟩, h⟩
theorem Base.evo {Γ : Env} {C0 C : Ct} (b : Base Γ C0) (e : Evo C0 C) : Base0 Γ C :=
  ⟨Γ.stable _ _ b.ok e.os e.tape e.size (fun k hk => e.low k (Nat.lt_of_lt_of_le hk b.lim)), by rw [e.B]; exact b.lim, by rw [e.B]; exact Nat.le_trans b.B e.size⟩

def post (C0 : Ct) (Q : Exit → St → Prop) : Exit → Act → World → Prop := fun e a w => ∃ σ C, C.w = w ∧ Models σ a C ∧ Evo C0 C ∧ Q e σ

def AWp (P : Program) (Γ : Env) (c : Code) (Q : Exit → St → Prop) (σ : St) : Prop :=
  ∀ (C0 : Ct) (a : Act) (C : Ct), Base Γ C0 → Evo C0 C → Models σ a C → c.wp P (post C0 Q) a C.w
def AOps (P : Program) (Γ : Env) (ops : List Oper) (Q : Exit → St → Prop) (rest : List Oper) (σ : St) : Prop :=
  ∀ (C0 : Ct) (a : Act) (C : Ct), Base Γ C0 → Evo C0 C → Models σ a C → wpList P ops.toArray (post C0 Q) rest a C.w

def AThen (K : St → Prop) (Q : Exit → St → Prop) : Exit → St → Prop
  | .normal, σ => K σ
  | e, σ => Q e σ
def AIn (id : Nat) (Q : Exit → St → Prop) : Exit → St → Prop
  | .exit id', σ => match Nat.beq id' id with
    | true => Q .normal σ
    | false => Q (.exit id') σ
  | e, σ => Q e σ

section
variable {P : Program} {Γ : Env} {Q : Exit → St → Prop} {σ : St}

theorem awp_mono {c : Code} {Q' : Exit → St → Prop} (h : AWp P Γ c Q σ) (hq : ∀ e σ, Q e σ → Q' e σ) : AWp P Γ c Q' σ :=
  fun C0 a C b e m => Code.wp_mono (fun ex a' w' ⟨σ', C', h1, h2, h3, h4⟩ => ⟨σ', C', h1, h2, h3, hq _ _ h4⟩) (h C0 a C b e m)

theorem awp_skip (h : Q .normal σ) : AWp P Γ .skip Q σ := fun C0 a C b e m => wp_skip ⟨σ, C, rfl, m, e, h⟩
theorem awp_ret (h : Q .ret σ) : AWp P Γ .ret Q σ := fun C0 a C b e m => wp_ret ⟨σ, C, rfl, m, e, h⟩
theorem awp_exit {id : Nat} (h : Q (.exit id) σ) : AWp P Γ (.exit id) Q σ := fun C0 a C b e m => wp_exit ⟨σ, C, rfl, m, e, h⟩
theorem awp_seq {x y : Code} (h : AWp P Γ x (AThen (AWp P Γ y Q) Q) σ) : AWp P Γ (.seq x y) Q σ := fun C0 a C b e m => by
  refine wp_seq (Code.wp_mono (fun ex a' w' hh => ?_) (h C0 a C b e m))
  obtain ⟨σ', C', rfl, h2, h3, h4⟩ := hh
  cases ex with
  | normal => exact h4 C0 a' C' b h3 h2
  | _ => exact ⟨σ', C', rfl, h2, h3, h4⟩
theorem awp_block {id : Nat} {c : Code} (h : AWp P Γ c (AIn id Q) σ) : AWp P Γ (.block id c) Q σ := fun C0 a C b e m => by
  refine wp_block (Code.wp_mono (fun ex a' w' hh => ?_) (h C0 a C b e m))
  obtain ⟨σ', C', rfl, h2, h3, h4⟩ := hh
  cases ex with
  | exit id' =>
    simp only [AIn] at h4
    simp only [Exit.inBlock]
    by_cases hid : id' = id
    · subst hid
      rw [if_pos rfl]
      simp only [Nat.beq_refl] at h4
      exact ⟨σ', C', rfl, h2, h3, by simpa using h4⟩
    · have hb : Nat.beq id' id = false := by
        cases hb : Nat.beq id' id with
        | false => rfl
        | true => exact absurd (Nat.eq_of_beq_eq_true hb) hid
      rw [if_neg hid]
      simp only [hb] at h4
      exact ⟨σ', C', rfl, h2, h3, h4⟩
  | _ => exact ⟨σ', C', rfl, h2, h3, h4⟩
theorem awp_cond {ty : TypeId → Option TI} {x : Operand} {y z : Code} {b : Bool} (hx : σ.ev ty 0 x = some (.d (.bool b))) (ht : b = true → AWp P Γ y Q σ) (hf : b = false → AWp P Γ z Q σ) : AWp P Γ (.cond x y z) Q σ :=
  fun C0 a C hb e m => wp_cond_split (Rep.bool_inv (ev_sound m hx)) (fun h => ht h C0 a C hb e m) (fun h => hf h C0 a C hb e m)

/-- A loop, with a measure on something that stands in no slot. -/
theorem wp_loop_ghost {G : Type} {c : Code} {R : Exit → Act → World → Prop} {a : Act} {w : World} (I : G → Act → World → Prop) (μ : G → Nat) (g : G) (h₀ : I g a w)
    (round : ∀ g a w, I g a w → c.wp P (Exit.then (fun a' w' => ∃ g', I g' a' w' ∧ μ g' < μ g) R) a w) : (Code.loop c).wp P R a w := by
  intro b k cs
  have key : ∀ n g a w, μ g = n → I g a w → ∃ e a' w', R e a' w' ∧ Arrives P (lone (b.at a (.code c :: .inLoop c :: k)) cs w) b k cs e a' w' := by
    intro n
    induction n using Nat.strongRecOn with
    | _ n ih =>
      intro g a w hn hI
      obtain ⟨e, a₁, w₁, hq, harr⟩ := round g a w hI b (.inLoop c :: k) cs
      cases e with
      | normal =>
        obtain ⟨g₁, hI₁, hlt⟩ := hq
        obtain ⟨e₂, a₂, w₂, hq₂, harr₂⟩ := ih (μ g₁) (hn ▸ hlt) g₁ a₁ w₁ rfl hI₁
        exact ⟨e₂, a₂, w₂, hq₂, .of_steps (Steps.trans harr (.one step_inLoop)) harr₂⟩
      | exit id => exact ⟨_, a₁, w₁, hq, .pass (x := .inLoop c) rfl (fun _ _ => .inl (by simp)) harr⟩
      | goto l => exact ⟨_, a₁, w₁, hq, .pass (x := .inLoop c) rfl (fun _ _ => .inl (by simp)) harr⟩
      | ret => exact ⟨_, a₁, w₁, hq, .pass (x := .inLoop c) rfl (fun _ _ => .inl (by simp)) harr⟩
      | panic ch => exact ⟨_, a₁, w₁, hq, .pass (x := .inLoop c) rfl (fun _ _ => .inl (by simp)) harr⟩
      | outgrown => exact ⟨_, a₁, w₁, hq, .pass (x := .inLoop c) rfl (fun _ _ => .inl (by simp)) harr⟩
  obtain ⟨e, a', w', hq, harr⟩ := key _ g a w rfl h₀
  exact ⟨e, a', w', hq, .of_steps (.one step_loop) harr⟩

/-- A state that knows less. -/
structure Sub (σ σ' : St) : Prop where
  sz : σ'.sz = σ.sz
  nx : σ'.nx = σ.nx
  tm : ∀ t x, σ'.get t = some x → σ.get t = some x
  ob : ∀ i o, σ'.obj i = some o → σ.obj i = some o
theorem Models.sub {σ σ' : St} {a : Act} {C : Ct} (h : Models σ a C) (s : Sub σ σ') : Models σ' a C :=
  ⟨h.defers, by rw [s.sz]; exact h.sz, by rw [s.nx]; exact h.nx, fun t x ht => by rw [s.sz]; exact h.tm t x (s.tm t x ht), fun i o hi => h.ob i o (s.ob i o hi),
   fun i j o o' g hi hj => h.apart i j o o' g (s.ob i o hi) (s.ob j o' hj)⟩
def SubT (σ : St) : List (Nat × AV) → Prop
  | [] => True
  | (t, x) :: r => σ.get t = some x ∧ SubT σ r
def SubO (σ : St) : List (Nat × AO) → Prop
  | [] => True
  | (i, o) :: r => σ.obj i = some o ∧ SubO σ r
theorem SubT.get {σ : St} : ∀ {l : List (Nat × AV)}, SubT σ l → ∀ t x, look t l = some x → σ.get t = some x
  | [], _, t, x, h => by cases h
  | (k, y) :: r, hs, t, x, h => by
    rw [look_cons] at h
    split at h
    · rename_i e
      subst e
      cases h
      exact hs.1
    · exact hs.2.get t x h
theorem SubO.get {σ : St} : ∀ {l : List (Nat × AO)}, SubO σ l → ∀ i o, look i l = some o → σ.obj i = some o
  | [], _, t, x, h => by cases h
  | (k, y) :: r, hs, t, x, h => by
    rw [look_cons] at h
    split at h
    · rename_i e
      subst e
      cases h
      exact hs.1
    · exact hs.2.get t x h
theorem Sub.mk' {sz nx : Nat} {tm : List (Nat × AV)} {ob : List (Nat × AO)} (h1 : σ.sz = sz) (h2 : σ.nx = nx) (h3 : SubT σ tm) (h4 : SubO σ ob) : Sub σ ⟨sz, tm, ob, nx⟩ :=
  ⟨h1.symm, h2.symm, h3.get, h4.get⟩
theorem awp_sub {c : Code} {σ' : St} (s : Sub σ σ') (h : AWp P Γ c Q σ') : AWp P Γ c Q σ := fun C0 a C b e m => h C0 a C b e (m.sub s)

/-- A loop: a family of states, a measure; each round starts in one of them and ends in one that is lower. -/
theorem awp_loop {G : Type} {c : Code} (S : G → St) (μ : G → Nat) (g : G) (h0 : Sub σ (S g)) (round : ∀ g, AWp P Γ c (AThen (fun σ' => ∃ g', Sub σ' (S g') ∧ μ g' < μ g) Q) (S g)) : AWp P Γ (.loop c) Q σ := fun C0 a C b e m => by
  refine wp_loop_ghost (G := G) (fun g a w => ∃ C, C.w = w ∧ Models (S g) a C ∧ Evo C0 C) μ g ⟨C, rfl, m.sub h0, e⟩ (fun g a w ⟨C, hw, m, e⟩ => ?_)
  subst hw
  refine Code.wp_mono (fun ex a' w' hh => ?_) (round g C0 a C b e m)
  obtain ⟨σ', C', rfl, h2, h3, h4⟩ := hh
  cases ex with
  | normal =>
    obtain ⟨g', hs, hlt⟩ := h4
    exact ⟨g', ⟨C', rfl, h2.sub hs, h3⟩, hlt⟩
  | _ => exact ⟨σ', C', rfl, h2, h3, h4⟩

/-! ### Operations in a row -/
theorem awp_region {id : Nat} {l : List Oper} (h : AOps P Γ l Q l σ) : AWp P Γ (.region id l.toArray false) Q σ := fun C0 a C b e m => wp_region_lit (h C0 a C b e m)
theorem aops_nil {ops : List Oper} (h : Q .normal σ) : AOps P Γ ops Q [] σ := fun C0 a C b e m => wpList_nil ⟨σ, C, rfl, m, e, h⟩

theorem Rep.un_inv {c : Ct} {v : Value} (h : Rep c .un v) : v = Go.undef := by cases h; rfl
def wantedA (ops : List Oper) (σ : St) (o : Oper) : Option Bool := match o.guard with
  | none => some true
  | some (j, want) => match ops[j]? with
    | some oj => match oj.dst with
      | some t => match σ.get t with
        | some (.d (.bool b)) => match want with
          | true => some b
          | false => some (!b)
        | some .un => some false
        | _ => none
      | none => none
    | none => none

theorem wantedA_sound {ops : List Oper} {o : Oper} {b : Bool} {a : Act} {C : Ct} (m : Models σ a C) (h : wantedA ops σ o = some b) : Region.wanted o (yielded ops.toArray a.tmps) = b := by
  unfold wantedA at h
  unfold Region.wanted
  split at h
  · rename_i hg; rw [hg]; cases h; rfl
  · rename_i j want hg
    rw [hg]
    split at h
    · rename_i oj hj
      split at h
      · rename_i t ht
        split at h
        · rename_i bb hv
          have hr := (m.tm t _ hv)
          have hbv := Rep.bool_inv hr.2
          have hy : yielded ops.toArray a.tmps j = some bb := by
            have hlt : t < a.tmps.size := by rw [m.sz]; exact hr.1
            simp only [yielded]
            simp [hj, ht]
            have := hbv
            simp [hlt] at this
            simp [hlt, this]
          simp only [hy]
          split at h
          · cases h; cases b <;> rfl
          · cases h; cases bb <;> rfl
        · rename_i hv
          cases h
          have hr := (m.tm t _ hv)
          have hbv : a.tmps.getD t undef = undef := Rep.un_inv hr.2
          have hy : yielded ops.toArray a.tmps j = none := by
            have hlt : t < a.tmps.size := by rw [m.sz]; exact hr.1
            simp only [yielded]
            simp [hj, ht]
            simp [hlt] at hbv
            simp [hlt, hbv, undef]
          simp only [hy]
          cases want <;> rfl
        · cases h
      · cases h
    · cases h

/-- One operation is carried out, and leaves a state. -/
theorem aops_step {ops rest : List Oper} {o : Oper} (hw : wantedA ops σ o = some true)
    (h : ∀ (C0 : Ct) (a : Act) (C : Ct) (K : Act → World → Prop) (R : Exit → Act → World → Prop), Base Γ C0 → Evo C0 C → Models σ a C →
      (∀ a' C' σ', Models σ' a' C' → Evo C0 C' → AOps P Γ ops Q rest σ' → K a' C'.w) → o.wp P a C.w K R) : AOps P Γ ops Q (o :: rest) σ := fun C0 a C b e m => by
  unfold wpList
  rw [if_pos (wantedA_sound m hw)]
  exact .inl (h C0 a C _ _ b e m (fun a' C' σ' m' e' h' => h' C0 a' C' b e' m'))

theorem aops_skip {ops rest : List Oper} {o : Oper} (hw : wantedA ops σ o = some false) (hd : ∀ d, o.dst = some d → d < σ.sz) (h : AOps P Γ ops Q rest (σ.put o.dst .un)) : AOps P Γ ops Q (o :: rest) σ := fun C0 a C b e m => by
  unfold wpList
  rw [if_neg (by rw [wantedA_sound m hw]; simp)]
  exact h C0 _ C b e (m.put .un hd)

/-- A guard that is not known: both ways, the guard's slot then known. -/
theorem aops_guard {ops rest : List Oper} {o : Oper} {j : Nat} {want : Bool} {oj : Oper} {t : Nat} {b : Bool} (hg : o.guard = some (j, want)) (hj : ops[j]? = some oj) (ht : oj.dst = some t) (hv : σ.get t = some (.d (.bool b)))
    (h1 : b = true → AOps P Γ ops Q (o :: rest) (σ.put (some t) (.d (.bool true)))) (h2 : b = false → AOps P Γ ops Q (o :: rest) (σ.put (some t) (.d (.bool false)))) : AOps P Γ ops Q (o :: rest) σ := fun C0 a C bb e m => by
  have key : ∀ b', b = b' → Models (σ.put (some t) (.d (.bool b'))) a C := by
    rintro b' rfl
    refine ⟨m.defers, m.sz, m.nx, fun s x hs => ?_, m.ob, m.apart⟩
    rw [St.get, St.put, look_cons] at hs
    split at hs
    · rename_i e'
      subst e'
      cases hs
      exact m.tm _ _ hv
    · exact m.tm s x hs
  cases hb : b with
  | true => exact h1 hb C0 a C bb e (key true hb)
  | false => exact h2 hb C0 a C bb e (key false hb)

theorem upon_value {o : Oper} {a : Act} {w w' : World} {v : Value} {K : Act → World → Prop} {R : Exit → Act → World → Prop} (h : (execOp a.eval o).run P w = .ok (.value v) w') (hk : K (a.put o.dst v) w') : o.wp P a w K R := by
  unfold Oper.wp
  rw [h]
  exact hk
theorem upon_skip {o : Oper} {a : Act} {w w' : World} {K : Act → World → Prop} {R : Exit → Act → World → Prop} (h : (execOp a.eval o).run P w = .ok .skip w') (hk : K (a.put o.dst undef) w') : o.wp P a w K R := by
  unfold Oper.wp
  rw [h]
  exact hk

def dstOk (σ : St) (dst : Option Tmp) : Bool := match dst with
  | none => true
  | some d => Nat.blt d σ.sz
theorem dstOk_spec {dst : Option Tmp} (h : dstOk σ dst = true) : ∀ d, dst = some d → d < σ.sz := by
  rintro d rfl
  simpa [dstOk, Nat.blt_eq] using h

theorem aops_pure {ty : TypeId → Option TI} (hT : TyOk P ty) {ops rest : List Oper} {o : Oper} {p : Prop} {y : AV} (hw : wantedA ops σ o = some true) (hd : dstOk σ o.dst = true) (h : pureOp ty σ o.type o.op = some (p, y)) (hp : p)
    (k : AOps P Γ ops Q rest (σ.put o.dst y)) : AOps P Γ ops Q (o :: rest) σ :=
  aops_step hw fun C0 a C K R b e m hk => by
    obtain ⟨v, hv, hr⟩ := pureOp_sound hT m h hp
    exact upon_value hv (hk _ C _ (m.put hr (dstOk_spec hd)) e k)
end

/-! ### Objects renumbered -/
def renId (L : Nat) (m : List (Nat × Nat)) (i : Nat) : Option Nat := match look i m with
  | some j => some j
  | none => match Nat.blt i L with
    | true => some i
    | false => none
def ren1 (L : Nat) (m : List (Nat × Nat)) : AV → AV
  | .ref i => match renId L m i with
    | some j => .ref j
    | none => .undef
  | .ptr i off => match renId L m i with
    | some j => .ptr j off
    | none => .undef
  | .elt i ek k => match renId L m i with
    | some j => .elt j ek k
    | none => .undef
  | .d x => .d x
  | .nil ek => .nil ek
  | .empty ek => .empty ek
  | .un => .un
  | .at_ ek x => .at_ ek x
  | _ => .undef
def renA (L : Nat) (m : List (Nat × Nat)) : AV → AV
  | .agg cs => match (cs.map (ren1 L m)).all (·.one) with
    | true => .agg (cs.map (ren1 L m))
    | false => .undef
  | .tup cs => .tup (cs.map (ren1 L m))
  | .fn f cap => .fn f (cap.map (ren1 L m))
  | x => ren1 L m x
def renO (L : Nat) (m : List (Nat × Nat)) : AO → AO
  | .box t cs => match (cs.map (ren1 L m)).all (·.one) with
    | true => .box t (cs.map (ren1 L m))
    | false => .dead
  | .map es => .map (es.map fun p => (p.1, renA L m p.2))
  | o => o
/-- The old number. -/
def oldId (L : Nat) (i : Nat) : List (Nat × Nat) → Option Nat
  | [] => match Nat.blt i L with
    | true => some i
    | false => none
  | (o, n) :: r => match Nat.beq n i with
    | true => some o
    | false => oldId L i r
/-- A renumbering: each pair is an old number and a new one. -/
def renOk (L nx : Nat) : List (Nat × Nat) → Bool
  | [] => Nat.ble L nx
  | (o, n) :: r => Nat.ble L o && Nat.ble L n && Nat.blt n nx && r.all (fun p => !Nat.beq p.1 o && !Nat.beq p.2 n) && renOk L nx r

theorem renOk_nx {L nx : Nat} : ∀ {m : List (Nat × Nat)}, renOk L nx m = true → L ≤ nx
  | [], h => Nat.le_of_ble_eq_true h
  | (o, n) :: r, h => by
    simp only [renOk, Bool.and_eq_true] at h
    exact renOk_nx h.2
theorem renOk_mem {L nx : Nat} : ∀ {m : List (Nat × Nat)}, renOk L nx m = true → ∀ o n, (o, n) ∈ m → L ≤ o ∧ L ≤ n ∧ n < nx ∧ oldId L n m = some o ∧ look o m = some n
  | [], h, o, n, hm => by cases hm
  | (o', n') :: r, h, o, n, hm => by
    simp only [renOk, Bool.and_eq_true, Nat.ble_eq, Nat.blt_eq, List.all_eq_true, Bool.not_eq_true'] at h
    obtain ⟨⟨⟨⟨h1, h2⟩, h3⟩, h4⟩, h5⟩ := h
    rcases List.mem_cons.1 hm with he | hm'
    · cases he
      exact ⟨h1, h2, h3, by simp [oldId], by simp [look]⟩
    · obtain ⟨g1, g2, g3, g4, g5⟩ := renOk_mem h5 o n hm'
      obtain ⟨k1, k2⟩ := h4 (o, n) hm'
      refine ⟨g1, g2, g3, ?_, ?_⟩
      · have : Nat.beq n' n = false := by
          cases hb : Nat.beq n' n with
          | false => rfl
          | true => rw [Nat.eq_of_beq_eq_true hb] at k2; simp at k2
        simp only [oldId, this]
        exact g4
      · rw [look_cons, if_neg]
        · exact g5
        · intro he
          subst he
          simp at k1
theorem look_mem {α : Type} : ∀ {l : List (Nat × α)} {t : Nat} {x : α}, look t l = some x → (t, x) ∈ l
  | [], t, x, h => by cases h
  | (k, y) :: r, t, x, h => by
    rw [look_cons] at h
    split at h
    · rename_i e
      subst e
      cases h
      exact List.mem_cons_self ..
    · exact List.mem_cons_of_mem _ (look_mem h)
theorem oldId_spec {L i j : Nat} : ∀ {m : List (Nat × Nat)}, oldId L i m = some j → (j, i) ∈ m ∨ (i < L ∧ j = i)
  | [], h => by
    simp only [oldId] at h
    split at h
    · rename_i hl
      cases h
      exact .inr ⟨by simpa [Nat.blt_eq] using hl, rfl⟩
    · cases h
  | (o, n) :: r, h => by
    simp only [oldId] at h
    split at h
    · rename_i hb
      cases h
      rw [Nat.eq_of_beq_eq_true hb]
      exact .inl (List.mem_cons_self ..)
    · rcases oldId_spec h with h | h
      · exact .inl (List.mem_cons_of_mem _ h)
      · exact .inr h
theorem renId_old {L nx : Nat} {m : List (Nat × Nat)} (hm : renOk L nx m = true) {i j : Nat} (h : renId L m i = some j) : (j < L → j = i) ∧ (L ≤ j → oldId L j m = some i) ∧ (j < L ∨ oldId L j m = some i) := by
  unfold renId at h
  split at h
  · rename_i j' hl
    cases h
    obtain ⟨h1, h2, h3, h4, h5⟩ := renOk_mem hm _ _ (look_mem hl)
    exact ⟨fun h => by omega, fun _ => h4, .inr h4⟩
  · split at h
    · rename_i hl
      cases h
      have : i < L := by simpa [Nat.blt_eq] using hl
      exact ⟨fun _ => rfl, fun h => by omega, .inl this⟩
    · cases h

/-- The concrete state, renumbered. -/
def Ct.ren (C : Ct) (L : Nat) (m : List (Nat × Nat)) : Ct :=
  { C with
    ρ := fun i => if i < L then C.ρ i else match oldId L i m with
      | some j => C.ρ j
      | none => C.ρ i
    ok := fun i => if i < L then C.ok i else match oldId L i m with
      | some j => C.ok j
      | none => false }
theorem Ct.ren_at {C : Ct} {L nx : Nat} {m : List (Nat × Nat)} (hm : renOk L nx m = true) {i j : Nat} (h : renId L m i = some j) : (C.ren L m).ρ j = C.ρ i ∧ (C.ren L m).ok j = C.ok i := by
  obtain ⟨h1, h2, _⟩ := renId_old hm h
  by_cases hj : j < L
  · have := h1 hj
    subst this
    simp [Ct.ren, hj]
  · have := h2 (by omega)
    simp [Ct.ren, hj, this]
theorem ren1_sound {C : Ct} {L nx : Nat} {m : List (Nat × Nat)} (hm : renOk L nx m = true) {x : AV} {v : Value} (h : Rep C x v) : Rep (C.ren L m) (ren1 L m x) v := by
  cases h with
  | undef v => exact .undef v
  | un => exact .un
  | d h => exact .d h
  | nil ek => exact .nil ek
  | empty ek a => exact .empty ek a
  | agg => exact .undef _
  | tup => exact .undef _
  | fn => exact .undef _
  | at_ ek x b off hf hm => exact .at_ ek x b off hf hm
  | ref i hi v hv h1 =>
    simp only [ren1]
    split
    · rename_i j hj
      obtain ⟨e1, e2⟩ := Ct.ren_at (C := C) hm hj
      exact .ref j (e2.trans hi) v (hv.trans e1.symm) h1
    · exact .undef _
  | ptr i off g hi hg =>
    simp only [ren1]
    split
    · rename_i j hj
      obtain ⟨e1, e2⟩ := Ct.ren_at (C := C) hm hj
      exact .ptr j off g (e2.trans hi) (by rw [e1]; exact hg)
    · exact .undef _
  | elt i ek k g hi hg =>
    simp only [ren1]
    split
    · rename_i j hj
      obtain ⟨e1, e2⟩ := Ct.ren_at (C := C) hm hj
      exact .elt j ek k g (e2.trans hi) (by rw [e1]; exact hg)
    · exact .undef _
theorem map_ren {C : Ct} {L nx : Nat} {m : List (Nat × Nat)} (hm : renOk L nx m = true) {cs : List AV} {f : Nat → Value} (hr : ∀ (j : Nat) (y : AV), cs[j]? = some y → Rep C y (f j)) :
    ∀ (j : Nat) (y : AV), (cs.map (ren1 L m))[j]? = some y → Rep (C.ren L m) y (f j) := by
  intro j y hj
  rw [List.getElem?_map] at hj
  obtain ⟨x, hx, rfl⟩ := Option.map_eq_some_iff.1 hj
  exact ren1_sound hm (hr j x hx)
theorem renA_sound {C : Ct} {L nx : Nat} {m : List (Nat × Nat)} (hm : renOk L nx m = true) {x : AV} {v : Value} (h : Rep C x v) : Rep (C.ren L m) (renA L m x) v := by
  cases h with
  | agg cs vs hl h1 hr =>
    simp only [renA]
    split
    · rename_i ha
      exact .agg _ vs (by simpa using hl) (List.all_eq_true.1 ha) (map_ren hm hr)
    · exact .undef _
  | tup cs vs hl hr => exact .tup _ vs (by simpa using hl) (map_ren hm hr)
  | fn f cap vs hl hr => exact .fn f _ vs (by simpa using hl) (map_ren hm hr)
  | undef v => exact ren1_sound hm (.undef v)
  | un => exact ren1_sound hm .un
  | d h => exact ren1_sound hm (.d h)
  | nil ek => exact ren1_sound hm (.nil ek)
  | empty ek a => exact ren1_sound hm (.empty ek a)
  | at_ ek x b off hf hm' => exact ren1_sound hm (.at_ ek x b off hf hm')
  | ref i hi v hv h1 => exact ren1_sound hm (.ref i hi v hv h1)
  | ptr i off g hi hg => exact ren1_sound hm (.ptr i off g hi hg)
  | elt i ek k g hi hg => exact ren1_sound hm (.elt i ek k g hi hg)
theorem renO_sound {C : Ct} {L nx : Nat} {m : List (Nat × Nat)} (hm : renOk L nx m = true) {i j : Nat} (hj : renId L m i = some j) {o : AO} (h : ORep C i o) : ORep (C.ren L m) j (renO L m o) := by
  obtain ⟨e1, e2⟩ := Ct.ren_at (C := C) hm hj
  cases o with
  | box t cs =>
    obtain ⟨hi, g, cur, hρ, hp, hB, hg, hs, h1, hr⟩ := h
    simp only [renO]
    split
    · rename_i ha
      exact ⟨e2.trans hi, g, cur, e1.trans hρ, hp, hB, hg, by simpa using hs, List.all_eq_true.1 ha, map_ren hm hr⟩
    · exact e2.trans hi
  | row ek t xs =>
    obtain ⟨hi, vals, ho, hp, hc⟩ := h
    exact ⟨e2.trans hi, vals, by rw [e1]; exact ho, by rw [e1]; exact hp, hc⟩
  | frz ek xs => exact ⟨⟨e2.trans h.1.1, by rw [e1]; exact h.1.2⟩, by rw [e1]; exact h.2⟩
  | map es =>
    obtain ⟨hi, g, en, hρ, hp, hB, hg, hs, hr⟩ := h
    refine ⟨e2.trans hi, g, en, e1.trans hρ, hp, hB, hg, by simpa using hs, fun j k x hj => ?_⟩
    rw [List.getElem?_map] at hj
    obtain ⟨⟨k', x'⟩, hx, he⟩ := Option.map_eq_some_iff.1 hj
    cases he
    obtain ⟨q, a, b, d⟩ := hr j k' x' hx
    exact ⟨q, a, b, renA_sound hm d⟩
  | dead => exact e2.trans h

theorem renO_excl {L : Nat} {m : List (Nat × Nat)} {o : AO} (h : (renO L m o).excl = true) : o.excl = true := by
  cases o with
  | box => rfl
  | row => rfl
  | frz => exact h
  | map => rfl
  | dead => exact h

/-- A state that knows less, its objects renumbered. -/
structure SubR (L : Nat) (m : List (Nat × Nat)) (σ σ' : St) : Prop where
  sz : σ'.sz = σ.sz
  ok : renOk L σ'.nx m = true
  tm : ∀ t x, σ'.get t = some x → ∃ y, σ.get t = some y ∧ renA L m y = x
  ob : ∀ i o, σ'.obj i = some o → ∃ j p, oldId L i m = some j ∧ σ.obj j = some p ∧ renO L m p = o
theorem renId_of_old {L nx : Nat} {m : List (Nat × Nat)} (hm : renOk L nx m = true) {i j : Nat} (h : oldId L i m = some j) : renId L m j = some i := by
  rcases oldId_spec h with h | ⟨h, rfl⟩
  · obtain ⟨_, _, _, _, h5⟩ := renOk_mem hm _ _ h
    simp [renId, h5]
  · have : look j m = none := by
      cases hl : look j m with
      | none => rfl
      | some n =>
        have := (renOk_mem hm _ _ (look_mem hl)).1
        omega
    have hb : Nat.blt j L = true := by simpa [Nat.blt_eq] using h
    simp [renId, this, hb]
theorem Models.ren {σ σ' : St} {a : Act} {C : Ct} (h : Models σ a C) {L : Nat} {m : List (Nat × Nat)} (s : SubR L m σ σ') : Models σ' a (C.ren L m) := by
  refine ⟨h.defers, by rw [s.sz]; exact h.sz, fun i hi => ?_, fun t x ht => ?_, fun i o hi => ?_, fun i j o o' g hi hj ho ho' hg hg' => ?_⟩
  · simp only [Ct.ren] at hi
    split at hi
    · rename_i hlt
      exact Nat.lt_of_lt_of_le hlt (renOk_nx s.ok)
    · rename_i hlt
      split at hi
      · rename_i j hj
        rcases oldId_spec hj with h1 | ⟨h1, _⟩
        · exact (renOk_mem s.ok _ _ h1).2.2.1
        · exact absurd h1 hlt
      · cases hi
  · obtain ⟨y, hy, rfl⟩ := s.tm t x ht
    rw [s.sz]
    exact ⟨(h.tm t y hy).1, renA_sound s.ok (h.tm t y hy).2⟩
  · obtain ⟨j, p, hj, hp, rfl⟩ := s.ob i o hi
    exact renO_sound s.ok (renId_of_old s.ok hj) (h.ob j p hp)
  · obtain ⟨j1, p1, hj1, hp1, rfl⟩ := s.ob i o hi
    obtain ⟨j2, p2, hj2, hp2, rfl⟩ := s.ob j o' hj
    rw [(Ct.ren_at s.ok (renId_of_old s.ok hj1)).1] at hg
    rw [(Ct.ren_at s.ok (renId_of_old s.ok hj2)).1] at hg'
    have := h.apart j1 j2 p1 p2 g hp1 hp2 (renO_excl ho) (renO_excl ho') hg hg'
    subst this
    have e1 := renId_of_old s.ok hj1
    have e2 := renId_of_old s.ok hj2
    rw [e1] at e2
    exact Option.some.inj e2
theorem Ct.ren_evo {C0 C : Ct} {L : Nat} (hL : ∀ i, C0.ok i = true → i < L) (e : Evo C0 C) (m : List (Nat × Nat)) : Evo C0 (C.ren L m) :=
  ⟨e.os, e.tape, e.output, e.size, e.kept, fun i hi => by simp only [Ct.ren]; rw [if_pos (hL i hi)]; exact e.ok i hi, fun i hi => by simp only [Ct.ren]; rw [if_pos (hL i hi)]; exact e.ρ i hi, e.B, e.low, e.prlow⟩

def SubRT (L : Nat) (m : List (Nat × Nat)) (σ : St) : List (Nat × AV) → Prop
  | [] => True
  | (t, x) :: r => (∃ y, σ.get t = some y ∧ renA L m y = x) ∧ SubRT L m σ r
def SubRO (L : Nat) (m : List (Nat × Nat)) (σ : St) : List (Nat × AO) → Prop
  | [] => True
  | (i, o) :: r => (∃ j p, oldId L i m = some j ∧ σ.obj j = some p ∧ renO L m p = o) ∧ SubRO L m σ r
theorem SubRT.get {L : Nat} {m : List (Nat × Nat)} {σ : St} : ∀ {l : List (Nat × AV)}, SubRT L m σ l → ∀ t x, look t l = some x → ∃ y, σ.get t = some y ∧ renA L m y = x
  | [], _, t, x, h => by cases h
  | (k, y) :: r, hs, t, x, h => by
    rw [look_cons] at h
    split at h
    · rename_i e
      subst e
      cases h
      exact hs.1
    · exact hs.2.get t x h
theorem SubRO.get {L : Nat} {m : List (Nat × Nat)} {σ : St} : ∀ {l : List (Nat × AO)}, SubRO L m σ l → ∀ i o, look i l = some o → ∃ j p, oldId L i m = some j ∧ σ.obj j = some p ∧ renO L m p = o
  | [], _, t, x, h => by cases h
  | (k, y) :: r, hs, t, x, h => by
    rw [look_cons] at h
    split at h
    · rename_i e
      subst e
      cases h
      exact hs.1
    · exact hs.2.get t x h
theorem SubR.mk' {σ : St} {L sz nx : Nat} {m : List (Nat × Nat)} {tm : List (Nat × AV)} {ob : List (Nat × AO)} (h1 : σ.sz = sz) (h2 : renOk L nx m = true) (h3 : SubRT L m σ tm) (h4 : SubRO L m σ ob) : SubR L m σ ⟨sz, tm, ob, nx⟩ :=
  ⟨h1.symm, h2, h3.get, h4.get⟩
section
variable {P : Program} {Γ : Env} {Q : Exit → St → Prop} {σ : St}
theorem awp_ren {c : Code} {σ' : St} (m : List (Nat × Nat)) (s : SubR Γ.L m σ σ') (h : AWp P Γ c Q σ') : AWp P Γ c Q σ := fun C0 a C b e md => h C0 a (C.ren Γ.L m) b (Ct.ren_evo b.ids e m) (md.ren s)
theorem aops_ren {ops rest : List Oper} {σ' : St} (m : List (Nat × Nat)) (s : SubR Γ.L m σ σ') (h : AOps P Γ ops Q rest σ') : AOps P Γ ops Q rest σ := fun C0 a C b e md => h C0 a (C.ren Γ.L m) b (Ct.ren_evo b.ids e m) (md.ren s)

/-- A loop whose objects are renumbered at the end of each round. -/
theorem awp_loopR {G : Type} {c : Code} (S : G → St) (μ : G → Nat) (g : G) (m0 : List (Nat × Nat)) (h0 : SubR Γ.L m0 σ (S g)) (round : ∀ g, AWp P Γ c (AThen (fun σ' => ∃ g' m, SubR Γ.L m σ' (S g') ∧ μ g' < μ g) Q) (S g)) : AWp P Γ (.loop c) Q σ := fun C0 a C b e md => by
  refine wp_loop_ghost (G := G) (fun g a w => ∃ C, C.w = w ∧ Models (S g) a C ∧ Evo C0 C) μ g ⟨C.ren Γ.L m0, rfl, md.ren h0, Ct.ren_evo b.ids e m0⟩ (fun g a w ⟨C, hw, m, e⟩ => ?_)
  subst hw
  refine Code.wp_mono (fun ex a' w' hh => ?_) (round g C0 a C b e m)
  obtain ⟨σ', C', rfl, h2, h3, h4⟩ := hh
  cases ex with
  | normal =>
    obtain ⟨g', m', hs, hlt⟩ := h4
    exact ⟨g', ⟨C'.ren Γ.L m', rfl, h2.ren hs, Ct.ren_evo b.ids h3 m'⟩, hlt⟩
  | _ => exact ⟨σ', C', rfl, h2, h3, h4⟩
end
end Go.Am

/- The abstract machine, eighth part: operations that make or write objects. No program. -/
namespace Go.Am
open Go.RowKit
set_option linter.unusedSimpArgs false
set_option linter.unusedVariables false

section
variable {P : Program} {Γ : Env} {Q : Exit → St → Prop} {σ : St} {ty : TypeId → Option TI}

theorem ORep.excl {C : Ct} {i : Nat} {o : AO} (h : ORep C i o) (he : o.excl = true) {g : Nat} (hg : blk (C.ρ i) = some g) : g < C.w.heap.size ∧ C.pr g = false ∧ C.B ≤ g := by
  cases o with
  | box t cs =>
    obtain ⟨_, g', cur, hρ, hp, hB, hh, _⟩ := h
    rw [hρ] at hg
    have : g' = g := by simpa [blk] using hg
    subst this
    exact ⟨(Array.getElem?_eq_some_iff.1 hh).1, hp, hB⟩
  | row ek e xs =>
    obtain ⟨_, vals, ho, hp, _⟩ := h
    refine ⟨?_, hp g hg, ?_⟩
    all_goals
      rcases ho.2 with ⟨hn, _⟩ | ⟨g', cap, cur, hv, hb, hh, _⟩
      · rw [hn] at hg; simp [blk] at hg
      · rw [hv] at hg
        have : g' = g := by simpa [blk] using hg
        subst this
        first | exact (Array.getElem?_eq_some_iff.1 hh).1 | exact hb
  | frz => simp [AO.excl] at he
  | map es =>
    obtain ⟨_, g', en, hρ, hp, hB, hh, _⟩ := h
    rw [hρ] at hg
    have : g' = g := by simpa [blk] using hg
    subst this
    exact ⟨(Array.getElem?_eq_some_iff.1 hh).1, hp, hB⟩
  | dead => simp [AO.excl] at he

/-- One object more, perhaps one less. -/
def St.addAt (σ : St) (id nx : Nat) (kill : Option Nat) (o : AO) : St := match kill with
  | none => { σ with ob := (id, o) :: σ.ob, nx := nx }
  | some i => { σ with ob := (id, o) :: (i, .dead) :: σ.ob, nx := nx }
def St.add (σ : St) (kill : Option Nat) (o : AO) : St := σ.addAt σ.nx (σ.nx + 1) kill o
theorem St.add_obj {id nx : Nat} {kill : Option Nat} {o : AO} {j : Nat} {oj : AO} (h : (σ.addAt id nx kill o).obj j = some oj) : (j = id ∧ oj = o) ∨ (kill = some j ∧ oj = .dead) ∨ (kill ≠ some j ∧ σ.obj j = some oj) := by
  cases kill with
  | none =>
    simp only [St.addAt, St.obj, look_cons] at h
    split at h
    · rename_i e; cases h; exact .inl ⟨e.symm, rfl⟩
    · exact .inr (.inr ⟨by simp, h⟩)
  | some i =>
    simp only [St.addAt, St.obj, look_cons] at h
    split at h
    · rename_i e; cases h; exact .inl ⟨e.symm, rfl⟩
    · split at h
      · rename_i e; cases h; exact .inr (.inl ⟨by rw [e], rfl⟩)
      · rename_i hne; exact .inr (.inr ⟨by simpa using hne, h⟩)

theorem Models.addAt {a : Act} {C C' : Ct} (m : Models σ a C) (e : Evo C C') (id nx : Nat) (kill : Option Nat) (o : AO) (hk : ∀ i, kill = some i → C.ok i = true) (hn : ∀ i, C'.ok i = true → C.ok i = true ∨ i = id) (hnx : σ.nx ≤ nx) (hid : id < nx) (ho : ORep C' id o)
    (hold : ∀ j oj g, σ.obj j = some oj → oj.excl = true → kill ≠ some j → blk (C.ρ j) = some g → C'.w.heap[g]? = C.w.heap[g]? ∧ C'.pr g = false ∧ blk (C'.ρ id) ≠ some g) : Models (σ.addAt id nx kill o) a C' := by
  have hsz : (σ.addAt id nx kill o).sz = σ.sz := by cases kill <;> rfl
  have htm : ∀ t, (σ.addAt id nx kill o).get t = σ.get t := by intro t; cases kill <;> rfl
  have hnx' : (σ.addAt id nx kill o).nx = nx := by cases kill <;> rfl
  refine ⟨m.defers, by rw [hsz]; exact m.sz, fun i hi => by
    rw [hnx']
    rcases hn i hi with h | h
    · exact Nat.lt_of_lt_of_le (m.nx i h) hnx
    · rw [h]; exact hid, fun t x ht => ?_, fun i oi hi => ?_, fun i j oi oj g hi hj hei hej hgi hgj => ?_⟩
  · rw [htm] at ht
    rw [hsz]
    exact ⟨(m.tm t x ht).1, (m.tm t x ht).2.mono e⟩
  · rcases St.add_obj hi with ⟨rfl, rfl⟩ | ⟨hkk, rfl⟩ | ⟨hkk, hi'⟩
    · exact ho
    · show C'.ok i = true
      exact e.ok i (hk i hkk)
    · exact (m.ob i oi hi').mono e (fun he g hg => let ⟨h1, h2, _⟩ := hold i oi g hi' he hkk hg; ⟨h1, h2⟩)
  · have old : ∀ j oj, σ.obj j = some oj → C'.ρ j = C.ρ j := fun j oj hj => e.ρ j (m.ob j oj hj).lt
    rcases St.add_obj hi with ⟨rfl, rfl⟩ | ⟨_, rfl⟩ | ⟨hki, hi'⟩
    · rcases St.add_obj hj with ⟨rfl, rfl⟩ | ⟨_, rfl⟩ | ⟨hkj, hj'⟩
      · rfl
      · simp [AO.excl] at hej
      · rw [old j oj hj'] at hgj
        exact absurd hgi (hold j oj g hj' hej hkj hgj).2.2
    · simp [AO.excl] at hei
    · rcases St.add_obj hj with ⟨rfl, rfl⟩ | ⟨_, rfl⟩ | ⟨hkj, hj'⟩
      · rw [old i oi hi'] at hgi
        exact absurd hgj (hold i oi g hi' hei hki hgi).2.2
      · simp [AO.excl] at hej
      · rw [old i oi hi'] at hgi
        rw [old j oj hj'] at hgj
        exact m.apart i j oi oj g hi' hj' hei hej hgi hgj

/-- A new block. -/
def Ct.new (C : Ct) (id : Nat) (o : Obj) (v : Value) : Ct :=
  { w := C.w.alloc o, pr := fun b => if b = C.w.heap.size then false else C.pr b, ρ := fun i => if i = id then v else C.ρ i, ok := fun i => C.ok i || Nat.beq i id, B := C.B }
theorem Models.fresh {a : Act} {C : Ct} (m : Models σ a C) : C.ok σ.nx = false := by
  cases h : C.ok σ.nx with
  | false => rfl
  | true => exact absurd (m.nx _ h) (Nat.lt_irrefl _)
theorem ok_ne {C : Ct} {id i : Nat} (hid : C.ok id = false) (hi : C.ok i = true) : i ≠ id := fun h => by rw [h, hid] at hi; cases hi
theorem ok_or {C : Ct} {id i : Nat} (h : (C.ok i || Nat.beq i id) = true) : C.ok i = true ∨ i = id := by
  rw [Bool.or_eq_true] at h
  rcases h with h | h
  · exact .inl h
  · exact .inr (Nat.eq_of_beq_eq_true h)
theorem Ct.new_evo {C : Ct} {id : Nat} (hid : C.ok id = false) (hB : C.B ≤ C.w.heap.size) (o : Obj) (v : Value) : Evo C (C.new id o v) :=
  ⟨rfl, rfl, rfl, by show C.w.heap.size ≤ (C.w.alloc o).heap.size; simp, fun b hb hp => ⟨heap_alloc_old C.w o hb, by simp only [Ct.new]; rw [if_neg (by omega)]; exact hp⟩, fun i hi => by simp [Ct.new, hi],
   fun i hi => by simp only [Ct.new]; rw [if_neg (ok_ne hid hi)], rfl, fun b hb => heap_alloc_old C.w o (Nat.lt_of_lt_of_le hb hB), fun b hb => by simp only [Ct.new]; rw [if_neg (by omega)]⟩
theorem Models.newAt {a : Act} {C : Ct} (m : Models σ a C) (hB : C.B ≤ C.w.heap.size) {id nx : Nat} (hid : C.ok id = false) (hnx : σ.nx ≤ nx) (hlt : id < nx) (o : Obj) (v : Value) (hv : blk v = some C.w.heap.size) (ao : AO) (ho : ORep (C.new id o v) id ao) : Models (σ.addAt id nx none ao) a (C.new id o v) := by
  refine m.addAt (Ct.new_evo hid hB o v) id nx none ao (by simp) (fun i hi => ok_or hi) hnx hlt ho (fun j oj g hj he _ hg => ?_)
  obtain ⟨h1, h2, _⟩ := (m.ob j oj hj).excl he hg
  refine ⟨heap_alloc_old C.w o h1, ?_, ?_⟩
  · simp only [Ct.new]
    rw [if_neg (by omega)]
    exact h2
  · simp only [Ct.new, if_true]
    rw [hv]
    simp
    omega

theorem Models.new {a : Act} {C : Ct} (m : Models σ a C) (hB : C.B ≤ C.w.heap.size) (o : Obj) (v : Value) (hv : blk v = some C.w.heap.size) (ao : AO) (ho : ORep (C.new σ.nx o v) σ.nx ao) : Models (σ.add none ao) a (C.new σ.nx o v) :=
  m.newAt hB m.fresh (Nat.le_succ _) (Nat.lt_succ_self _) o v hv ao ho

theorem new_box {C : Ct} {id : Nat} (hid : C.ok id = false) (hB : C.B ≤ C.w.heap.size) {t : TypeId} {cs : List AV} {vs : Array Value} (h : CsRep C cs vs) :
    ORep (C.new id (.cells vs t) (.pointer (some ⟨C.w.heap.size, 0, none⟩))) id (.box t cs) := by
  refine ⟨by simp [Ct.new], C.w.heap.size, vs, by simp [Ct.new], by simp [Ct.new], hB, heap_alloc_new C.w _, h.1, h.2.1, fun j y hj => ?_⟩
  exact (h.2.2 j y hj).mono (Ct.new_evo hid hB _ _)

theorem aops_alloc (hT : TyOk P ty) {ops rest : List Oper} {o : Oper} {t : TypeId} {ti : TI} (hw : wantedA ops σ o = some true) (hd : dstOk σ o.dst = true) (ho : o.op = .alloc t) (ht : ty t = some ti)
    (k : AOps P Γ ops Q rest ((σ.add none (.box t (ti.zd.map zav))).put o.dst (.ptr σ.nx 0))) : AOps P Γ ops Q (o :: rest) σ :=
  aops_step hw fun C0 a C K R b e m hk => by
    have hB := (b.evo e).B
    obtain ⟨j, hj, _, _, hjz⟩ := hT.info _ _ ht
    have hrun : (execOp a.eval o).run P C.w = .ok (.value (.pointer (some ⟨C.w.heap.size, 0, none⟩))) (C.w.alloc (.cells ti.zero.cells t)) := by
      unfold execOp
      simp only [ho]
      refine run_value ?_
      simp [Instr.alloc, zeroValue, typeInfo, hj, hjz, newVar, newRow]
    have m' := m.new hB (.cells ti.zero.cells t) (.pointer (some ⟨C.w.heap.size, 0, none⟩)) rfl (.box t (ti.zd.map zav)) (new_box m.fresh hB (zero_csrep hT ht C))
    refine upon_value hrun (hk _ (C.new _ _ _) _ (m'.put (v := .pointer (some ⟨C.w.heap.size, 0, none⟩)) ?_ (dstOk_spec hd)) (e.trans (Ct.new_evo m.fresh hB _ _)) k)
    exact .ptr _ _ C.w.heap.size (by simp [Ct.new]) (by simp [Ct.new, blk])

theorem aops_box (hT : TyOk P ty) {ops rest : List Oper} {o : Oper} {t : TypeId} {x : Operand} {ti : TI} {y : AV} {cs : List AV} (hw : wantedA ops σ o = some true) (hd : dstOk σ o.dst = true) (ho : o.op = .box t x) (ht : ty t = some ti)
    (hx : σ.ev ty t x = some y) (hc : avCells ti.size y = some cs) (k : AOps P Γ ops Q rest ((σ.add none (.box t cs)).put o.dst (.ptr σ.nx 0))) : AOps P Γ ops Q (o :: rest) σ :=
  aops_step hw fun C0 a C K R b e m hk => by
    have hB := (b.evo e).B
    obtain ⟨h1, h2, h3, h4⟩ := cells_of_rep hc (ev_sound m hx)
    have hrun : (execOp a.eval o).run P C.w = .ok (.value (.pointer (some ⟨C.w.heap.size, 0, none⟩))) (C.w.alloc (.cells (a.eval x).cells t)) := by
      unfold execOp
      simp only [ho]
      refine run_value ?_
      simp [Instr.box, newVar, newRow]
    have m' := m.new hB (.cells (a.eval x).cells t) (.pointer (some ⟨C.w.heap.size, 0, none⟩)) rfl (.box t cs) (new_box m.fresh hB ⟨by rw [h1, h2], h3, h4⟩)
    refine upon_value hrun (hk _ (C.new _ _ _) _ (m'.put (v := .pointer (some ⟨C.w.heap.size, 0, none⟩)) ?_ (dstOk_spec hd)) (e.trans (Ct.new_evo m.fresh hB _ _)) k)
    exact .ptr _ _ C.w.heap.size (by simp [Ct.new]) (by simp [Ct.new, blk])
end
end Go.Am

/- The abstract machine, ninth part: stores; slices of the walk's own. No program. -/
namespace Go.Am
open Go.RowKit
set_option linter.unusedSimpArgs false
set_option linter.unusedVariables false

section
variable {P : Program} {Γ : Env} {Q : Exit → St → Prop} {σ : St} {ty : TypeId → Option TI}

/-! ### Data of abstract values -/
def datOf1 (σ : St) : AV → Option Dat
  | .d x => some x
  | .nil ek => some (.sl ek [])
  | .ref i => match σ.obj i with
    | some (.frz ek xs) => some (.sl ek xs)
    | _ => none
  | _ => none
def dat1All (σ : St) : List AV → Option (List Dat)
  | [] => some []
  | x :: r => match datOf1 σ x, dat1All σ r with
    | some y, some l => match y.one with
      | true => some (y :: l)
      | false => none
    | _, _ => none
def datOf (σ : St) : AV → Option Dat
  | .agg cs => match dat1All σ cs with
    | some l => some (.agg l)
    | none => none
  | x => datOf1 σ x
def datAll (σ : St) : List AV → Option (List Dat)
  | [] => some []
  | x :: r => match datOf σ x, datAll σ r with
    | some y, some l => some (y :: l)
    | _, _ => none

theorem datOf1_sound {a : Act} {C : Ct} (m : Models σ a C) {x : AV} {y : Dat} {v : Value} (h : datOf1 σ x = some y) (hx : Rep C x v) : RepD C.w C.pr y v := by
  unfold datOf1 at h
  split at h
  · cases h; cases hx with | d h => exact h
  · cases h; cases hx; exact .nil _
  · split at h
    · rename_i ho
      cases h
      cases hx with
      | ref i hi v hv h1 => subst hv; exact (m.ob _ _ ho).2
    · cases h
  · cases h
theorem dat1All_sound {a : Act} {C : Ct} (m : Models σ a C) : ∀ {l : List AV} {ys : List Dat}, dat1All σ l = some ys → ys.length = l.length ∧ (∀ y ∈ ys, y.one = true) ∧
    ∀ (vs : Nat → Value), (∀ (j : Nat) (x : AV), l[j]? = some x → Rep C x (vs j)) → ∀ (j : Nat) (y : Dat), ys[j]? = some y → RepD C.w C.pr y (vs j)
  | [], ys, h => by cases h; simp
  | x :: r, ys, h => by
    unfold dat1All at h
    split at h
    · rename_i y l hy hl
      split at h
      · rename_i h1
        cases h
        obtain ⟨i1, i2, i3⟩ := dat1All_sound m hl
        refine ⟨by simp [i1], ?_, fun vs hr j z hj => ?_⟩
        · intro z hz
          rcases List.mem_cons.1 hz with rfl | hz
          · exact h1
          · exact i2 z hz
        · cases j with
          | zero => simp at hj; subst hj; exact datOf1_sound m hy (hr 0 x rfl)
          | succ j => exact i3 (fun k => vs (k + 1)) (fun k x hk => hr (k + 1) x (by simpa using hk)) j z (by simpa using hj)
      · cases h
    · cases h
theorem datOf_sound {a : Act} {C : Ct} (m : Models σ a C) {x : AV} {y : Dat} {v : Value} (h : datOf σ x = some y) (hx : Rep C x v) : RepD C.w C.pr y v := by
  unfold datOf at h
  split at h
  · split at h
    · rename_i cs l hl
      cases h
      obtain ⟨i1, i2, i3⟩ := dat1All_sound m hl
      cases hx with
      | agg cs vs hs h1 hr => exact .agg l vs (by rw [hs, i1]) i2 (fun j y hj => i3 (fun j => vs.getD j undef) hr j y hj)
    · cases h
  · exact datOf1_sound m h hx
theorem datAll_sound {a : Act} {C : Ct} (m : Models σ a C) : ∀ {l : List AV} {ys : List Dat}, datAll σ l = some ys → ys.length = l.length ∧
    ∀ (vs : Nat → Value), (∀ (j : Nat) (x : AV), l[j]? = some x → Rep C x (vs j)) → ∀ (j : Nat) (y : Dat), ys[j]? = some y → RepD C.w C.pr y (vs j)
  | [], ys, h => by cases h; simp
  | x :: r, ys, h => by
    unfold datAll at h
    split at h
    · rename_i y l hy hl
      cases h
      obtain ⟨i1, i3⟩ := datAll_sound m hl
      refine ⟨by simp [i1], fun vs hr j z hj => ?_⟩
      cases j with
      | zero => simp at hj; subst hj; exact datOf_sound m hy (hr 0 x rfl)
      | succ j => exact i3 (fun k => vs (k + 1)) (fun k x hk => hr (k + 1) x (by simpa using hk)) j z (by simpa using hj)
    · cases h

/-! ### A row becomes read-only -/
def St.setO (σ : St) (i : Nat) (o : AO) : St := { σ with ob := (i, o) :: σ.ob }
def Ct.freeze (C : Ct) (i : Nat) : Ct := { C with pr := fun b => C.pr b || decide (blk (C.ρ i) = some b) }
theorem Ct.freeze_evo {C : Ct} (i : Nat) (hi : ∀ g, blk (C.ρ i) = some g → C.B ≤ g) : Evo C (C.freeze i) :=
  ⟨rfl, rfl, rfl, Nat.le_refl _, fun b _ hp => ⟨rfl, by simp [Ct.freeze, hp]⟩, fun _ h => h, fun _ _ => rfl, rfl, fun _ _ => rfl, fun b hb => by
    have hne : blk (C.ρ i) ≠ some b := fun e => by have := hi b e; omega
    simp [Ct.freeze, hne]⟩
theorem Models.freeze {a : Act} {C : Ct} (m : Models σ a C) {i : Nat} {ek : Option Nat} {e : TypeId} {xs : List Dat} (ho : σ.obj i = some (.row ek e xs)) : Models (σ.setO i (.frz ek xs)) a (C.freeze i) := by
  have ev := Ct.freeze_evo (C := C) i (fun g hg => ((m.ob i _ ho).excl rfl hg).2.2)
  have hi := (m.ob i _ ho).lt
  have keep : ∀ j oj, j ≠ i → σ.obj j = some oj → ORep (C.freeze i) j oj := fun j oj hj hoj =>
    (m.ob j oj hoj).mono ev (fun he g hg => ⟨rfl, by
      have hp := ((m.ob j oj hoj).excl he hg).2.1
      have hne : blk (C.ρ i) ≠ some g := fun h => hj (m.apart j i oj _ g hoj ho he rfl hg h)
      simp [Ct.freeze, hp, hne]⟩)
  refine ⟨m.defers, m.sz, m.nx, fun t x ht => ⟨(m.tm t x ht).1, (m.tm t x ht).2.mono ev⟩, fun j oj hj => ?_, fun j k oj ok g hj hk hej hek hgj hgk => ?_⟩
  · rw [St.obj, St.setO, look_cons] at hj
    split at hj
    · rename_i e
      subst e
      cases hj
      obtain ⟨_, vals, hown, hp, hcr⟩ := m.ob i _ ho
      refine ⟨⟨hi, fun g hg => ((m.ob i _ ho).excl rfl hg).2.2⟩, ?_⟩
      show RepD C.w (C.freeze i).pr (.sl ek xs) (C.ρ i)
      have hcr' := hcr.mono (w' := C.w) (pr' := (C.freeze i).pr) ev.kept
      rcases hown.2 with ⟨hn, h0⟩ | ⟨g, cap, cur, hv, _, hg, hnc, hcm, hcs, htake⟩
      · have : xs = [] := List.eq_nil_of_length_eq_zero h0
        subst this
        rw [hn]
        exact .nil ek
      · rw [hv]
        have hpg : (C.freeze i).pr g = true := by simp [Ct.freeze, hv, blk]
        refine RepD.sl_mk rfl hnc hcm (fun _ => rfl) (fun x hx => ?_) (fun k x hk j y hj => ?_)
        · obtain ⟨k, hk⟩ := List.mem_iff_getElem?.1 hx
          exact (hcr k x hk).1
        · obtain ⟨hf, h2⟩ := hcr' k x hk
          obtain ⟨u, hu, hr⟩ := h2 j y hj
          refine ⟨hpg, hf.one y (List.mem_of_getElem? hj), u, ?_, hr⟩
          have := hown.cells (g := g) (by rw [hv]; rfl) _ u hu
          rw [Addr.add_lit] at this
          rw [← this]
          congr 2
          omega
    · rename_i hne
      exact keep j oj (fun h => hne h.symm) hj
  · rw [St.obj, St.setO, look_cons] at hj hk
    split at hj
    · cases hj; simp [AO.excl] at hej
    · split at hk
      · cases hk; simp [AO.excl] at hek
      · exact m.apart j k oj ok g hj hk hej hek hgj hgk
/-- What is handed on becomes read-only. -/
def frz1 (σ : St) : AV → St
  | .ref i => match σ.obj i with
    | some (.row ek _ xs) => σ.setO i (.frz ek xs)
    | _ => σ
  | _ => σ
def frzL (σ : St) : List AV → St
  | [] => σ
  | x :: r => frzL (frz1 σ x) r
def frzA (σ : St) : AV → St
  | .agg cs => frzL σ cs
  | x => frz1 σ x
def frzAll (σ : St) : List AV → St
  | [] => σ
  | x :: r => frzAll (frzA σ x) r
theorem Models.frz1 {a : Act} {C : Ct} (m : Models σ a C) (x : AV) : ∃ C', Models (frz1 σ x) a C' ∧ Evo C C' ∧ C'.w = C.w := by
  unfold Am.frz1
  split
  · split
    · rename_i ho
      exact ⟨_, m.freeze ho, Ct.freeze_evo _ (fun g hg => ((m.ob _ _ ho).excl rfl hg).2.2), rfl⟩
    · exact ⟨C, m, .refl C, rfl⟩
  · exact ⟨C, m, .refl C, rfl⟩
theorem Models.frzL {a : Act} : ∀ (l : List AV) {σ : St} {C : Ct}, Models σ a C → ∃ C', Models (frzL σ l) a C' ∧ Evo C C' ∧ C'.w = C.w
  | [], σ, C, m => ⟨C, m, .refl C, rfl⟩
  | x :: r, σ, C, m => by
    obtain ⟨C1, m1, e1, h1⟩ := m.frz1 x
    obtain ⟨C2, m2, e2, h2⟩ := Models.frzL r m1
    exact ⟨C2, m2, e1.trans e2, h2.trans h1⟩
theorem Models.frzA {a : Act} {C : Ct} (m : Models σ a C) (x : AV) : ∃ C', Models (frzA σ x) a C' ∧ Evo C C' ∧ C'.w = C.w := by
  unfold Am.frzA
  split
  · exact Models.frzL _ m
  · exact m.frz1 x
theorem Models.frzAll {a : Act} : ∀ (l : List AV) {σ : St} {C : Ct}, Models σ a C → ∃ C', Models (frzAll σ l) a C' ∧ Evo C C' ∧ C'.w = C.w
  | [], σ, C, m => ⟨C, m, .refl C, rfl⟩
  | x :: r, σ, C, m => by
    obtain ⟨C1, m1, e1, h1⟩ := m.frzA x
    obtain ⟨C2, m2, e2, h2⟩ := Models.frzAll r m1
    exact ⟨C2, m2, e1.trans e2, h2.trans h1⟩

theorem aops_freeze {ops rest : List Oper} (l : List AV) (k : AOps P Γ ops Q rest (frzAll σ l)) : AOps P Γ ops Q rest σ := fun C0 a C b e m => by
  obtain ⟨C', m', e', hw⟩ := Models.frzAll l m
  rw [← hw]
  exact k C0 a C' b (e.trans e') m'
theorem awp_freeze {c : Code} (l : List AV) (k : AWp P Γ c Q (frzAll σ l)) : AWp P Γ c Q σ := fun C0 a C b e m => by
  obtain ⟨C', m', e', hw⟩ := Models.frzAll l m
  rw [← hw]
  exact k C0 a C' b (e.trans e') m'

/-! ### Stores -/
/-- Only one block of the walk's own has turned. -/
def Ct.turn (C : Ct) (w : World) : Ct := { C with w := w }
theorem Ct.turn_evo {C : Ct} {g : Nat} {cs : Array Value} (hp : C.pr g = false) (hB : C.B ≤ g) : Evo C (C.turn (C.w.setRow g cs)) :=
  ⟨rfl, rfl, rfl, by simp [Ct.turn], fun b _ hb => ⟨setRow_other C.w g b cs (fun h => by subst h; rw [hp] at hb; cases hb), hb⟩, fun _ h => h, fun _ _ => rfl, rfl, fun b hb => setRow_other C.w g b cs (by omega), fun _ _ => rfl⟩

theorem Models.turn {a : Act} {C : Ct} (m : Models σ a C) {i g : Nat} {o o' : AO} {cs : Array Value} (ho : σ.obj i = some o) (he : o.excl = true) (hg : blk (C.ρ i) = some g) (he' : o'.excl = true)
    (hn : ORep (C.turn (C.w.setRow g cs)) i o') : Models (σ.setO i o') a (C.turn (C.w.setRow g cs)) := by
  obtain ⟨h1, h2, h3⟩ := (m.ob i o ho).excl he hg
  have ev := Ct.turn_evo (cs := cs) h2 h3
  refine ⟨m.defers, m.sz, m.nx, fun t x ht => ⟨(m.tm t x ht).1, (m.tm t x ht).2.mono ev⟩, fun j oj hj => ?_, fun j k oj ok g' hj hk hej hek hgj hgk => ?_⟩
  · rw [St.obj, St.setO, look_cons] at hj
    split at hj
    · rename_i e
      subst e
      cases hj
      exact hn
    · rename_i hne
      refine (m.ob j oj hj).mono ev (fun hej g' hg' => ⟨setRow_other C.w g g' cs (fun h => ?_), ((m.ob j oj hj).excl hej hg').2.1⟩)
      subst h
      exact hne (m.apart i j o oj g' ho hj he hej hg hg')
  · rw [St.obj, St.setO, look_cons] at hj hk
    have e1 : ∀ t, (C.turn (C.w.setRow g cs)).ρ t = C.ρ t := fun _ => rfl
    rw [e1] at hgj hgk
    split at hj
    · rename_i e
      subst e
      split at hk
      · rename_i e; exact e
      · exact m.apart i k o ok g' ho hk he hek hgj hgk
    · split at hk
      · rename_i e
        subst e
        exact m.apart j i oj o g' hj ho hej he hgj hgk
      · exact m.apart j k oj ok g' hj hk hej hek hgj hgk

theorem setAll_get {new : List AV} : ∀ {cells : List AV} {off j : Nat} {y : AV}, off + new.length ≤ cells.length → (setAll cells off new)[j]? = some y →
    (j < off ∧ cells[j]? = some y) ∨ (off ≤ j ∧ j < off + new.length ∧ new[j - off]? = some y) ∨ (off + new.length ≤ j ∧ cells[j]? = some y) := by
  induction new with
  | nil =>
    intro cells off j y hl h
    simp only [setAll] at h
    by_cases hj : j < off
    · exact .inl ⟨hj, h⟩
    · exact .inr (.inr ⟨by simpa using hj, h⟩)
  | cons x r ih =>
    intro cells off j y hl h
    simp only [setAll] at h
    simp only [List.length_cons] at hl
    rcases ih (cells := cells.set off x) (by simp; omega) h with ⟨h1, h2⟩ | ⟨h1, h2, h3⟩ | ⟨h1, h2⟩
    · rw [List.getElem?_set] at h2
      split at h2
      · rename_i e
        subst e
        rw [if_pos (by omega)] at h2
        cases h2
        exact .inr (.inl ⟨Nat.le_refl _, by simp, by simp⟩)
      · exact .inl ⟨by omega, h2⟩
    · refine .inr (.inl ⟨by omega, by simp; omega, ?_⟩)
      have : j - off = (j - (off + 1)) + 1 := by omega
      rw [this]
      simpa using h3
    · rw [List.getElem?_set] at h2
      split at h2
      · omega
      · exact .inr (.inr ⟨by simp; omega, h2⟩)

theorem splice_get (cur vs : List Value) (off j : Nat) (h : off + vs.length ≤ cur.length) :
    (cur.take off ++ vs ++ cur.drop (off + vs.length))[j]? = if j < off then cur[j]? else if j < off + vs.length then vs[j - off]? else cur[j]? := by
  have hl : (cur.take off).length = off := by simp; omega
  by_cases h1 : j < off
  · rw [if_pos h1, List.append_assoc, List.getElem?_append_left (by rw [hl]; exact h1), List.getElem?_take, if_pos h1]
  · rw [if_neg h1]
    by_cases h2 : j < off + vs.length
    · rw [if_pos h2, List.append_assoc, List.getElem?_append_right (by rw [hl]; omega), hl, List.getElem?_append_left (by omega)]
    · rw [if_neg h2, List.getElem?_append_right (by simp [hl]; omega), List.getElem?_drop]
      congr 1
      simp [hl]
      omega
theorem splice_getD (cur : Array Value) (vs : List Value) (off j : Nat) (h : off + vs.length ≤ cur.size) :
    (cur.toList.take off ++ vs ++ cur.toList.drop (off + vs.length)).toArray.getD j undef = if j < off then cur.getD j undef else if j < off + vs.length then vs.getD (j - off) undef else cur.getD j undef := by
  have := splice_get cur.toList vs off j (by simpa using h)
  simp only [Array.getD_eq_getD_getElem?, List.getElem?_toArray, this, List.getD_eq_getElem?_getD]
  split
  · simp
  · split <;> simp
theorem run_storeAt_row (hT : TyOk P ty) {t : TypeId} {ti : TI} (ht : ty t = some ti) {w : World} {g off : Nat} {bt : TypeId} {cur : Array Value} {v : Value} (hg : w.heap[g]? = some (.cells cur bt (0, 0))) (hs : v.cells.size = ti.size)
    (hle : off + ti.size ≤ cur.size) (h1 : ∀ u ∈ v.cells.toList, u.oneCell' = true) :
    (Instr.storeAt t (.pointer (some ⟨g, off, none⟩)) v).run P w = .ok () (w.setRow g (cur.toList.take off ++ v.cells.toList ++ cur.toList.drop (off + v.cells.toList.length)).toArray) := by
  have hst := run_storeCells_at P g off bt v.cells.toList 0 cur w hg (by simp [hs]; omega) h1
  simp only [Nat.add_zero] at hst
  unfold Instr.storeAt Instr.sureAddr storeVar
  simp only [Sem.run_bind, Sem.run_pure, Result.andThen_ok, hT.run_size ht, hs, ne_eq, not_true_eq_false, if_false]
  exact hst

theorem aops_store (hT : TyOk P ty) {ops rest : List Oper} {o : Oper} {t bt : TypeId} {x z : Operand} {ti : TI} {y : AV} {i off : Nat} {cs new : List AV} (hw : wantedA ops σ o = some true) (hd : o.dst = none) (ho : o.op = .store t x z) (ht : ty t = some ti)
    (hx : σ.ev ty 0 x = some (.ptr i off)) (hz : σ.ev ty t z = some y) (hob : σ.obj i = some (.box bt cs)) (hc : avCells ti.size y = some new) (hle : Nat.ble (off + ti.size) cs.length = true)
    (k : AOps P Γ ops Q rest (σ.setO i (.box bt (setAll cs off new)))) : AOps P Γ ops Q (o :: rest) σ :=
  aops_step hw fun C0 a C K R b e m hk => by
    obtain ⟨c1, c2, c3, c4⟩ := cells_of_rep hc (ev_sound m hz)
    have hle' := Nat.le_of_ble_eq_true hle
    have hrx := ev_sound m hx
    obtain ⟨hi, g, cur, hρ, hp, hB, hheap, hsz, h1, hr⟩ := m.ob i _ hob
    have hv : a.eval x = .pointer (some ⟨g, off, none⟩) := by
      generalize a.eval x = v at hrx
      cases hrx with
      | ptr i' off' g' hi' hg' =>
        rw [hρ] at hg'
        have : g = g' := by simpa [blk] using hg'
        rw [this]
    have hone : ∀ u ∈ (a.eval z).cells.toList, u.oneCell' = true := by
      intro u hu
      obtain ⟨j, hj⟩ := List.mem_iff_getElem?.1 hu
      have hjl : j < new.length := by
        have := (List.getElem?_eq_some_iff.1 hj).1
        rw [c2, ← c1]; simpa using this
      have := (c4 j new[j] (List.getElem?_eq_getElem hjl)).oneCell (c3 _ (List.getElem_mem hjl))
      have hg : (a.eval z).cells.getD j undef = u := by
        have : (a.eval z).cells[j]? = some u := by simpa using hj
        simp [this]
      rwa [hg] at this
    have hrun := run_storeAt_row (P := P) hT ht (off := off) (v := a.eval z) hheap c1 (by rw [hsz]; exact hle') hone
    have hop : (execOp a.eval o).run P C.w = .ok .skip (C.w.setRow g (cur.toList.take off ++ (a.eval z).cells.toList ++ cur.toList.drop (off + (a.eval z).cells.toList.length)).toArray) := by
      unfold execOp
      simp only [ho, Sem.run_bind, hv, hrun, Result.andThen_ok, Sem.run_pure]
    have hbl : blk (C.ρ i) = some g := by rw [hρ]; rfl
    have m' := m.turn (o' := .box bt (setAll cs off new)) (cs := (cur.toList.take off ++ (a.eval z).cells.toList ++ cur.toList.drop (off + (a.eval z).cells.toList.length)).toArray) hob rfl hbl rfl (by
      refine ⟨hi, g, _, hρ, hp, hB, setRow_heap C.w g cur _ bt (0, 0) hheap, ?_, ?_, ?_⟩
      · simp [setAll_length, hsz, c1]; omega
      · intro q hq
        obtain ⟨j, hj⟩ := List.mem_iff_getElem?.1 hq
        rcases setAll_get (by rw [c2]; exact hle') hj with ⟨_, h⟩ | ⟨_, _, h⟩ | ⟨_, h⟩
        · exact h1 q (List.mem_of_getElem? h)
        · exact c3 q (List.mem_of_getElem? h)
        · exact h1 q (List.mem_of_getElem? h)
      · intro j q hj
        have ev := Ct.turn_evo (C := C) (cs := (cur.toList.take off ++ (a.eval z).cells.toList ++ cur.toList.drop (off + (a.eval z).cells.toList.length)).toArray) hp hB
        have hlen : (a.eval z).cells.toList.length = ti.size := by simpa using c1
        have hfit : off + (a.eval z).cells.toList.length ≤ cur.size := by rw [hsz, hlen]; exact hle'
        have hgd := splice_getD cur (a.eval z).cells.toList off j hfit
        rcases setAll_get (by rw [c2]; exact hle') hj with ⟨hjo, h⟩ | ⟨hjo, hjo2, h⟩ | ⟨hjo, h⟩
        · rw [hgd, if_pos hjo]
          exact (hr j q h).mono ev
        · rw [hgd, if_neg (by omega), if_pos (by rw [hlen, ← c2]; exact hjo2)]
          have := (c4 (j - off) q h).mono ev
          simpa using this
        · rw [hgd, if_neg (by omega), if_neg (by rw [hlen, ← c2]; omega)]
          exact (hr j q h).mono ev)
    refine upon_skip hop ?_
    rw [hd]
    exact hk a (C.turn _) _ m' (e.trans (Ct.turn_evo hp hB)) k
end
end Go.Am

/- The abstract machine, tenth part: rows are made, written and appended to. No program. -/
namespace Go.Am
open Go.RowKit
set_option linter.unusedSimpArgs false
set_option linter.unusedVariables false

section
variable {P : Program} {Γ : Env} {Q : Exit → St → Prop} {σ : St} {ty : TypeId → Option TI}

theorem cell_index_ne {es k k' j j' : Nat} (hj : j < es) (hj' : j' < es) (hk : k ≠ k') : k * es + j ≠ k' * es + j' := by
  intro h
  rcases Nat.lt_or_gt_of_ne hk with h1 | h1
  · have : (k + 1) * es ≤ k' * es := Nat.mul_le_mul_right _ h1
    rw [Nat.add_mul, Nat.one_mul] at this
    omega
  · have : (k' + 1) * es ≤ k * es := Nat.mul_le_mul_right _ h1
    rw [Nat.add_mul, Nat.one_mul] at this
    omega
theorem mul_lt_of {es k n j : Nat} (hk : k < n) (hj : j < es) : k * es + j < n * es := by
  have : (k + 1) * es ≤ n * es := Nat.mul_le_mul_right _ hk
  rw [Nat.add_mul, Nat.one_mul] at this
  omega

theorem ev_cells {C : Ct} {ti : TI} {x : AV} {d : Dat} {v : Value} (hd : RepD C.w C.pr d v) (hf : Fits ti.ek d) (h1 : ti.agg = false → ti.size = 1) :
    v.cells.size = ti.size ∧ d.cells.length = ti.size ∧ ∀ j y, d.cells[j]? = some y → RepD C.w C.pr y (v.cells.getD j undef) := by
  have hl := hf.len
  rw [TI.esz_ek h1] at hl
  unfold TI.ek at hf
  cases ha : ti.agg with
  | true =>
    rw [ha] at hf
    obtain ⟨cs, rfl, hcl, hc1⟩ := hf
    cases hd with
    | agg cs vs hs h1 hr => exact ⟨by rw [← hcl]; exact hs, hcl, hr⟩
  | false =>
    rw [ha] at hf
    have hone := hd.oneCell hf
    have hc : v.cells = #[v] := by cases v <;> simp_all [Value.cells, Value.oneCell']
    have hdc : d.cells = [d] := by
      have : d.one = true := hf
      cases d <;> simp_all [Dat.one, Dat.cells]
    rw [hc, hdc]
    refine ⟨by simpa using (h1 ha).symm, by simpa using (h1 ha).symm, fun j y hj => ?_⟩
    match j, hj with
    | 0, hj => simp at hj; subst hj; simpa using hd

theorem aops_storeElt (hT : TyOk P ty) {ops rest : List Oper} {o : Oper} {t : TypeId} {x z : Operand} {ti : TI} {y : AV} {d : Dat} {i k : Nat} {ek : Option Nat} {e : TypeId} {xs : List Dat} (hw : wantedA ops σ o = some true) (hd : o.dst = none) (ho : o.op = .store t x z) (ht : ty t = some ti)
    (hx : σ.ev ty 0 x = some (.elt i ek k)) (hz : σ.ev ty t z = some y) (hob : σ.obj i = some (.row ek e xs)) (hek : ekB ek ti.ek = true) (hdat : datOf σ y = some d) (hf : Fits ek d) (hk : k < xs.length)
    (kk : AOps P Γ ops Q rest (σ.setO i (.row ek e (xs.set k d)))) : AOps P Γ ops Q (o :: rest) σ :=
  aops_step hw fun C0 a C K R b ev m hK => by
    have hek' := ekB_eq hek
    have h1s := hT.one t ti ht
    have hes : esz ek = ti.size := by rw [hek']; exact hT.esz ht
    have hdr := datOf_sound m hdat (ev_sound m hz)
    obtain ⟨c1, c2, c4⟩ := ev_cells (x := y) hdr (by rw [← hek']; exact hf) h1s
    have hrx := ev_sound m hx
    obtain ⟨hi, vals, hown, hp, hcr⟩ := m.ob i _ hob
    rcases hown.2 with ⟨_, h0⟩ | ⟨g, cap, cur, hρ, hB, hheap, hnc, hcm, hcs, htake⟩
    · omega
    have hbl : blk (C.ρ i) = some g := by rw [hρ]; rfl
    have hpg := hp g hbl
    have hv : a.eval x = .pointer (some ⟨g, k * esz ek, none⟩) := by
      generalize a.eval x = v at hrx
      cases hrx with
      | elt i' ek' k' g' hi' hg' =>
        rw [hρ] at hg'
        have : g = g' := by simpa [blk] using hg'
        rw [this]
    have hfit : k * esz ek + (a.eval z).cells.toList.length ≤ cur.size := by
      have : (k + 1) * esz ek ≤ cap * esz ek := Nat.mul_le_mul_right _ (by omega)
      rw [Nat.add_mul, Nat.one_mul] at this
      rw [hcs]
      simp [c1, ← hes]
      omega
    have hlen : (a.eval z).cells.toList.length = esz ek := by rw [hes]; simpa using c1
    have hone : ∀ u ∈ (a.eval z).cells.toList, u.oneCell' = true := by
      intro u hu
      obtain ⟨j, hj⟩ := List.mem_iff_getElem?.1 hu
      have hjl : j < d.cells.length := by
        have := (List.getElem?_eq_some_iff.1 hj).1
        rw [c2, ← c1]; simpa using this
      have := (c4 j d.cells[j] (List.getElem?_eq_getElem hjl)).oneCell (hf.one _ (List.getElem_mem hjl))
      have hg : (a.eval z).cells.getD j undef = u := by
        have : (a.eval z).cells[j]? = some u := by simpa using hj
        simp [this]
      rwa [hg] at this
    have hrun := run_storeAt_row (P := P) hT ht (off := k * esz ek) (v := a.eval z) hheap c1 (by rw [hlen, hes] at hfit; rw [hes]; exact hfit) hone
    have hop : (execOp a.eval o).run P C.w = .ok .skip (C.w.setRow g (cur.toList.take (k * esz ek) ++ (a.eval z).cells.toList ++ cur.toList.drop (k * esz ek + (a.eval z).cells.toList.length)).toArray) := by
      unfold execOp
      simp only [ho, Sem.run_bind, hv, hrun, Result.andThen_ok, Sem.run_pure]
    have hsp := fun j => splice_get cur.toList (a.eval z).cells.toList (k * esz ek) j (by simpa using hfit)
    generalize hL : cur.toList.take (k * esz ek) ++ (a.eval z).cells.toList ++ cur.toList.drop (k * esz ek + (a.eval z).cells.toList.length) = L at hrun hop hsp
    have hLl : L.length = cur.size := by
      rw [← hL]
      have := hfit
      simp at this ⊢
      omega
    have hev := Ct.turn_evo (C := C) (cs := L.toArray) hpg hB
    have m' := m.turn (o' := .row ek e (xs.set k d)) (cs := L.toArray) hob rfl hbl rfl (by
      refine ⟨hi, L.take ((xs.set k d).length * esz ek), ⟨?_, .inr ⟨g, cap, L.toArray, ?_, hB, setRow_heap C.w g cur _ e (0, 0) hheap, by simpa using hnc, hcm, by simp [hLl, hcs], by simp⟩⟩, hp, ?_⟩
      · have : xs.length * esz ek ≤ cap * esz ek := Nat.mul_le_mul_right _ hnc
        rw [List.length_take, hLl, hcs, List.length_set]
        exact Nat.min_eq_left this
      · show C.ρ i = _
        rw [hρ, List.length_set]
      · intro k' x' hk'
        rw [List.getElem?_set] at hk'
        have hk'l : k' < xs.length := by
          split at hk'
          · omega
          · exact (List.getElem?_eq_some_iff.1 hk').1
        have key : ∀ j, j < esz ek → (L.take ((xs.set k d).length * esz ek))[k' * esz ek + j]? = L[k' * esz ek + j]? := fun j hj => by
          rw [List.getElem?_take, if_pos (by simpa using mul_lt_of hk'l hj)]
        split at hk'
        · rename_i e
          subst e
          cases hk'
          refine ⟨hf, fun j q hj => ?_⟩
          have hjl : j < esz ek := by rw [hes, ← c2]; exact (List.getElem?_eq_some_iff.1 hj).1
          refine ⟨(a.eval z).cells.getD j undef, ?_, (c4 j q hj).mono hev.kept⟩
          show (L.take ((xs.set k d).length * esz ek))[k * esz ek + j]? = _
          rw [key j hjl, hsp, if_neg (by omega), if_pos (by omega)]
          have : j < (a.eval z).cells.size := by rw [c1, ← hes]; exact hjl
          have h3 : k * esz ek + j - k * esz ek = j := by omega
          simp [h3, this]
        · rename_i hne
          obtain ⟨hf', h2⟩ := hcr k' x' hk'
          refine ⟨hf', fun j q hj => ?_⟩
          obtain ⟨u, hu, hr⟩ := h2 j q hj
          have hjl : j < esz ek := by rw [← hf'.len]; exact (List.getElem?_eq_some_iff.1 hj).1
          refine ⟨u, ?_, hr.mono hev.kept⟩
          show (L.take ((xs.set k d).length * esz ek))[k' * esz ek + j]? = _
          rw [key j hjl, hsp]
          have hold : cur.toList[k' * esz ek + j]? = some u := by
            have hu : vals[k' * esz ek + j]? = some u := hu
            rw [← htake, List.getElem?_take] at hu
            split at hu
            · exact hu
            · cases hu
          split
          · exact hold
          · split
            · rename_i h4 h5
              have : k * esz ek + (k' * esz ek + j - k * esz ek) = k' * esz ek + j := by omega
              exact absurd this (cell_index_ne (by omega) hjl hne)
            · exact hold)
    refine upon_skip hop ?_
    rw [hd]
    exact hK a (C.turn _) _ m' (ev.trans hev) kk

/-! ### New rows -/
theorem new_row {C : Ct} {id : Nat} (hid : C.ok id = false) (hB : C.B ≤ C.w.heap.size) {ek : Option Nat} {e : TypeId} {xs : List Dat} {vs : Array Value} (cap : Nat) (hn : xs.length ≤ cap) (hm : cap ≤ maxLen) (hl : vs.size = cap * esz ek) (h : CellsRep C.w C.pr ek xs (fun j => vs[j]?)) :
    ORep (C.new id (.cells vs e) (.slice (some ⟨C.w.heap.size, 0, none⟩) xs.length cap)) id (.row ek e xs) := by
  have ev := Ct.new_evo hid hB (.cells vs e) (.slice (some ⟨C.w.heap.size, 0, none⟩) xs.length cap)
  have hle : xs.length * esz ek ≤ cap * esz ek := Nat.mul_le_mul_right _ hn
  refine ⟨by simp [Ct.new], vs.toList.take (xs.length * esz ek), ⟨by
      have h9 : vs.toList.length = cap * esz ek := by simpa using hl
      rw [List.length_take, h9]
      exact Nat.min_eq_left hle, .inr ⟨C.w.heap.size, cap, vs, by simp [Ct.new], hB, heap_alloc_new C.w _, hn, hm, hl, rfl⟩⟩, ?_, ?_⟩
  · intro g hg
    simp [Ct.new, blk] at hg
    subst hg
    simp [Ct.new]
  · intro k x hk
    obtain ⟨h1, h2⟩ := h k x hk
    refine ⟨h1, fun j y hj => ?_⟩
    obtain ⟨u, hu, hr⟩ := h2 j y hj
    refine ⟨u, ?_, hr.mono ev.kept⟩
    have hjl : j < esz ek := by rw [← h1.len]; exact (List.getElem?_eq_some_iff.1 hj).1
    show (vs.toList.take (xs.length * esz ek))[k * esz ek + j]? = _
    have hu : vs[k * esz ek + j]? = some u := hu
    rw [List.getElem?_take, if_pos (mul_lt_of (List.getElem?_eq_some_iff.1 hk).1 hjl)]
    simpa using hu

def TI.zdat (ti : TI) : Dat := match ti.agg with
  | true => .agg ti.zd
  | false => ti.zd.getD 0 default
theorem zdat_fits (hT : TyOk P ty) {t : TypeId} {ti : TI} (ht : ty t = some ti) : Fits ti.ek ti.zdat := by
  unfold TI.ek TI.zdat
  obtain ⟨hz1, hz2⟩ := hT.zsize _ _ ht
  cases ha : ti.agg with
  | true => exact ⟨_, rfl, hz2, hT.zone _ _ ht⟩
  | false =>
    have h1 := hT.one _ _ ht ha
    have hlt : 0 < ti.zd.length := by omega
    have : ti.zd.getD 0 default = ti.zd[0] := by simp [hlt]
    show (ti.zd.getD 0 default).one = true
    rw [this]
    exact hT.zone _ _ ht _ (List.getElem_mem hlt)
theorem zdat_cells (hT : TyOk P ty) {t : TypeId} {ti : TI} (ht : ty t = some ti) : ti.zdat.cells = ti.zd := by
  have hf := zdat_fits hT ht
  unfold TI.ek at hf
  unfold TI.zdat at hf ⊢
  cases ha : ti.agg with
  | true => rfl
  | false =>
    rw [ha] at hf
    have h1 := hT.one _ _ ht ha
    obtain ⟨hz1, hz2⟩ := hT.zsize _ _ ht
    have hl : ti.zd.length = 1 := by omega
    match hz : ti.zd, hl with
    | [z], _ =>
      rw [hz] at hf
      have : z.one = true := hf
      show (Dat.cells z) = [z]
      cases z <;> simp_all [Dat.one, Dat.cells]

theorem aops_make (hT : TyOk P ty) {ops rest : List Oper} {o : Oper} {t e : TypeId} {x z : Operand} {ti ei : TI} {kl kc : IntKind} {n n' : Int} (hw : wantedA ops σ o = some true) (hd : dstOk σ o.dst = true) (ho : o.op = .makeSlice t x z) (ht : ty t = some ti) (hde : ti.desc = .slice e) (he : ty e = some ei)
    (hx : σ.ev ty 0 x = some (.d (.int kl n))) (hz : σ.ev ty 0 z = some (.d (.int kc n'))) (hn : n = n') (h0 : 0 ≤ n) (hb : Nat.ble ei.bytes 128 = true) (hN : n ≤ 1099511627776)
    (k : AOps P Γ ops Q rest ((σ.add none (.row ei.ek e (List.replicate n.toNat ei.zdat))).put o.dst (.ref σ.nx))) : AOps P Γ ops Q (o :: rest) σ :=
  aops_step hw fun C0 a C K R b ev m hk => by
    subst hn
    have hB := (b.evo ev).B
    have hes := hT.esz he
    obtain ⟨j, hj, hjs, hjb, hjz⟩ := hT.info _ _ he
    obtain ⟨hz1, hz2⟩ := hT.zsize _ _ he
    have hu := hT.und _ _ ht
    rw [hde] at hu
    have hx' := Rep.int_inv (ev_sound m hx)
    have hz' := Rep.int_inv (ev_sound m hz)
    have hble := Nat.le_of_ble_eq_true hb
    have hbytes : (j.bytes : Int) * n ≤ 281474976710656 := by
      have h1 : (j.bytes : Int) * n ≤ 128 * n := Int.mul_le_mul_of_nonneg_right (by rw [hjb]; omega) h0
      omega
    have hrun : (execOp a.eval o).run P C.w = .ok (.value (.slice (some ⟨C.w.heap.size, 0, none⟩) n.toNat n.toNat)) (C.w.alloc (.cells (madeCells ei.zero.cells (n.toNat * ei.size)) e)) := by
      unfold execOp
      simp only [ho, hx', hz']
      refine run_value ?_
      rw [run_make C.w t e j ei.zero hu hj hjz kl kc n n h0 (Int.le_refl _) hbytes (by omega), hjs]
    have hmx : n.toNat ≤ maxLen := by simp only [maxLen]; omega
    have hlr : (List.replicate n.toNat ei.zdat).length = n.toNat := by simp
    have m' := m.new hB (.cells (madeCells ei.zero.cells (n.toNat * ei.size)) e) (.slice (some ⟨C.w.heap.size, 0, none⟩) n.toNat n.toNat) rfl (.row ei.ek e (List.replicate n.toNat ei.zdat)) (by
      have := new_row (C := C) m.fresh hB (ek := ei.ek) (e := e) (xs := List.replicate n.toNat ei.zdat) (vs := madeCells ei.zero.cells (n.toNat * ei.size)) n.toNat (by simp) hmx (by rw [size_madeCells, hes]) (by
        intro k x hkx
        rw [List.getElem?_replicate] at hkx
        split at hkx
        · rename_i hlt
          cases hkx
          refine ⟨zdat_fits hT he, fun j y hj => ?_⟩
          rw [zdat_cells hT he] at hj
          have hjl : j < ei.size := by rw [← hz2]; exact (List.getElem?_eq_some_iff.1 hj).1
          refine ⟨ei.zero.cells.getD j undef, ?_, hT.zrep _ _ he _ _ j y hj⟩
          have hlt2 : k * ei.size + j < n.toNat * ei.size := mul_lt_of hlt hjl
          have hmod : (k * ei.size + j) % ei.zero.cells.size = j := by rw [hz1, Nat.mul_comm, Nat.mul_add_mod]; exact Nat.mod_eq_of_lt hjl
          have hjz' : j < ei.zero.cells.size := by rw [hz1]; exact hjl
          simp only [madeCells, hes]
          simp [hlt2, hmod, hjz']
        · cases hkx)
      rw [hlr] at this
      exact this)
    refine upon_value hrun (hk _ (C.new _ _ _) _ (m'.put (v := .slice (some ⟨C.w.heap.size, 0, none⟩) n.toNat n.toNat) ?_ (dstOk_spec hd)) (ev.trans (Ct.new_evo m.fresh hB _ _)) k)
    exact .ref _ (by simp [Ct.new]) _ (by simp [Ct.new]) rfl
end
end Go.Am

/- The abstract machine, eleventh part: slice literals; append. No program. -/
namespace Go.Am
open Go.RowKit
set_option linter.unusedSimpArgs false
set_option linter.unusedVariables false

section
variable {P : Program} {Γ : Env} {Q : Exit → St → Prop} {σ : St} {ty : TypeId → Option TI}

theorem one_cells {v : Value} (h : v.oneCell' = true) : v.cells = #[v] := by cases v <;> simp_all [Value.cells, Value.oneCell']
theorem dat_one_cells {d : Dat} (h : d.one = true) : d.cells = [d] := by cases d <;> simp_all [Dat.one, Dat.cells]
/-- The parts of a slice literal, in order, each one cell. -/
def litParts (σ : St) (ty : TypeId → Option TI) (e : TypeId) : Nat → List (Nat × Operand) → Option (List Dat)
  | _, [] => some []
  | k, (i, x) :: r => match Nat.beq i k with
    | true => match σ.ev ty e x with
      | some y => match datOf σ y, litParts σ ty e (k + 1) r with
        | some d, some l => match d.one with
          | true => some (d :: l)
          | false => none
        | _, _ => none
      | none => none
    | false => none

theorem litParts_sound {a : Act} {C : Ct} (m : Models σ a C) {e : TypeId} : ∀ {l : List (Nat × Operand)} {k : Nat} {ds : List Dat}, litParts σ ty e k l = some ds → ds.length = l.length ∧ (∀ d ∈ ds, d.one = true) ∧
    (∀ (j : Nat) (p : Nat × Operand), l[j]? = some p → p.1 = k + j) ∧ ∀ (j : Nat) (p : Nat × Operand) (d : Dat), l[j]? = some p → ds[j]? = some d → RepD C.w C.pr d (a.eval p.2)
  | [], k, ds, h => by cases h; simp
  | (i, x) :: r, k, ds, h => by
    unfold litParts at h
    split at h
    · rename_i hb
      split at h
      · rename_i y hy
        split at h
        · rename_i d l hd hl
          split at h
          · rename_i h1
            cases h
            obtain ⟨i1, i2, i3, i4⟩ := litParts_sound m hl
            refine ⟨by simp [i1], ?_, ?_, ?_⟩
            · intro z hz
              rcases List.mem_cons.1 hz with rfl | hz
              · exact h1
              · exact i2 z hz
            · intro j p hp
              cases j with
              | zero => simp at hp; subst hp; simpa using Nat.eq_of_beq_eq_true hb
              | succ j => have := i3 j p (by simpa using hp); omega
            · intro j p q hp hq
              cases j with
              | zero => simp at hp hq; subst hp; subst hq; exact datOf_sound m hd (ev_sound m hy)
              | succ j => exact i4 j p q (by simpa using hp) (by simpa using hq)
          · cases h
        · cases h
      · cases h
    · cases h

theorem fill_lit : ∀ (l : List (Nat × Value)) (k : Nat) (cells : Array Value), (∀ (j : Nat) (p : Nat × Value), l[j]? = some p → p.1 = k + j ∧ p.2.cells = #[p.2]) → k + l.length ≤ cells.size →
    ∃ cs, Instr.fill (fun i => some (i * 1, 1)) cells l = some cs ∧ cs.size = cells.size ∧ (∀ j, j < k → cs[j]? = cells[j]?) ∧ ∀ (j : Nat) (p : Nat × Value), l[j]? = some p → cs[k + j]? = some p.2
  | [], k, cells, _, _ => ⟨cells, rfl, rfl, fun _ _ => rfl, by simp⟩
  | (i, v) :: r, k, cells, h, hl => by
    obtain ⟨hi, hv⟩ := h 0 (i, v) rfl
    simp only [Nat.add_zero] at hi
    simp only at hv
    subst hi
    simp only [List.length_cons] at hl
    obtain ⟨cs, h1, h2, h3, h4⟩ := fill_lit r (i + 1) (cells.setIfInBounds i v) (fun j p hp => by
      have := h (j + 1) p (by simpa using hp)
      exact ⟨by omega, this.2⟩) (by simp; omega)
    refine ⟨cs, ?_, by simpa using h2, fun j hj => ?_, fun j p hp => ?_⟩
    · simp only [Instr.fill, hv]
      rw [if_neg (by simp; omega)]
      simpa using h1
    · rw [h3 j (by omega), Array.getElem?_setIfInBounds_ne (by omega)]
    · cases j with
      | zero =>
        simp at hp
        subst hp
        rw [Nat.add_zero, h3 i (by omega)]
        have hi : i < cells.size := by omega
        simp [hi]
      | succ j =>
        have := h4 j p (by simpa using hp)
        rw [show i + (j + 1) = i + 1 + j by omega]
        exact this

theorem run_lit {t e : TypeId} {n : Nat} {parts : Array (Nat × Value)} {cs : Array Value} {j : TypeInfo} {z : Value} (hu : P.underlying t = some (.slice e)) (hie : P.info? e = some j) (hjs : j.size = 1) (hz : j.zero = some z) (hsmall : n ≤ 16777216) (w : World)
    (h : ∀ zc : Array Value, (n = 0 → zc = #[]) → (n ≠ 0 → zc = z.cells) → Instr.fill (fun i => some (i * 1, 1)) ((Array.range (n * 1)).map (zc[· % zc.size]!)) parts.toList = some cs) :
    (Instr.buildSlice t n parts).run P w = .ok (.slice (some ⟨w.heap.size, 0, none⟩) n n) (w.alloc (.cells cs e)) := by
  have hs : ¬ n * 1 > 16777216 := by omega
  have hs' : ¬ 16777216 < n := by omega
  by_cases hn : n = 0
  · subst hn
    have hf := h #[] (fun _ => rfl) (fun hh => absurd rfl hh)
    simp [Instr.buildSlice, run_underlying hu, sizeOf, typeInfo, hie, hjs, newRow] at hf ⊢
    simp [hf]
  · have hf := h z.cells (fun hh => absurd hh hn) (fun _ => rfl)
    simp [Instr.buildSlice, run_underlying hu, sizeOf, typeInfo, zeroValue, hie, hz, hjs, hs', hn, newRow] at hf ⊢
    simp [hf]
theorem aops_lit (hT : TyOk P ty) {ops rest : List Oper} {o : Oper} {t e : TypeId} {n : Nat} {parts : Array (Nat × Operand)} {ti ei : TI} {ds : List Dat} (hw : wantedA ops σ o = some true) (hd : dstOk σ o.dst = true) (ho : o.op = .buildSlice t n parts) (ht : ty t = some ti) (hde : ti.desc = .slice e) (he : ty e = some ei)
    (hek : ei.agg = false) (hp : litParts σ ty e 0 parts.toList = some ds) (hn : Nat.beq n ds.length = true) (hN : Nat.ble n 16777216 = true)
    (k : AOps P Γ ops Q rest ((σ.add none (.row none e ds)).put o.dst (.ref σ.nx))) : AOps P Γ ops Q (o :: rest) σ :=
  aops_step hw fun C0 a C K R b ev m hk => by
    have hB := (b.evo ev).B
    have hn' := Nat.eq_of_beq_eq_true hn
    have hN' := Nat.le_of_ble_eq_true hN
    obtain ⟨j, hj, hjs, _, hjz⟩ := hT.info _ _ he
    have h1s := hT.one _ _ he hek
    obtain ⟨hz1, _⟩ := hT.zsize _ _ he
    have hu := hT.und _ _ ht
    rw [hde] at hu
    obtain ⟨i1, i2, i3, i4⟩ := litParts_sound m hp
    obtain ⟨L, hL⟩ : ∃ L, L = parts.toList.map fun (i, x) => (i, a.eval x) := ⟨_, rfl⟩
    have hget : ∀ (j : Nat) (q : Nat × Value), L[j]? = some q → ∃ p, parts.toList[j]? = some p ∧ q = (p.1, a.eval p.2) := by
      intro j q hq
      rw [hL, List.getElem?_map] at hq
      obtain ⟨p, hp, rfl⟩ := Option.map_eq_some_iff.1 hq
      exact ⟨p, hp, rfl⟩
    have hone : ∀ (j : Nat) (q : Nat × Value), L[j]? = some q → q.1 = 0 + j ∧ q.2.cells = #[q.2] := by
      intro j q hq
      obtain ⟨p, hp1, rfl⟩ := hget j q hq
      refine ⟨i3 j p hp1, ?_⟩
      have hjl : j < ds.length := by rw [i1]; exact (List.getElem?_eq_some_iff.1 hp1).1
      have hr := i4 j p ds[j] hp1 (List.getElem?_eq_getElem hjl)
      have := hr.oneCell (i2 _ (List.getElem_mem hjl))
      exact one_cells this
    have hLl : L.length = n := by rw [hL, List.length_map, ← i1, hn']
    obtain ⟨cs, f1, f2, _, f4⟩ := fill_lit L 0 ((Array.range (n * 1)).map ((if n = 0 then #[] else ei.zero.cells)[· % (if n = 0 then #[] else ei.zero.cells).size]!)) hone (by rw [hLl]; simp)
    have hrun : (execOp a.eval o).run P C.w = .ok (.value (.slice (some ⟨C.w.heap.size, 0, none⟩) n n)) (C.w.alloc (.cells cs e)) := by
      unfold execOp
      simp only [ho]
      refine run_value (run_lit hu hj (by rw [hjs, h1s]) hjz hN' C.w (fun zc z0 z1 => ?_))
      have hzc : zc = if n = 0 then #[] else ei.zero.cells := by
        by_cases hn0 : n = 0
        · rw [if_pos hn0]; exact z0 hn0
        · rw [if_neg hn0]; exact z1 hn0
      rw [hzc]
      have : (parts.map fun (i, x) => (i, a.eval x)).toList = L := by rw [hL]; simp
      rw [this]
      exact f1
    have hcs : cs.size = n := by rw [f2]; simp
    have m' := m.new hB (.cells cs e) (.slice (some ⟨C.w.heap.size, 0, none⟩) n n) rfl (.row none e ds) (by
      have := new_row (C := C) m.fresh hB (ek := none) (e := e) (xs := ds) (vs := cs) n (by omega) (by simp only [maxLen]; omega) (by simp [hcs, esz]) (by
        intro k d hk
        have h1 := i2 d (List.mem_of_getElem? hk)
        refine ⟨h1, fun j y hj => ?_⟩
        have hdc := dat_one_cells h1
        rw [hdc] at hj
        match j, hj with
        | 0, hj =>
          simp at hj
          subst hj
          have hkl : k < parts.toList.length := by rw [← i1]; exact (List.getElem?_eq_some_iff.1 hk).1
          have hpk := List.getElem?_eq_getElem hkl
          refine ⟨a.eval (parts.toList[k]).2, ?_, i4 k _ d hpk hk⟩
          have := f4 k (parts.toList[k].1, a.eval (parts.toList[k]).2) (by rw [hL, List.getElem?_map, hpk]; rfl)
          simpa [esz] using this)
      rw [← hn'] at this
      exact this)
    refine upon_value hrun (hk _ (C.new _ _ _) _ (m'.put (v := .slice (some ⟨C.w.heap.size, 0, none⟩) n n) ?_ (dstOk_spec hd)) (ev.trans (Ct.new_evo m.fresh hB _ _)) k)
    exact .ref _ (by simp [Ct.new]) _ (by simp [Ct.new]) rfl

/-! ### append -/
/-- What may be appended to: nil, or a row of the walk's own. -/
def appBase (σ : St) (e : TypeId) : AV → Option (Option Nat × Option Nat × List Dat)
  | .nil ek => some (none, ek, [])
  | .ref i => match σ.obj i with
    | some (.row ek e' xs) => match Nat.beq e e' with
      | true => some (some i, ek, xs)
      | false => none
    | _ => none
  | _ => none

theorem news_of {w : World} {pr : Nat → Bool} {ek : Option Nat} {ys : List Dat} {v : Value} (h : SlAt w pr ek ys v) (hs : 0 < esz ek) :
    ∃ (A : Option Addr) (cap : Nat) (news : List Value), v = .slice A ys.length cap ∧ (A = none → cap = 0 ∧ ys = []) ∧ news.length = ys.length * esz ek ∧ CellsRep w pr ek ys (fun j => news[j]?) ∧ (∀ u ∈ news, u.oneCell' = true) ∧
      ∀ ad, A = some ad → ∀ j u, news[j]? = some u → w.cell? (ad.add j) = some u := by
  obtain ⟨A, cap, rfl, hc, hm, hf, hA, hcell⟩ := h
  rcases Nat.eq_zero_or_pos ys.length with h0 | hpos
  · have : ys = [] := List.eq_nil_of_length_eq_zero h0
    subst this
    exact ⟨A, cap, [], rfl, fun h => ⟨hA h, rfl⟩, by simp, by intro k x hk; simp at hk, by simp, by simp⟩
  · obtain ⟨b, off, rfl, hcc⟩ := hcell hpos
    refine ⟨_, cap, (List.range (ys.length * esz ek)).map (fun q => (w.cell? ⟨b, off + q, none⟩).getD undef), rfl, by simp, by simp, ?_, ?_, ?_⟩
    · intro k x hk
      have hfx := hf x (List.mem_of_getElem? hk)
      refine ⟨hfx, fun j y hj => ?_⟩
      obtain ⟨u, hu, hr⟩ := hcc k x hk j y hj
      refine ⟨u, ?_, hr⟩
      have hjl : j < esz ek := by rw [← hfx.len]; exact (List.getElem?_eq_some_iff.1 hj).1
      have hlt := mul_lt_of (List.getElem?_eq_some_iff.1 hk).1 hjl
      rw [Nat.add_assoc] at hu
      simp [hlt, hu]
    · have key : ∀ q, q < ys.length * esz ek → ∃ u, w.cell? ⟨b, off + q, none⟩ = some u ∧ u.oneCell' = true := by
        intro q hq
        have hk : q / esz ek < ys.length := Nat.div_lt_of_lt_mul (by rw [Nat.mul_comm]; exact hq)
        have hfx := hf _ (List.getElem_mem hk)
        have hj : q % esz ek < (ys[q / esz ek]).cells.length := by rw [hfx.len]; exact Nat.mod_lt _ hs
        obtain ⟨u, hu, hr⟩ := hcc _ _ (List.getElem?_eq_getElem hk) _ _ (List.getElem?_eq_getElem hj)
        refine ⟨u, ?_, hr.oneCell (hfx.one _ (List.getElem_mem hj))⟩
        rw [← hu]
        congr 2
        have := Nat.div_add_mod q (esz ek)
        rw [Nat.mul_comm] at this
        omega
      intro u hu
      obtain ⟨q, hq, rfl⟩ := List.mem_map.1 hu
      obtain ⟨u, h1, h2⟩ := key q (by simpa using hq)
      rw [h1]
      exact h2
    · intro ad had j u hu
      cases had
      rw [Addr.add_lit]
      rw [List.getElem?_map] at hu
      obtain ⟨q, hq, rfl⟩ := Option.map_eq_some_iff.1 hu
      have hjl : j < ys.length * esz ek := by have := (List.getElem?_eq_some_iff.1 hq).1; simpa using this
      have : q = j := by simpa [hjl] using hq.symm
      subst this
      have hk : q / esz ek < ys.length := Nat.div_lt_of_lt_mul (by rw [Nat.mul_comm]; exact hjl)
      have hfx := hf _ (List.getElem_mem hk)
      have hj : q % esz ek < (ys[q / esz ek]).cells.length := by rw [hfx.len]; exact Nat.mod_lt _ hs
      obtain ⟨u, hu, hr⟩ := hcc _ _ (List.getElem?_eq_getElem hk) _ _ (List.getElem?_eq_getElem hj)
      have hcell : w.cell? ⟨b, off + q, none⟩ = some u := by
        rw [← hu]
        congr 2
        have := Nat.div_add_mod q (esz ek)
        rw [Nat.mul_comm] at this
        omega
      rw [hcell]; rfl

theorem blk_own {v : Value} (h : ∃ a n c, v = .slice a n c) : v.ownBlock = blk v := by
  obtain ⟨a, n, c, rfl⟩ := h
  cases a <;> rfl

theorem aops_append (hT : TyOk P ty) {ops rest : List Oper} {o : Oper} {t e : TypeId} {x z : Operand} {ti ei : TI} {y1 y2 : AV} {kill : Option Nat} {ek : Option Nat} {xs ys : List Dat} (hw : wantedA ops σ o = some true) (hd : dstOk σ o.dst = true)
    (ho : o.op = .call { callee := .builtin .append, args := #[x, z], argTypes := #[t, t] }) (ht : ty t = some ti) (hde : ti.desc = .slice e) (he : ty e = some ei)
    (hx : σ.ev ty t x = some y1) (hb : appBase σ e y1 = some (kill, ek, xs)) (hz : σ.ev ty t z = some y2) (hs : σ.sl y2 = some (ek, ys)) (hek : ekB ek ei.ek = true) (h0 : Nat.ble 1 ei.size = true) (hby : Nat.ble ei.bytes 128 = true) (hby1 : Nat.ble 1 ei.bytes = true)
    (hN : xs.length + ys.length ≤ 1099511627776) (k : AOps P Γ ops Q rest ((σ.add kill (.row ek e (xs ++ ys))).put o.dst (.ref σ.nx))) : AOps P Γ ops Q (o :: rest) σ :=
  aops_step hw fun C0 a C K R b ev m hk => by
    have hB := (b.evo ev).B
    have hek' := ekB_eq hek
    have hes : esz ek = ei.size := by rw [hek']; exact hT.esz he
    have hpos : 0 < esz ek := by rw [hes]; exact Nat.le_of_ble_eq_true h0
    obtain ⟨j, hj, hjs, hjb, hjz⟩ := hT.info _ _ he
    obtain ⟨hz1, _⟩ := hT.zsize _ _ he
    have hu := hT.und _ _ ht
    rw [hde] at hu
    have hble := Nat.le_of_ble_eq_true hby
    have hble1 := Nat.le_of_ble_eq_true hby1
    have hbytes : (xs.length + ys.length) * j.bytes ≤ 140737488355328 := by
      have h1 : (xs.length + ys.length) * j.bytes ≤ (xs.length + ys.length) * 128 := Nat.mul_le_mul_left _ (by rw [hjb]; exact hble)
      omega
    -- the base
    obtain ⟨vals, hown, hcr, hpr, hkill⟩ : ∃ vals, C.w.ownsRow C.B e (esz ek) (a.eval x) xs.length vals ∧ CellsRep C.w C.pr ek xs (fun j => vals[j]?) ∧ (∀ g, blk (a.eval x) = some g → C.pr g = false ∧ C.B ≤ g) ∧
        (∀ i, kill = some i → C.ok i = true ∧ C.ρ i = a.eval x ∧ ∃ o, σ.obj i = some o ∧ o.excl = true) ∧ True := by
      have hxr := ev_sound m hx
      unfold appBase at hb
      split at hb
      · cases hb
        generalize a.eval x = v at hxr
        cases hxr
        exact ⟨[], World.ownsRow_nil _ _ _ _, by intro k x hk; simp at hk, by simp [blk], by simp, trivial⟩
      · split at hb
        · rename_i ek' e' xs' hob
          split at hb
          · rename_i hbe
            cases hb
            have := Nat.eq_of_beq_eq_true hbe
            subst this
            generalize hv : a.eval x = v at hxr
            cases hxr with
            | ref i hi v hv' h1 =>
              subst hv'
              obtain ⟨_, vals, hown, hp, hcr⟩ := m.ob _ _ hob
              exact ⟨vals, hown, hcr, fun g hg => ⟨hp g hg, ((m.ob _ _ hob).excl rfl hg).2.2⟩, by
                intro i' hi'
                cases hi'
                exact ⟨hi, rfl, _, hob, rfl⟩, trivial⟩
          · cases hb
        · cases hb
      · cases hb
    obtain ⟨A, cap, news, hvz, hAn, hnl, hncr, hn1, hncell⟩ := news_of (sl_sound m hs (ev_sound m hz)) hpos
    -- the run
    obtain ⟨v', w', hrun, hown', hgrow, hloc⟩ : ∃ v' w', (Builtin.append_ #[t, t] o.type #[a.eval x, a.eval z]).run P C.w = .ok v' w' ∧ w'.ownsRow C.B e (esz ek) v' (xs.length + ys.length) (vals ++ news) ∧ C.w.grownBy w' (a.eval x).ownBlock ∧
        (v'.ownBlock = (a.eval x).ownBlock ∨ v'.ownBlock = some C.w.heap.size) := by
      rw [hvz]
      rcases A with _ | ad
      · obtain ⟨hc0, hy0⟩ := hAn rfl
        subst hy0
        have hnn : news = [] := List.eq_nil_of_length_eq_zero (by simpa using hnl)
        subst hnn
        subst hc0
        exact ⟨a.eval x, C.w, run_append_owned_none C.w C.B t o.type e j (esz ek) hu hj (a.eval x) xs.length vals hown, by simpa using hown, ⟨rfl, rfl, rfl, Nat.le_refl _, fun _ _ _ => rfl⟩, .inl rfl⟩
      · obtain ⟨v', w', r1, r2, r3, _, r5⟩ := run_append_own_at (P := P) C.w C.B t o.type e j ei.zero (esz ek) j.bytes hu hj hjz (by rw [hjs, hes]) rfl (by rw [hz1, hes]) hpos (a.eval x) xs.length vals hown ad ys.length cap news hnl (hncell ad rfl) hn1
          (by simp only [maxLen]; omega) hbytes hB
        exact ⟨v', w', r1, r2, r3, r5⟩
    have hsl' : ∃ a n c, v' = .slice a n c := by
      rcases hown'.2 with ⟨h, _⟩ | ⟨g, cap, cur, h, _⟩ <;> exact ⟨_, _, _, h⟩
    have hslx : ∃ a' n c, a.eval x = .slice a' n c := by
      rcases hown.2 with ⟨h, _⟩ | ⟨g, cap, cur, h, _⟩ <;> exact ⟨_, _, _, h⟩
    rw [blk_own hslx] at hgrow
    rw [blk_own hsl', blk_own hslx] at hloc
    let C' : Ct := { w := w', pr := fun b => if b = C.w.heap.size then false else C.pr b, ρ := fun i => if i = σ.nx then v' else C.ρ i, ok := fun i => C.ok i || Nat.beq i σ.nx, B := C.B }
    have hev : Evo C C' := by
      refine ⟨hgrow.os, hgrow.tape, hgrow.output, hgrow.size, fun b hb hp => ⟨hgrow.block b hb (fun h => ?_), ?_⟩, fun i hi => by simp [C', hi], fun i hi => ?_, rfl, fun b hb => hgrow.block b (Nat.lt_of_lt_of_le hb hB) (fun h => ?_), fun b hb => ?_⟩
      · rw [(hpr b h.symm).1] at hp; cases hp
      · simp only [C']; rw [if_neg (by omega)]; exact hp
      · simp only [C']; rw [if_neg (ok_ne m.fresh hi)]
      · have := (hpr b h.symm).2; omega
      · simp only [C']; rw [if_neg (by omega)]
    have hpr' : ∀ g, blk v' = some g → C'.pr g = false := by
      intro g hg
      simp only [C']
      split
      · rfl
      · rename_i hne
        rcases hloc with h | h
        · rw [h] at hg; exact (hpr g hg).1
        · rw [h] at hg; cases hg; exact absurd rfl hne
    have hrow : ORep C' σ.nx (.row ek e (xs ++ ys)) := by
      refine ⟨by simp [C'], vals ++ news, ?_, ?_, ?_⟩
      · simp only [C', if_true, List.length_append]
        exact hown'
      · simp only [C', if_true]
        exact hpr'
      · have hvl : vals.length = xs.length * esz ek := hown.1
        intro k q hkq
        rw [List.getElem?_append] at hkq
        split at hkq
        · rename_i hlt
          obtain ⟨h1, h2⟩ := (hcr.mono hev.kept) k q hkq
          refine ⟨h1, fun j y hj => ?_⟩
          obtain ⟨u, hu, hr⟩ := h2 j y hj
          refine ⟨u, ?_, hr⟩
          have hu : vals[k * esz ek + j]? = some u := hu
          show (vals ++ news)[k * esz ek + j]? = some u
          rw [List.getElem?_append_left (List.getElem?_eq_some_iff.1 hu).1]
          exact hu
        · rename_i hge
          obtain ⟨h1, h2⟩ := (hncr.mono hev.kept) _ q hkq
          refine ⟨h1, fun j y hj => ?_⟩
          obtain ⟨u, hu, hr⟩ := h2 j y hj
          refine ⟨u, ?_, hr⟩
          have hu : news[(k - xs.length) * esz ek + j]? = some u := hu
          show (vals ++ news)[k * esz ek + j]? = some u
          have hmul : k * esz ek = xs.length * esz ek + (k - xs.length) * esz ek := by
            rw [← Nat.add_mul]; congr 1; omega
          rw [List.getElem?_append_right (by rw [hvl, hmul]; omega), hvl, hmul]
          rw [show xs.length * esz ek + (k - xs.length) * esz ek + j - xs.length * esz ek = (k - xs.length) * esz ek + j by omega]
          exact hu
    have hold : ∀ j oj g, σ.obj j = some oj → oj.excl = true → kill ≠ some j → blk (C.ρ j) = some g → C'.w.heap[g]? = C.w.heap[g]? ∧ C'.pr g = false ∧ blk (C'.ρ σ.nx) ≠ some g := by
      intro j oj g hj he hkj hg
      obtain ⟨h1, h2, h3⟩ := (m.ob j oj hj).excl he hg
      have hne : blk (a.eval x) ≠ some g := by
        intro h
        -- then the base is object j
        rcases hkk : kill with _ | i
        · -- the base is nil
          have hxr := ev_sound m hx
          unfold appBase at hb
          split at hb
          · generalize a.eval x = v at hxr h
            cases hxr
            simp [blk] at h
          · split at hb
            · split at hb
              · cases hb; cases hkk
              · cases hb
            · cases hb
          · cases hb
        · obtain ⟨_, hρ, oi, hoi, hei⟩ := hkill.1 i hkk
          rw [← hρ] at h
          have := m.apart i j oi oj g hoi hj hei he h hg
          rw [hkk, this] at hkj
          exact hkj rfl
      refine ⟨hgrow.block g h1 (fun h => hne h.symm), ?_, ?_⟩
      · simp only [C']; rw [if_neg (by omega)]; exact h2
      · simp only [C', if_true]
        rcases hloc with h | h
        · rw [h]; exact hne
        · rw [h]; simp; omega
    have m' : Models (σ.add kill (.row ek e (xs ++ ys))) a C' := m.addAt hev σ.nx (σ.nx + 1) kill (.row ek e (xs ++ ys)) (fun i hi => (hkill.1 i hi).1) (fun i hi => ok_or hi) (Nat.le_succ _) (Nat.lt_succ_self _) hrow hold
    have hop : (execOp a.eval o).run P C.w = .ok (.value v') w' := by
      unfold execOp
      simp only [ho]
      simp [resolve, invoke, builtin, hrun]
    have hsz : (σ.add kill (.row ek e (xs ++ ys))).sz = σ.sz := by cases kill <;> rfl
    refine upon_value hop (hk _ C' _ (m'.put (v := v') ?_ (by rw [hsz]; exact dstOk_spec hd)) (ev.trans hev) k)
    exact .ref _ (by simp [C']) _ (by simp [C']) (by obtain ⟨_, _, _, rfl⟩ := hsl'; rfl)
end
end Go.Am

/- The abstract machine, twelfth part: what a function does with data, said without memory; calls by such a contract; calls walked in place. No program. -/
namespace Go.Am
open Go.RowKit
set_option linter.unusedSimpArgs false
set_option linter.unusedVariables false

/-- What a call hands back: a datum; a slice of its own that the caller may write; a tuple that begins with such a slice. -/
inductive Res where
  | d (x : Dat)
  | own (ek : Option Nat) (e : TypeId) (xs : List Dat)
  | ownT (ek : Option Nat) (e : TypeId) (xs : List Dat) (rest : List Dat)

def OwnRep (w0 w : World) (pr : Nat → Bool) (ek : Option Nat) (e : TypeId) (xs : List Dat) (v : Value) : Prop :=
  ∃ vals, w.ownsRow w0.heap.size e (esz ek) v xs.length vals ∧ CellsRep w (fun b => (pr b || decide (w0.heap.size ≤ b)) && !decide (blk v = some b)) ek xs (fun j => vals[j]?)
def ResRep (w0 w : World) (pr : Nat → Bool) : Res → Value → Prop
  | .d x, v => RepD w (fun b => pr b || decide (w0.heap.size ≤ b)) x v
  | .own ek e xs, v => OwnRep w0 w pr ek e xs v
  | .ownT ek e xs rest, v => ∃ vs : Array Value, v = .tuple vs ∧ vs.size = rest.length + 1 ∧ OwnRep w0 w pr ek e xs (vs.getD 0 undef) ∧
      ∀ (j : Nat) (x : Dat), rest[j]? = some x → RepD w (fun b => (pr b || decide (w0.heap.size ≤ b)) && !decide (blk (vs.getD 0 undef) = some b)) x (vs.getD (j + 1) undef)

structure IsFn (P : Program) (f : FuncId) (fn : Func) : Prop where
  hf : P.funcs[f]? = some fn
  name : (fn.name == "runtime.NumGoroutine") = false
  body : fn.body.isNone = false
theorem IsFn.run {P : Program} {f : FuncId} {fn : Func} (h : IsFn P f fn) (args : Array Value) (w : World) : (callFunc f args).run P w = .ok (.enter f args) w := by
  have h1 := h.hf
  unfold callFunc
  simp only [Sem.run_bind, program, Sem.run, Result.andThen_ok, h.hf, h.name, h.body, Bool.false_eq_true, if_false, Sem.run_pure]

/-- THE CONTRACT of a function on data: handed values that read as 'args', in a world of which Γ is known, it returns; nothing that was there has turned; what it hands back is one of R. -/
def ACalls (P : Program) (Γ : Env) (f : FuncId) (args : List Dat) (R : Res → Prop) : Prop :=
  (∃ fn, IsFn P f fn) ∧ ∀ (w : World) (pr : Nat → Bool) (vs : Array Value), Γ.ok w → vs.size = args.length → (∀ (j : Nat) (x : Dat), args[j]? = some x → RepD w pr x (vs.getD j undef)) →
    Calls P f vs w fun e w' => ∃ v r, e = .returned v ∧ Below w.heap.size w w' ∧ ResRep w w' pr r v ∧ R r

theorem ACalls.mono {P : Program} {Γ : Env} {f : FuncId} {args : List Dat} {R R' : Res → Prop} (h : ACalls P Γ f args R) (hr : ∀ r, R r → R' r) : ACalls P Γ f args R' :=
  ⟨h.1, fun w pr vs h1 h2 h3 => (h.2 w pr vs h1 h2 h3).mono fun e w' ⟨v, r, a, b, c, d⟩ => ⟨v, r, a, b, c, hr r d⟩⟩

/-- The state behind a call. -/
def St.res (σ : St) (dst : Option Tmp) : Res → St
  | .d x => σ.put dst (.d x)
  | .own ek e xs => (σ.add none (.row ek e xs)).put dst (.ref σ.nx)
  | .ownT ek e xs rest => (σ.add none (.row ek e xs)).put dst (.tup (.ref σ.nx :: rest.map .d))

section
variable {P : Program} {Γ : Env} {Q : Exit → St → Prop} {σ : St} {ty : TypeId → Option TI}

/-- Behind a callee: new blocks are read-only but for the row that is handed over. -/
def Ct.back (C : Ct) (id : Nat) (w : World) (v : Value) : Ct :=
  { w := w, pr := fun b => (C.pr b || decide (C.w.heap.size ≤ b)) && !decide (blk v = some b), ρ := fun i => if i = id then v else C.ρ i, ok := fun i => C.ok i || Nat.beq i id, B := C.B }
def Ct.back0 (C : Ct) (w : World) : Ct := { C with w := w, pr := fun b => C.pr b || decide (C.w.heap.size ≤ b) }
theorem Ct.back0_evo {C : Ct} {w : World} (hB : C.B ≤ C.w.heap.size) (h : Below C.w.heap.size C.w w) : Evo C (C.back0 w) :=
  ⟨h.os, h.tape, h.output, h.size, fun b hb hp => ⟨h.block b hb, by simp [Ct.back0, hp]⟩, fun _ h => h, fun _ _ => rfl, rfl, fun b hb => h.block b (Nat.lt_of_lt_of_le hb hB), fun b hb => by simp [Ct.back0]; omega⟩
theorem Ct.back_evo {C : Ct} {id : Nat} {w : World} {v : Value} (hid : C.ok id = false) (hB : C.B ≤ C.w.heap.size) (h : Below C.w.heap.size C.w w) (hv : ∀ g, blk v = some g → C.w.heap.size ≤ g) : Evo C (C.back id w v) :=
  ⟨h.os, h.tape, h.output, h.size, fun b hb hp => ⟨h.block b hb, by
    have hne : blk v ≠ some b := fun e => by have := hv b e; omega
    simp [Ct.back, hp, hne]⟩, fun i hi => by simp [Ct.back, hi], fun i hi => by simp only [Ct.back]; rw [if_neg (ok_ne hid hi)], rfl, fun b hb => h.block b (Nat.lt_of_lt_of_le hb hB), fun b hb => by
    have hne : blk v ≠ some b := fun e => by have := hv b e; omega
    have h3 : ¬ C.w.heap.size ≤ b := by omega
    simp [Ct.back, hne, h3]⟩
theorem Models.back0 {a : Act} {C : Ct} (m : Models σ a C) {w : World} (hB : C.B ≤ C.w.heap.size) (h : Below C.w.heap.size C.w w) : Models σ a (C.back0 w) :=
  m.mono (Ct.back0_evo hB h) (fun _ h => h) fun i o g hi he hg => by
    obtain ⟨h1, h2, _⟩ := (m.ob i o hi).excl he hg
    refine ⟨h.block g h1, ?_⟩
    simp [Ct.back0, h2]
    exact h1
theorem Models.back {a : Act} {C : Ct} (m : Models σ a C) {id nx : Nat} (hid : C.ok id = false) (hnx : σ.nx ≤ nx) (hlt : id < nx) {w : World} {v : Value} {ek : Option Nat} {e : TypeId} {xs : List Dat} (hB : C.B ≤ C.w.heap.size) (h : Below C.w.heap.size C.w w) (ho : OwnRep C.w w C.pr ek e xs v) :
    (∀ g, blk v = some g → C.w.heap.size ≤ g) ∧ (∃ a n c, v = .slice a n c) ∧ Models (σ.addAt id nx none (.row ek e xs)) a (C.back id w v) := by
  obtain ⟨vals, hown, hcr⟩ := ho
  have hsl : ∃ a n c, v = .slice a n c := by
    rcases hown.2 with ⟨h, _⟩ | ⟨g, cap, cur, h, _⟩ <;> exact ⟨_, _, _, h⟩
  have hv : ∀ g, blk v = some g → C.w.heap.size ≤ g := by
    intro g hg
    rcases hown.2 with ⟨h, _⟩ | ⟨g', cap, cur, h, hb, _⟩
    · rw [h] at hg; simp [blk] at hg
    · rw [h] at hg
      have : g' = g := by simpa [blk] using hg
      omega
  have ev := Ct.back_evo hid hB h hv
  refine ⟨hv, hsl, m.addAt ev id nx none _ (by simp) (fun i hi => ok_or hi) hnx hlt ?_ (fun j oj g hj he _ hg => ?_)⟩
  · refine ⟨by simp [Ct.back], vals, ?_, ?_, ?_⟩
    · show w.ownsRow C.B e (esz ek) ((C.back id w v).ρ id) xs.length vals
      have hρ : (C.back id w v).ρ id = v := by simp [Ct.back]
      rw [hρ]
      refine ⟨hown.1, ?_⟩
      rcases hown.2 with h | ⟨g, cap, cur, h1, h2, rest⟩
      · exact .inl h
      · exact .inr ⟨g, cap, cur, h1, by omega, rest⟩
    · intro g hg
      have : blk v = some g := by simpa [Ct.back] using hg
      simp [Ct.back, this]
    · exact hcr
  · obtain ⟨h1, h2, _⟩ := (m.ob j oj hj).excl he hg
    refine ⟨h.block g h1, ?_, ?_⟩
    · simp [Ct.back, h2]
      intro h3
      omega
    · have hρ : (C.back id w v).ρ id = v := by simp [Ct.back]
      rw [hρ]
      intro h3
      have := hv g h3
      omega

def calleeOf (σ : St) (ty : TypeId → Option TI) (fx : Operand) : Option (FuncId × List AV) := match σ.ev ty 0 fx with
  | some (.fn f cap) => some (f, cap)
  | _ => none

theorem run_call {a : Act} {C : Ct} (m : Models σ a C) {o : Oper} {c : Call} {fx : Operand} {f : FuncId} {cap : List AV} {fn : Func} (ho : o.op = .call c) (hc : c.callee = .value fx) (hf : calleeOf σ ty fx = some (f, cap)) (hfn : IsFn P f fn) :
    ∃ vs : Array Value, vs.size = cap.length ∧ (∀ (j : Nat) (y : AV), cap[j]? = some y → Rep C y (vs.getD j undef)) ∧ (execOp a.eval o).run P C.w = .ok (.enter f (c.args.map a.eval ++ vs)) C.w := by
  unfold calleeOf at hf
  split at hf
  · rename_i f' cap' hv
    cases hf
    have hr := ev_sound m hv
    generalize hvv : a.eval fx = v at hr
    cases hr with
    | fn f cap vs hl hcap =>
      refine ⟨vs, hl, hcap, ?_⟩
      unfold execOp
      simp only [ho, resolve, hc, hvv, Deferred.ofValue, invoke, Sem.run_bind, Sem.run_pure, Result.andThen_ok]
      rw [show (#[] : Array Value) ++ c.args.map a.eval = c.args.map a.eval from by simp]
      exact hfn.run (c.args.map a.eval ++ vs) C.w
  · cases hf

/-- A call of a function of which a contract is known. -/
theorem aops_call {ops rest : List Oper} {o : Oper} {c : Call} {fx : Operand} {f : FuncId} {ys : List AV} {dargs : List Dat} {R : Res → Prop} (hw : wantedA ops σ o = some true) (hd : dstOk σ o.dst = true) (ho : o.op = .call c) (hc : c.callee = .value fx) (hf : calleeOf σ ty fx = some (f, []))
    (hy : evAll σ ty c.args.toList c.argTypes.toList = some ys) (hdat : datAll (frzAll σ ys) ys = some dargs) (hA : ACalls P Γ f dargs R)
    (k : ∀ r, R r → AOps P Γ ops Q rest ((frzAll σ ys).res o.dst r)) : AOps P Γ ops Q (o :: rest) σ :=
  aops_step hw fun C0 a C K R' b ev m hk => by
    obtain ⟨⟨fn, hfn⟩, hcalls⟩ := hA
    obtain ⟨vs, hvl, _, hrun⟩ := run_call (P := P) m ho hc hf hfn
    have hv0 : vs = #[] := Array.eq_empty_of_size_eq_zero (by simpa using hvl)
    subst hv0
    obtain ⟨C1, m1, e1, hw1⟩ := Models.frzAll ys m
    obtain ⟨y1, y2⟩ := evAll_sound m hy
    obtain ⟨d1, d2⟩ := datAll_sound m1 hdat
    have hsz1 : (frzAll σ ys).sz = σ.sz := by rw [← m1.sz, m.sz]
    have ev1 := ev.trans e1
    have hB1 := (b.evo ev1).B
    unfold Oper.wp
    rw [hrun]
    simp only [Array.append_empty]
    rw [← hw1]
    refine (hcalls C1.w C1.pr (c.args.map a.eval) (b.evo ev1).ok (by rw [d1, y1]; simp) (fun j x hj => ?_)).mono ?_
    · have := d2 (fun j => (c.args.toList.map a.eval).getD j undef) (fun j x hx => (y2 j x hx).mono e1) j x hj
      simpa using this
    · rintro e w' ⟨v, r, rfl, hbel, hres, hR⟩
      have kr := k r hR
      cases r with
      | d x =>
        refine hk _ (C1.back0 w') _ ((m1.back0 hB1 hbel).put (v := v) (.d hres) (by rw [hsz1]; exact dstOk_spec hd)) (ev1.trans (Ct.back0_evo hB1 hbel)) kr
      | own ek e xs =>
        obtain ⟨hv, ⟨_, _, _, hsl⟩, m2⟩ := m1.back m1.fresh (Nat.le_succ _) (Nat.lt_succ_self _) hB1 hbel hres
        refine hk _ (C1.back _ w' v) _ (m2.put (v := v) (.ref _ (by simp [Ct.back]) _ (by simp [Ct.back]) (by rw [hsl]; rfl)) (by
          show ∀ d, o.dst = some d → d < (frzAll σ ys).sz
          rw [hsz1]; exact dstOk_spec hd)) (ev1.trans (Ct.back_evo m1.fresh hB1 hbel hv)) kr
      | ownT ek e xs rs =>
        obtain ⟨vs, rfl, hvs, hown, hrest⟩ := hres
        obtain ⟨hv, ⟨_, _, _, hsl⟩, m2⟩ := m1.back m1.fresh (Nat.le_succ _) (Nat.lt_succ_self _) hB1 hbel hown
        refine hk _ (C1.back _ w' (vs.getD 0 undef)) _ (m2.put (v := .tuple vs) (.tup _ vs (by simp [hvs]) (fun j y hj => ?_)) (by
          show ∀ d, o.dst = some d → d < (frzAll σ ys).sz
          rw [hsz1]; exact dstOk_spec hd)) (ev1.trans (Ct.back_evo m1.fresh hB1 hbel hv)) kr
        cases j with
        | zero =>
          simp only [List.getElem?_cons_zero, Option.some.injEq] at hj
          subst hj
          exact .ref _ (by simp [Ct.back]) _ (by simp [Ct.back]) (by rw [hsl]; rfl)
        | succ j =>
          simp only [List.getElem?_cons_succ, List.getElem?_map] at hj
          obtain ⟨x, hx, rfl⟩ := Option.map_eq_some_iff.1 hj
          exact .d (hrest j x hx)

/-! ### What a function hands back -/
def resultA (ty : TypeId → Option TI) (σ : St) : List ResultVar → Option (List AV)
  | [] => some []
  | .tmp t :: r => match σ.get t, resultA ty σ r with
    | some x, some l => some (x :: l)
    | _, _ => none
  | .cell p t :: r => match σ.get p, ty t with
    | some (.ptr i off), some ti => match loadAV σ ti (.ptr i off), resultA ty σ r with
      | some (_, x), some l => some (x :: l)
      | _, _ => none
    | _, _ => none

theorem Rep.ptr_inv {c : Ct} {i off : Nat} {v : Value} (h : Rep c (.ptr i off) v) : ∃ g, v = .pointer (some ⟨g, off, none⟩) := by
  cases h with
  | ptr i off g hi hg => exact ⟨g, rfl⟩
theorem loadAV_ptr_true {i : TI} {k off : Nat} {p : Prop} {y : AV} (h : loadAV σ i (.ptr k off) = some (p, y)) : p := by
  unfold loadAV at h
  simp only at h
  split at h
  · split at h
    · split at h
      · cases h; trivial
      · cases h
    · split at h
      · cases h; trivial
      · cases h
  · cases h

def resSem (tmps : Array Value) : ResultVar → Sem Value
  | .tmp t => pure (tmps.getD t undef)
  | .cell q t => do loadVar t (← asAddr (tmps.getD q undef))
theorem results_eq (fn : Func) (tmps : Array Value) : results fn tmps = (do let vs ← fn.results.mapM (resSem tmps); pure (if h : vs.size = 1 then vs[0] else .tuple vs)) := by
  unfold results
  congr 2
theorem resultA_sound (hT : TyOk P ty) {a : Act} {C : Ct} (m : Models σ a C) : ∀ {l : List ResultVar} {ys : List AV}, resultA ty σ l = some ys → ∃ vs : List Value, vs.length = ys.length ∧
    (l.mapM (resSem a.tmps)).run P C.w = .ok vs C.w ∧ ∀ (j : Nat) (y : AV), ys[j]? = some y → Rep C y (vs.getD j undef)
  | [], ys, h => by
    cases h
    exact ⟨[], rfl, by simp, by simp⟩
  | .tmp t :: r, ys, h => by
    unfold resultA at h
    split at h
    · rename_i x l hx hl
      cases h
      obtain ⟨vs, h1, h2, h3⟩ := resultA_sound hT m hl
      refine ⟨a.tmps.getD t undef :: vs, by simp [h1], ?_, ?_⟩
      · simp only [List.mapM_cons, resSem, Sem.run_bind, Sem.run_pure, Result.andThen_ok, h2]
      · intro j y hj
        cases j with
        | zero => simp at hj; subst hj; simpa using (m.tm t x hx).2
        | succ j => simpa using h3 j y (by simpa using hj)
    · cases h
  | .cell q t :: r, ys, h => by
    unfold resultA at h
    split at h
    · rename_i i off ti hx ht
      split at h
      · rename_i p x l hld hl
        cases h
        have hp := loadAV_ptr_true hld
        obtain ⟨vs, h1, h2, h3⟩ := resultA_sound hT m hl
        obtain ⟨u, hu, hr⟩ := loadAV_sound hT m ht hld hp (m.tm q _ hx).2
        refine ⟨u :: vs, by simp [h1], ?_, ?_⟩
        · obtain ⟨g, hpv⟩ := Rep.ptr_inv (m.tm q _ hx).2
          rw [hpv] at hu
          have hu' : (loadVar t ⟨g, off, none⟩).run P C.w = .ok u C.w := by
            simpa [Instr.loadAt, Instr.sureAddr] using hu
          simp only [List.mapM_cons, resSem, Sem.run_bind, Sem.run_pure, Result.andThen_ok, hpv, asAddr, hu', h2]
        · intro j y hj
          cases j with
          | zero => simp at hj; subst hj; simpa using hr
          | succ j => simpa using h3 j y (by simpa using hj)
      · cases h
    · cases h

def packA : List AV → AV
  | [x] => x
  | l => .tup l
def packV (vs : List Value) : Value := if h : vs.length = 1 then vs[0] else .tuple vs.toArray
theorem run_results (hT : TyOk P ty) {a : Act} {C : Ct} (m : Models σ a C) {fn : Func} {ys : List AV} (h : resultA ty σ fn.results.toList = some ys) : ∃ v, (results fn a.tmps).run P C.w = .ok v C.w ∧ Rep C (packA ys) v := by
  obtain ⟨vs, h1, h2, h3⟩ := resultA_sound hT m h
  refine ⟨packV vs, ?_, ?_⟩
  · have hm : (List.toArray <$> (fn.results.toList.mapM (resSem a.tmps)) : Sem (Array Value)).run P C.w = .ok vs.toArray C.w := by
      simp only [Sem.run_map, h2]
      rfl
    rw [← Array.mapM_eq_mapM_toList] at hm
    rw [results_eq]
    simp only [Sem.run_bind, hm, Result.andThen_ok, Sem.run_pure, packV]
    congr 1
  · unfold packA packV
    split
    · rename_i x
      have hl : vs.length = 1 := by simpa using h1
      rw [dif_pos hl]
      have := h3 0 x rfl
      simpa [hl] using this
    · rename_i hne
      have hl : vs.length ≠ 1 := by
        intro hl
        rw [h1] at hl
        match ys, hl with
        | [x], _ => exact hne x rfl
      rw [dif_neg hl]
      exact .tup ys vs.toArray (by simp [h1]) (fun j y hj => by simpa using h3 j y hj)
end
end Go.Am

/- The abstract machine, thirteenth part: a contract out of a walk; a call walked in place. No program. -/
namespace Go.Am
open Go.RowKit
set_option linter.unusedSimpArgs false
set_option linter.unusedVariables false

section
variable {P : Program} {Γ : Env} {Q : Exit → St → Prop} {σ : St} {ty : TypeId → Option TI}

def enumA : Nat → List AV → List (Nat × AV)
  | _, [] => []
  | k, x :: r => (k, x) :: enumA (k + 1) r
theorem look_enumA : ∀ {l : List AV} {k t : Nat} {x : AV}, look t (enumA k l) = some x → k ≤ t ∧ l[t - k]? = some x
  | [], k, t, x, h => by cases h
  | y :: r, k, t, x, h => by
    rw [enumA, look_cons] at h
    split at h
    · rename_i e
      subst e
      cases h
      simp
    · rename_i hne
      obtain ⟨h1, h2⟩ := look_enumA h
      refine ⟨by omega, ?_⟩
      rw [show t - k = (t - (k + 1)) + 1 by omega]
      simpa using h2
def entry (sz : Nat) (ys : List AV) (ob : List (Nat × AO)) (nx : Nat) : St := ⟨sz, enumA 0 ys, ob, nx⟩

theorem Models.entry {a : Act} {C : Ct} (m : Models σ a C) {sz : Nat} {ys : List AV} {vs : Array Value} (hsz : vs.size = ys.length) (hle : ys.length ≤ sz) (hr : ∀ (j : Nat) (y : AV), ys[j]? = some y → Rep C y (vs.getD j undef)) :
    Models (entry sz ys σ.ob σ.nx) { tmps := vs ++ Array.replicate (sz - vs.size) undef, defers := [] } C := by
  refine ⟨rfl, by simp [Am.entry]; omega, m.nx, fun t x ht => ?_, m.ob, m.apart⟩
  obtain ⟨_, h2⟩ := look_enumA ht
  simp only [Nat.sub_zero] at h2
  have hlt := (List.getElem?_eq_some_iff.1 h2).1
  refine ⟨by show t < sz; omega, ?_⟩
  have := hr t x h2
  have hts : t < vs.size := by omega
  simpa [Array.getElem?_append, hts] using this

/-- A state without objects, over arguments that are data. -/
theorem Models.start {w : World} {pr : Nat → Bool} {vs : Array Value} {args : List Dat} {sz : Nat} (hsz : vs.size = args.length) (hle : args.length ≤ sz) (hr : ∀ (j : Nat) (x : Dat), args[j]? = some x → RepD w pr x (vs.getD j undef)) :
    Models (Am.entry sz (args.map .d) [] 0) { tmps := vs ++ Array.replicate (sz - vs.size) undef, defers := [] } ⟨w, pr, fun _ => .slice none 0 0, fun _ => false, w.heap.size⟩ := by
  refine ⟨rfl, by simp [Am.entry]; omega, fun i hi => by (cases hi), fun t x ht => ?_, fun i o hi => ?_, fun i j o o' g hi => ?_⟩
  · obtain ⟨_, h2⟩ := look_enumA ht
    simp only [Nat.sub_zero, List.getElem?_map] at h2
    obtain ⟨d, hd, rfl⟩ := Option.map_eq_some_iff.1 h2
    have hlt := (List.getElem?_eq_some_iff.1 hd).1
    refine ⟨by show t < sz; omega, ?_⟩
    have hts : t < vs.size := by omega
    have := hr t d hd
    exact .d (by simpa [Array.getElem?_append, hts] using this)
  · cases hi
  · cases hi

def retRes (σ : St) : AV → Option Res
  | .ref i => match σ.obj i with
    | some (.row ek e xs) => some (.own ek e xs)
    | some (.frz ek xs) => some (.d (.sl ek xs))
    | _ => none
  | .tup (.ref i :: rest) => match (frzAll σ rest).obj i, datAll (frzAll σ rest) rest with
    | some (.row ek e xs), some l => some (.ownT ek e xs l)
    | some (.frz ek xs), some l => some (.d (.tup (.sl ek xs :: l)))
    | _, _ => none
  | .tup l => match datAll (frzAll σ l) l with
    | some ds => some (.d (.tup ds))
    | none => none
  | x => match datOf (frzA σ x) x with
    | some d => some (.d d)
    | none => none

theorem own_of_row {w : World} {pr : Nat → Bool} {C0 C : Ct} (hw : C0.w = w) (hB : C0.B = w.heap.size) (hpr : C0.pr = pr) (e : Evo C0 C) {i : Nat} {ek : Option Nat} {t : TypeId} {xs : List Dat} (h : ORep C i (.row ek t xs)) : OwnRep w C.w pr ek t xs (C.ρ i) := by
  obtain ⟨_, vals, hown, hp, hcr⟩ := h
  refine ⟨vals, ?_, hcr.mono (fun b hb hpb => ⟨rfl, ?_⟩)⟩
  · rw [← hB, ← e.B]; exact hown
  · have hne : blk (C.ρ i) ≠ some b := fun h => by have := hp b h; rw [this] at hpb; cases hpb
    have : pr b = true ∨ w.heap.size ≤ b := by
      by_cases hlt : b < w.heap.size
      · left
        rw [← hpr, ← e.prlow b (by rw [hB]; exact hlt)]
        exact hpb
      · right; omega
    simp [hne, this]
theorem repD_out {w : World} {pr : Nat → Bool} {C0 C : Ct} (hw : C0.w = w) (hB : C0.B = w.heap.size) (hpr : C0.pr = pr) (e : Evo C0 C) {x : Dat} {v : Value} (h : RepD C.w C.pr x v) : RepD C.w (fun b => pr b || decide (w.heap.size ≤ b)) x v :=
  h.mono (fun b hb hpb => ⟨rfl, by
    have : pr b = true ∨ w.heap.size ≤ b := by
      by_cases hlt : b < w.heap.size
      · left
        rw [← hpr, ← e.prlow b (by rw [hB]; exact hlt)]
        exact hpb
      · right; omega
    simpa using this⟩)

theorem retRes_sound {w : World} {pr : Nat → Bool} {C0 C : Ct} {a : Act} (hw : C0.w = w) (hB : C0.B = w.heap.size) (hpr : C0.pr = pr) (e : Evo C0 C) (m : Models σ a C) {x : AV} {r : Res} {v : Value} (h : retRes σ x = some r) (hx : Rep C x v) : ResRep w C.w pr r v := by
  unfold retRes at h
  split at h
  · rename_i i
    cases hx with
    | ref i hi v hv h1 =>
      subst hv
      split at h
      · rename_i ho
        cases h
        exact own_of_row hw hB hpr e (m.ob _ _ ho)
      · rename_i ho
        cases h
        exact repD_out hw hB hpr e (m.ob _ _ ho).2
      · cases h
  · rename_i i rest
    obtain ⟨C1, m1, e1, hw1⟩ := Models.frzAll rest m
    cases hx with
    | tup cs vs hl hr =>
      have hr0 := hr 0 (.ref i) rfl
      rw [← hw1]
      split at h
      · rename_i ek t xs l ho hd
        cases h
        obtain ⟨d1, d2⟩ := datAll_sound m1 hd
        have hrow := m1.ob _ _ ho
        have hv0 : vs.getD 0 undef = C1.ρ i := by
          have := hr0.mono e1
          generalize vs.getD 0 undef = z at this
          cases this with
          | ref i hi v hv h1 => exact hv
        refine ⟨vs, rfl, by simp [hl, d1], ?_, fun j x hj => ?_⟩
        · rw [hv0]; exact own_of_row hw hB hpr (e.trans e1) hrow
        · have := d2 (fun j => vs.getD (j + 1) undef) (fun j y hy => (hr (j + 1) y (by simpa using hy)).mono e1) j x hj
          rw [hv0]
          refine this.mono (fun b hb hpb => ⟨rfl, ?_⟩)
          have hne : blk (C1.ρ i) ≠ some b := fun h => by
            have := (hrow.excl rfl h).2.1
            rw [this] at hpb; cases hpb
          have : pr b = true ∨ w.heap.size ≤ b := by
            by_cases hlt : b < w.heap.size
            · left
              rw [← hpr, ← (e.trans e1).prlow b (by rw [hB]; exact hlt)]
              exact hpb
            · right; omega
          simp [hne, this]
      · rename_i ek xs l ho hd
        cases h
        obtain ⟨d1, d2⟩ := datAll_sound m1 hd
        have hv0 : vs.getD 0 undef = C1.ρ i := by
          have := hr0.mono e1
          generalize vs.getD 0 undef = z at this
          cases this with
          | ref i hi v hv h1 => exact hv
        refine repD_out hw hB hpr (e.trans e1) (.tup _ vs (by simp [hl, d1]) (fun j y hj => ?_))
        cases j with
        | zero => simp at hj; subst hj; rw [hv0]; exact (m1.ob _ _ ho).2
        | succ j => exact d2 (fun j => vs.getD (j + 1) undef) (fun j y hy => (hr (j + 1) y (by simpa using hy)).mono e1) j y (by simpa using hj)
      · cases h
  · rename_i l _
    obtain ⟨C1, m1, e1, hw1⟩ := Models.frzAll l m
    split at h
    · rename_i ds hd
      cases h
      obtain ⟨d1, d2⟩ := datAll_sound m1 hd
      rw [← hw1]
      cases hx with
      | tup cs vs hl hr =>
        exact repD_out hw hB hpr (e.trans e1) (.tup ds vs (by rw [hl, d1]) (fun j y hj => d2 (fun j => vs.getD j undef) (fun j y hy => (hr j y hy).mono e1) j y hj))
    · cases h
  · obtain ⟨C1, m1, e1, hw1⟩ := m.frzA x
    split at h
    · rename_i d hd
      cases h
      rw [← hw1]
      exact repD_out hw hB hpr (e.trans e1) (datOf_sound m1 hd (hx.mono e1))
    · cases h

/-- The end of a function's walk. -/
def RetOk (ty : TypeId → Option TI) (fn : Func) (R : Res → Prop) : Exit → St → Prop
  | .ret, σ => ∃ ys r, resultA ty σ fn.results.toList = some ys ∧ retRes σ (packA ys) = some r ∧ R r
  | .normal, σ => ∃ ys r, resultA ty σ fn.results.toList = some ys ∧ retRes σ (packA ys) = some r ∧ R r
  | _, _ => False

/-- A contract out of a walk. -/
theorem acalls_of (hT : TyOk P ty) {f : FuncId} {fn : Func} {body : Code} {args : List Dat} {R : Res → Prop} (hfn : IsFn P f fn) (hb : fn.body = some body) (hle : Nat.ble args.length fn.ntmps = true)
    (h : AWp P (Γ.at 0) body (RetOk ty fn R) (entry fn.ntmps (args.map .d) [] 0)) : ACalls P Γ f args R := by
  refine ⟨⟨fn, hfn⟩, fun w pr vs hok hsz hr => calls_of_wp hfn.hf hb ?_⟩
  have m := Models.start (sz := fn.ntmps) hsz (Nat.le_of_ble_eq_true hle) hr
  have hbase : Base (Γ.at 0) ⟨w, pr, fun _ => .slice none 0 0, fun _ => false, w.heap.size⟩ := ⟨⟨hok, Γ.lim_le w hok, Nat.le_refl _⟩, fun i hi => by cases hi⟩
  refine Code.wp_mono (fun ex a' w' hh => ?_) (h _ _ _ hbase (.refl _) m)
  obtain ⟨σ', C', rfl, m', e', hq⟩ := hh
  have hbel : Below w.heap.size w C'.w := Evo.below rfl e'
  cases ex <;> simp only [RetOk] at hq
  all_goals
    obtain ⟨ys, r, h1, h2, h3⟩ := hq
    obtain ⟨v, hv, hrep⟩ := run_results (P := P) hT m' h1
    exact ⟨m'.defers, v, hv, v, r, rfl, hbel, retRes_sound rfl rfl rfl e' m' h2 hrep, h3⟩

/-- The end of a callee that is walked in place. -/
def BackOk (ty : TypeId → Option TI) (fn : Func) (K : List (Nat × AO) → Nat → AV → Prop) : Exit → St → Prop
  | .ret, σ => ∃ ys, resultA ty σ fn.results.toList = some ys ∧ K σ.ob σ.nx (packA ys)
  | .normal, σ => ∃ ys, resultA ty σ fn.results.toList = some ys ∧ K σ.ob σ.nx (packA ys)
  | _, _ => False

/-- A call that is walked in place: a closure, for instance. -/
theorem aops_inline (hT : TyOk P ty) {ops rest : List Oper} {o : Oper} {c : Call} {fx : Operand} {f : FuncId} {fn : Func} {body : Code} {cap ys : List AV} (hw : wantedA ops σ o = some true) (hd : dstOk σ o.dst = true) (ho : o.op = .call c) (hc : c.callee = .value fx) (hf : calleeOf σ ty fx = some (f, cap))
    (hy : evAll σ ty c.args.toList c.argTypes.toList = some ys) (hfn : IsFn P f fn) (hb : fn.body = some body) (hle : Nat.ble (ys ++ cap).length fn.ntmps = true)
    (h : AWp P (Γ.at σ.nx) body (BackOk ty fn (fun ob nx r => AOps P Γ ops Q rest (St.put { σ with ob := ob, nx := nx } o.dst r))) (entry fn.ntmps (ys ++ cap) σ.ob σ.nx)) : AOps P Γ ops Q (o :: rest) σ :=
  aops_step hw fun C0 a C K R' b ev m hk => by
    obtain ⟨vs, hvl, hvr, hrun⟩ := run_call (P := P) m ho hc hf hfn
    obtain ⟨y1, y2⟩ := evAll_sound m hy
    have me := m.entry (sz := fn.ntmps) (ys := ys ++ cap) (vs := c.args.map a.eval ++ vs) (by simp [y1, hvl]) (Nat.le_of_ble_eq_true hle) (fun j y hj => by
      rw [List.getElem?_append] at hj
      have hal : (c.args.map a.eval).size = ys.length := by simp [y1]
      split at hj
      · rename_i hlt
        have := y2 j y hj
        have hlt' : j < (c.args.map a.eval).size := by omega
        have hlt2 : j < c.args.size := by simpa using hlt'
        simpa [Array.getElem?_append, hlt2] using this
      · rename_i hge
        have := hvr _ y hj
        have hge' : ¬ j < c.args.size := by simp at hal; omega
        have hsub : j - c.args.size = j - ys.length := by simp at hal; omega
        simpa [Array.getElem?_append, hge', hsub] using this)
    unfold Oper.wp
    rw [hrun]
    refine calls_of_wp hfn.hf hb (Code.wp_mono (fun ex a' w' hh => ?_) (h C _ C ((b.evo ev).up m.nx) (.refl C) me))
    obtain ⟨σ', C', rfl, m', e', hq⟩ := hh
    have back : ∀ ys, resultA ty σ' fn.results.toList = some ys → AOps P Γ ops Q rest (St.put { σ with ob := σ'.ob, nx := σ'.nx } o.dst (packA ys)) →
        a'.defers = [] ∧ ∃ v, (results fn a'.tmps).run P C'.w = .ok v C'.w ∧ K (a.put o.dst v) C'.w := by
      intro ys h1 h2
      obtain ⟨v, hv, hrep⟩ := run_results (P := P) hT m' h1
      refine ⟨m'.defers, v, hv, hk _ C' _ (Models.put (σ := { σ with ob := σ'.ob, nx := σ'.nx }) ⟨m.defers, m.sz, m'.nx, fun t x ht => ⟨(m.tm t x ht).1, (m.tm t x ht).2.mono e'⟩, m'.ob, m'.apart⟩ hrep (dstOk_spec hd)) (ev.trans e') h2⟩
    cases ex <;> simp only [BackOk] at hq
    all_goals
      obtain ⟨ys, h1, h2⟩ := hq
      exact back ys h1 h2
end
end Go.Am
namespace Go.Am
/-- What is asked of one row of a table of types. -/
structure TyFact (P : Program) (t : TypeId) (i : TI) : Prop where
  und : P.underlying t = some i.desc
  info : ∃ j, P.info? t = some j ∧ j.size = i.size ∧ j.bytes = i.bytes ∧ j.zero = some i.zero
  one : i.agg = false → i.size = 1
  zsize : i.zero.cells.size = i.size ∧ i.zd.length = i.size
  zone : ∀ y ∈ i.zd, y.one = true
  zrep : ∀ w pr j y, i.zd[j]? = some y → RepD w pr y (i.zero.cells.getD j undef)
  znil : znilB i.zd i.zero.cells.toList = true
  places : ∀ fields, i.desc = .struct fields → ∃ places, fields.toList.mapM (fun f => (P.info? f.type).map fun i => (f.offset, i.size)) = some places
def RepL (w : World) (pr : Nat → Bool) : List Dat → List Value → Prop
  | [], _ => True
  | d :: ds, v :: vs => RepD w pr d v ∧ RepL w pr ds vs
  | _ :: _, [] => False
theorem RepL.get {w : World} {pr : Nat → Bool} : ∀ {ds : List Dat} {vs : List Value}, RepL w pr ds vs → ∀ (j : Nat) (y : Dat), ds[j]? = some y → RepD w pr y (vs.getD j undef)
  | [], _, _, j, y, h => by simp at h
  | d :: ds, v :: vs, hr, 0, y, h => by simp at h; subst h; simpa using hr.1
  | d :: ds, v :: vs, hr, j + 1, y, h => by simpa using RepL.get hr.2 j y (by simpa using h)
  | d :: ds, [], hr, j, y, h => hr.elim
theorem TyFact.mk' {P : Program} {t : TypeId} {i : TI} (h1 : P.underlying t = some i.desc) (h2 : (P.info? t).map (fun j => (j.size, j.bytes, j.zero)) = some (i.size, i.bytes, some i.zero)) (h3 : i.agg = false → i.size = 1)
    (h4 : i.zero.cells.size = i.size) (h5 : i.zd.length = i.size) (h6 : i.zd.all (·.one) = true) (h7 : ∀ w pr, RepL w pr i.zd i.zero.cells.toList) (h9 : znilB i.zd i.zero.cells.toList = true) (h8 : ∀ fields, i.desc = .struct fields → ∃ places, fields.toList.mapM (fun f => (P.info? f.type).map fun i => (f.offset, i.size)) = some places) : TyFact P t i := by
  obtain ⟨j, hj, he⟩ := Option.map_eq_some_iff.1 h2
  simp only [Prod.mk.injEq] at he
  exact ⟨h1, ⟨j, hj, he.1, he.2.1, he.2.2⟩, h3, ⟨h4, h5⟩, fun y hy => List.all_eq_true.1 h6 y hy, fun w pr j y hy => by simpa using (h7 w pr).get j y hy, h9, h8⟩
def TyAll (P : Program) : List (Nat × TI) → Prop
  | [] => True
  | (t, i) :: r => TyFact P t i ∧ TyAll P r
theorem TyAll.get {P : Program} : ∀ {l : List (Nat × TI)}, TyAll P l → ∀ t i, look t l = some i → TyFact P t i
  | [], _, t, i, h => by cases h
  | (k, y) :: r, hs, t, x, h => by
    rw [look_cons] at h
    split at h
    · rename_i e
      subst e
      cases h
      exact hs.1
    · exact hs.2.get t x h
theorem tyOk_of {P : Program} {l : List (Nat × TI)} (h : TyAll P l) : TyOk P (fun t => look t l) where
  und t i ht := (h.get t i ht).und
  info t i ht := (h.get t i ht).info
  one t i ht := (h.get t i ht).one
  zsize t i ht := (h.get t i ht).zsize
  zone t i ht := (h.get t i ht).zone
  zrep t i ht := (h.get t i ht).zrep
  znil t i ht := (h.get t i ht).znil
  places t i ht := (h.get t i ht).places
end Go.Am

/- The abstract machine, fourteenth part: operations in a row, carried out by computation. No program. -/
namespace Go.Am
open Go.RowKit
set_option linter.unusedSimpArgs false
set_option linter.unusedVariables false

section
variable {P : Program} {Γ : Env} {Q : Exit → St → Prop} {σ : St} {ty : TypeId → Option TI}

def put' : St → Option Tmp → AV → St
  | ⟨sz, tm, ob, nx⟩, none, _ => ⟨sz, tm, ob, nx⟩
  | ⟨sz, tm, ob, nx⟩, some d, x => ⟨sz, (d, x) :: tm, ob, nx⟩
theorem put'_eq (σ : St) (d : Option Tmp) (x : AV) : put' σ d x = σ.put d x := by cases σ; cases d <;> rfl
/-- A new object, its number in a slot. -/
def addPut : St → Option Nat → AO → Option Tmp → (Nat → AV) → St
  | ⟨sz, tm, ob, nx⟩, none, o, d, x => put' ⟨sz, tm, (nx, o) :: ob, nx + 1⟩ d (x nx)
  | ⟨sz, tm, ob, nx⟩, some i, o, d, x => put' ⟨sz, tm, (nx, o) :: (i, .dead) :: ob, nx + 1⟩ d (x nx)
theorem addPut_eq (σ : St) (kill : Option Nat) (o : AO) (d : Option Tmp) (x : Nat → AV) : addPut σ kill o d x = (σ.add kill o).put d (x σ.nx) := by cases σ; cases kill <;> cases d <;> rfl
def setO' : St → Nat → AO → St
  | ⟨sz, tm, ob, nx⟩, i, o => ⟨sz, tm, (i, o) :: ob, nx⟩
theorem setO'_eq (σ : St) (i : Nat) (o : AO) : setO' σ i o = σ.setO i o := by cases σ; rfl

/-- A new row, and what is asked of it. -/
def makeA (ty : TypeId → Option TI) (σ : St) (t : TypeId) (x z : Operand) (d : Option Tmp) : Option (Prop × St) := match ty t with
  | some ⟨.slice e, _, _, _, _⟩ => match ty e with
    | some ei => match σ.ev ty 0 x, σ.ev ty 0 z, Nat.ble ei.bytes 128 with
      | some (.d (.int _ n)), some (.d (.int _ n')), true => some (n = n' ∧ 0 ≤ n ∧ n ≤ 1099511627776, addPut σ none (.row ei.ek e (List.replicate n.toNat ei.zdat)) d .ref)
      | _, _, _ => none
    | none => none
  | _ => none
def litA (ty : TypeId → Option TI) (σ : St) (t : TypeId) (n : Nat) (parts : Array (Nat × Operand)) (d : Option Tmp) : Option (Prop × St) := match ty t with
  | some ⟨.slice e, _, _, _, _⟩ => match ty e with
    | some ei => match ei.agg, litParts σ ty e 0 parts.toList, Nat.ble n 16777216 with
      | false, some ds, true => match Nat.beq n ds.length with
        | true => some (True, addPut σ none (.row none e ds) d .ref)
        | false => none
      | _, _, _ => none
    | none => none
  | _ => none
def appendA (ty : TypeId → Option TI) (σ : St) (t : TypeId) (x z : Operand) (d : Option Tmp) : Option (Prop × St) := match ty t with
  | some ⟨.slice e, _, _, _, _⟩ => match ty e, σ.ev ty t x, σ.ev ty t z with
    | some ei, some y1, some y2 => match appBase σ e y1, σ.sl y2 with
      | some (kill, ek, xs), some (ek', ys) => match ekB ek ei.ek, ekB ek' ei.ek, Nat.ble 1 ei.size, Nat.ble ei.bytes 128, Nat.ble 1 ei.bytes with
        | true, true, true, true, true => some (xs.length + ys.length ≤ 1099511627776, addPut σ kill (.row ek e (xs ++ ys)) d .ref)
        | _, _, _, _, _ => none
      | _, _ => none
    | _, _, _ => none
  | _ => none
def storeA (ty : TypeId → Option TI) (σ : St) (t : TypeId) (x z : Operand) : Option (Prop × St) := match ty t, σ.ev ty 0 x, σ.ev ty t z with
  | some ti, some (.ptr i off), some y => match σ.obj i, avCells ti.size y with
    | some (.box bt cs), some new => match Nat.ble (off + ti.size) cs.length with
      | true => some (True, setO' σ i (.box bt (setAll cs off new)))
      | false => none
    | _, _ => none
  | some ti, some (.elt i ek k), some y => match σ.obj i, datOf σ y, ekB ek ti.ek with
    | some (.row ek' e xs), some d, true => match ekB ek' ek with
      | true => some (Fits ek d ∧ k < xs.length, setO' σ i (.row ek e (xs.set k d)))
      | false => none
    | _, _, _ => none
  | _, _, _ => none
def pureA (ty : TypeId → Option TI) (σ : St) (o : Oper) : Option (Prop × St) := match pureOp ty σ o.type o.op with
  | some (p, y) => some (p, put' σ o.dst y)
  | none => none
/-- One operation. -/
def doOp (ty : TypeId → Option TI) (σ : St) (o : Oper) : Option (Prop × St) := match o.op with
  | .alloc t => match ty t with
    | some ti => some (True, addPut σ none (.box t (ti.zd.map zav)) o.dst (fun i => .ptr i 0))
    | none => none
  | .box t x => match ty t, σ.ev ty t x with
    | some ti, some y => match avCells ti.size y with
      | some cs => some (True, addPut σ none (.box t cs) o.dst (fun i => .ptr i 0))
      | none => none
    | _, _ => none
  | .store t x z => match o.dst with
    | none => storeA ty σ t x z
    | some _ => none
  | .makeSlice t x z => makeA ty σ t x z o.dst
  | .buildSlice t n parts => litA ty σ t n parts o.dst
  | .call c => match c.callee with
    | .builtin .append => match c.args, c.argTypes with
      | ⟨[x, z]⟩, ⟨[t, t']⟩ => match Nat.beq t t' with
        | true => appendA ty σ t x z o.dst
        | false => none
      | _, _ => none
    | _ => pureA ty σ o
  | _ => pureA ty σ o
def stepA (ty : TypeId → Option TI) (ops : List Oper) (σ : St) (o : Oper) : Option (Prop × St) := match wantedA ops σ o, dstOk σ o.dst with
  | some true, true => doOp ty σ o
  | some false, true => some (True, put' σ o.dst .un)
  | _, _ => none
def memB (j : Nat) : List Nat → Bool
  | [] => false
  | x :: r => match Nat.beq x j with
    | true => true
    | false => memB j r
/-- A guard is asked only where it is known. -/
def gateB (res : List Nat) (o : Oper) : Bool := match o.guard with
  | none => true
  | some (j, _) => memB j res
/-- Operations in a row, as far as they go; those with guards, where the guard is listed. -/
def runA (ty : TypeId → Option TI) (ops : List Oper) (res : List Nat) : List Oper → Prop → St → Prop × List Oper × St
  | [], p, σ => (p, [], σ)
  | o :: r, p, σ => match gateB res o with
    | true => match stepA ty ops σ o with
      | some (q, ⟨sz, tm, ob, nx⟩) => runA ty ops res r (p ∧ q) ⟨sz, tm, ob, nx⟩
      | none => (p, o :: r, σ)
    | false => (p, o :: r, σ)

theorem aops_pureA (hT : TyOk P ty) {ops rest : List Oper} {o : Oper} {p : Prop} {σ' : St} (hw : wantedA ops σ o = some true) (hd : dstOk σ o.dst = true) (h : pureA ty σ o = some (p, σ')) (hp : p)
    (k : AOps P Γ ops Q rest σ') : AOps P Γ ops Q (o :: rest) σ := by
  unfold pureA at h
  split at h
  · rename_i q y hq
    simp only [Option.some.injEq, Prod.mk.injEq, put'_eq] at h
    obtain ⟨rfl, rfl⟩ := h
    exact aops_pure hT hw hd hq hp k
  · cases h

theorem aops_do (hT : TyOk P ty) {ops rest : List Oper} {o : Oper} {p : Prop} {σ' : St} (hw : wantedA ops σ o = some true) (hd : dstOk σ o.dst = true) (h : doOp ty σ o = some (p, σ')) (hp : p)
    (k : AOps P Γ ops Q rest σ') : AOps P Γ ops Q (o :: rest) σ := by
  unfold doOp at h
  split at h
  · rename_i t ho
    split at h
    · rename_i ti ht
      simp only [Option.some.injEq, Prod.mk.injEq, addPut_eq] at h
      obtain ⟨rfl, rfl⟩ := h
      exact aops_alloc hT hw hd ho ht k
    · cases h
  · rename_i t x ho
    split at h
    · rename_i ti y ht hx
      split at h
      · rename_i cs hc
        simp only [Option.some.injEq, Prod.mk.injEq, addPut_eq] at h
        obtain ⟨rfl, rfl⟩ := h
        exact aops_box hT hw hd ho ht hx hc k
      · cases h
    · cases h
  · rename_i t x z ho
    split at h
    · rename_i hdn
      unfold storeA at h
      split at h
      · rename_i ti i off y ht hx hz
        split at h
        · rename_i bt cs new hob hc
          split at h
          · rename_i hle
            simp only [Option.some.injEq, Prod.mk.injEq, setO'_eq] at h
            obtain ⟨rfl, rfl⟩ := h
            exact aops_store hT hw hdn ho ht hx hz hob hc hle k
          · cases h
        · cases h
      · rename_i ti i ek kk y ht hx hz
        split at h
        · rename_i ek' e xs d hob hdat hek
          split at h
          · rename_i hek2
            have := ekB_eq hek2
            subst this
            simp only [Option.some.injEq, Prod.mk.injEq, setO'_eq] at h
            obtain ⟨rfl, rfl⟩ := h
            exact aops_storeElt hT hw hdn ho ht hx hz hob hek hdat hp.1 hp.2 k
          · cases h
        · cases h
      · cases h
    · cases h
  · rename_i t x z ho
    unfold makeA at h
    split at h
    · rename_i e s1 s2 s3 s4 ht
      split at h
      · rename_i ei he
        split at h
        · rename_i kl n kc n' hx hz hb
          simp only [Option.some.injEq, Prod.mk.injEq, addPut_eq] at h
          obtain ⟨rfl, rfl⟩ := h
          exact aops_make hT hw hd ho ht rfl he hx hz hp.1 hp.2.1 hb hp.2.2 k
        · cases h
      · cases h
    · cases h
  · rename_i t n parts ho
    unfold litA at h
    split at h
    · rename_i e s1 s2 s3 s4 ht
      split at h
      · rename_i ei he
        split at h
        · rename_i ds hag hpp hN
          split at h
          · rename_i hn
            simp only [Option.some.injEq, Prod.mk.injEq, addPut_eq] at h
            obtain ⟨rfl, rfl⟩ := h
            exact aops_lit hT hw hd ho ht rfl he hag hpp hn hN k
          · cases h
        · cases h
      · cases h
    · cases h
  · rename_i c ho
    split at h
    · rename_i hcal
      split at h
      · rename_i x z t t' hargs htys
        split at h
        · rename_i htt
          have := Nat.eq_of_beq_eq_true htt
          subst this
          unfold appendA at h
          split at h
          · rename_i e s1 s2 s3 s4 ht
            split at h
            · rename_i ei y1 y2 he hx hz
              split at h
              · rename_i kill ek xs ek' ys hb hs
                split at h
                · rename_i h1 h2 h3 h4 h5
                  have e1 := ekB_eq h1
                  have e2 := ekB_eq h2
                  subst e1
                  subst e2
                  simp only [Option.some.injEq, Prod.mk.injEq, addPut_eq] at h
                  obtain ⟨rfl, rfl⟩ := h
                  refine aops_append hT hw hd (by rw [ho]; cases c; simp only at hcal hargs htys; rw [hcal, hargs, htys]) ht rfl he hx hb hz hs h1 h3 h4 h5 hp k
                · cases h
              · cases h
            · cases h
          · cases h
        · cases h
      · cases h
    · exact aops_pureA hT hw hd h hp k
  · exact aops_pureA hT hw hd h hp k

theorem aops_stepA (hT : TyOk P ty) {ops rest : List Oper} {o : Oper} {p : Prop} {σ' : St} (h : stepA ty ops σ o = some (p, σ')) (hp : p) (k : AOps P Γ ops Q rest σ') : AOps P Γ ops Q (o :: rest) σ := by
  unfold stepA at h
  split at h
  · rename_i hw hd
    exact aops_do hT hw hd h hp k
  · rename_i hw hd
    simp only [Option.some.injEq, Prod.mk.injEq, put'_eq] at h
    obtain ⟨rfl, rfl⟩ := h
    exact aops_skip hw (dstOk_spec hd) k
  · cases h

theorem runA_mono {ops : List Oper} {res : List Nat} : ∀ {l : List Oper} {p : Prop} {σ σ' : St} {q : Prop} {r : List Oper}, runA ty ops res l p σ = (q, r, σ') → q → p
  | [], p, σ, σ', q, r, h, hq => by
    simp only [runA, Prod.mk.injEq] at h
    rw [h.1]; exact hq
  | o :: l, p, σ, σ', q, r, h, hq => by
    simp only [runA] at h
    split at h
    · split at h
      · exact (runA_mono h hq).1
      · simp only [Prod.mk.injEq] at h
        rw [h.1]; exact hq
    · simp only [Prod.mk.injEq] at h
      rw [h.1]; exact hq

theorem aops_runA (hT : TyOk P ty) {ops : List Oper} {res : List Nat} : ∀ {l : List Oper} {p : Prop} {σ σ' : St} {q : Prop} {r : List Oper}, runA ty ops res l p σ = (q, r, σ') → q → AOps P Γ ops Q r σ' → AOps P Γ ops Q l σ
  | [], p, σ, σ', q, r, h, hq, k => by
    simp only [runA, Prod.mk.injEq] at h
    obtain ⟨_, rfl, rfl⟩ := h
    exact k
  | o :: l, p, σ, σ', q, r, h, hq, k => by
    simp only [runA] at h
    split at h
    · split at h
      · rename_i p' σ1 hs
        exact aops_stepA hT hs (runA_mono h hq).2 (aops_runA hT h hq k)
      · simp only [Prod.mk.injEq] at h
        obtain ⟨_, rfl, rfl⟩ := h
        exact k
    · simp only [Prod.mk.injEq] at h
      obtain ⟨_, rfl, rfl⟩ := h
      exact k

/-- The next operations, as far as they go by computation. -/
theorem aops_run (hT : TyOk P ty) (res : List Nat) {ops l r : List Oper} {q : Prop} {σ' : St} (h : runA ty ops res l True σ = (q, r, σ')) (hq : q) (k : AOps P Γ ops Q r σ') : AOps P Γ ops Q l σ := aops_runA hT h hq k
theorem awp_run (hT : TyOk P ty) {id : Nat} {l r : List Oper} {q : Prop} {σ' : St} (h : runA ty l [] l True σ = (q, r, σ')) (hq : q) (k : AOps P Γ l Q r σ') : AWp P Γ (.region id l.toArray false) Q σ := awp_region (aops_runA hT h hq k)
/-- A region that goes by computation. -/
theorem awp_all (hT : TyOk P ty) {id : Nat} {l : List Oper} {q : Prop} {σ' : St} (h : runA ty l [] l True σ = (q, [], σ')) (hq : q) (k : Q .normal σ') : AWp P Γ (.region id l.toArray false) Q σ := awp_run hT h hq (aops_nil k)
theorem awp_reg (hT : TyOk P ty) {id : Nat} {l : List Oper} {c : Code} {q : Prop} {σ' : St} (h : runA ty l [] l True σ = (q, [], σ')) (hq : q) (k : AWp P Γ c Q σ') : AWp P Γ (.seq (.region id l.toArray false) c) Q σ := awp_seq (awp_all hT h hq k)
theorem awp_regs (hT : TyOk P ty) {id : Nat} {l r : List Oper} {c : Code} {q : Prop} {σ' : St} (h : runA ty l [] l True σ = (q, r, σ')) (hq : q) (k : AOps P Γ l (AThen (AWp P Γ c Q) Q) r σ') : AWp P Γ (.seq (.region id l.toArray false) c) Q σ := awp_seq (awp_run hT h hq k)

/-! ### Bytes -/
def by1 (b : UInt8) : Dat := .int .u8 b.toNat
def bys (l : List UInt8) : List Dat := l.map by1
theorem bys_len (l : List UInt8) : (bys l).length = l.length := by simp [bys]
theorem bys_u8 (l : List UInt8) : ∀ y ∈ bys l, y.isU8 = true := by
  intro y hy
  obtain ⟨b, _, rfl⟩ := List.mem_map.1 hy
  rfl
theorem toU8_by1 (b : UInt8) : (by1 b).toU8 = b := by
  simp [by1, Dat.toU8]
theorem strOf_bys (l : List UInt8) : strOf (bys l) = ⟨l.toArray⟩ := by
  unfold strOf bys
  congr 2
  rw [List.map_map]
  conv => rhs; rw [← List.map_id l]
  exact List.map_congr_left fun b _ => toU8_by1 b
theorem strOf_eq (x y : List UInt8) : (strOf (bys x) = strOf (bys y)) ↔ x = y := by
  rw [strOf_bys, strOf_bys]
  constructor
  · intro h
    have := congrArg ByteArray.data h
    simpa using this
  · rintro rfl; rfl
theorem bys_cons (b : UInt8) (l : List UInt8) : bys (b :: l) = by1 b :: bys l := rfl
theorem bys_app (x y : List UInt8) : bys (x ++ y) = bys x ++ bys y := by simp [bys]
theorem canon_bys (l : List UInt8) (n : Nat) : ((bys l).getD n default = Dat.int .u8 ((bys l).getD n default).num) ↔ n < l.length := by
  by_cases h : n < l.length
  · simp [bys, List.getElem?_eq_getElem h, h, by1, Dat.num]
  · simp [bys, List.getElem?_eq_none (Nat.le_of_not_lt h), h, default]
def ints (l : List Int) : List Dat := l.map (.int .i64)
theorem ints_len (l : List Int) : (ints l).length = l.length := by simp [ints]
theorem canon_ints (l : List Int) (n : Nat) : ((ints l).getD n default = Dat.int .i64 ((ints l).getD n default).num) ↔ n < l.length := by
  by_cases h : n < l.length
  · simp [ints, List.getElem?_eq_getElem h, h, Dat.num]
  · simp [ints, List.getElem?_eq_none (Nat.le_of_not_lt h), h, default]
/-- Byte strings. -/
def byss (l : List (List UInt8)) : List Dat := l.map fun x => .sl none (bys x)
theorem byss_len (l : List (List UInt8)) : (byss l).length = l.length := by simp [byss]
theorem canon_byss (l : List (List UInt8)) (n : Nat) : ((byss l).getD n default = Dat.sl none ((byss l).getD n default).els) ↔ n < l.length := by
  by_cases h : n < l.length
  · simp [byss, List.getElem?_eq_getElem h, h, Dat.els]
  · simp [byss, List.getElem?_eq_none (Nat.le_of_not_lt h), h, default]
theorem els_byss (l : List (List UInt8)) (n : Nat) : ((byss l).getD n default).els = bys (l.getD n []) := by
  by_cases h : n < l.length
  · simp [byss, List.getElem?_eq_getElem h, Dat.els]
  · simp [byss, List.getElem?_eq_none (Nat.le_of_not_lt h), default, Dat.els, bys]
end
end Go.Am

/- The abstract machine, fifteenth part: a region whose order is drawn. Its head may go in any order; each operation of it is computed on what its edges make sure of. No program. -/
namespace Go.Am
open Go.RowKit
set_option linter.unusedSimpArgs false
set_option linter.unusedVariables false

def Res.dat : Res → Dat
  | .d x => x
  | .own ek _ xs => .sl ek xs
  | .ownT ek _ xs rest => .tup (.sl ek xs :: rest)

theorem OwnRep.dat {w0 w : World} {pr : Nat → Bool} {ek : Option Nat} {e : TypeId} {xs : List Dat} {v : Value} (h : OwnRep w0 w pr ek e xs v) : RepD w (fun b => pr b || decide (w0.heap.size ≤ b)) (.sl ek xs) v := by
  obtain ⟨vals, hown, hcr⟩ := h
  have hcr' : CellsRep w (fun b => pr b || decide (w0.heap.size ≤ b)) ek xs (fun j => vals[j]?) := hcr.mono (fun b hb hp => ⟨rfl, by
    rw [Bool.and_eq_true] at hp
    exact hp.1⟩)
  rcases hown.2 with ⟨hn, h0⟩ | ⟨g, cap, cur, hv, hb, hg, hnc, hcm, hcs, htake⟩
  · have : xs = [] := List.eq_nil_of_length_eq_zero h0
    subst this
    rw [hn]
    exact .nil ek
  · rw [hv]
    refine RepD.sl_mk rfl hnc hcm (fun _ => rfl) (fun x hx => ?_) (fun k x hk j y hj => ?_)
    · obtain ⟨k, hk⟩ := List.mem_iff_getElem?.1 hx
      exact (hcr' k x hk).1
    · obtain ⟨hf, hh⟩ := hcr' k x hk
      obtain ⟨u, hu, hr⟩ := hh j y hj
      refine ⟨by simp [hb], hf.one y (List.mem_of_getElem? hj), u, ?_, hr⟩
      have := hown.cells (g := g) (by rw [hv]; rfl) _ u hu
      rw [Addr.add_lit] at this
      rw [← this]
      congr 2
      omega
theorem ResRep.dat {w0 w : World} {pr : Nat → Bool} {r : Res} {v : Value} (h : ResRep w0 w pr r v) : RepD w (fun b => pr b || decide (w0.heap.size ≤ b)) r.dat v := by
  cases r with
  | d x => exact h
  | own ek e xs => exact OwnRep.dat h
  | ownT ek e xs rest =>
    obtain ⟨vs, rfl, hs, ho, hr⟩ := h
    refine .tup _ vs (by simpa using hs) (fun j y hj => ?_)
    cases j with
    | zero => simp at hj; subst hj; exact OwnRep.dat ho
    | succ j => exact (hr j y (by simpa using hj)).mono (fun b hb hp => ⟨rfl, by rw [Bool.and_eq_true] at hp; exact hp.1⟩)

/-- What an operation of the head leaves: its number, its slot, what lies in it, an object that it made. -/
structure Ent where
  j : Nat
  dst : Option Tmp
  y : AV
  ob : Option AO

def tmOf : List Ent → List (Nat × AV) → List (Nat × AV)
  | [], tm => tm
  | ⟨_, some d, y, _⟩ :: r, tm => (d, y) :: tmOf r tm
  | ⟨_, none, _, _⟩ :: r, tm => tmOf r tm
def obOf (base : Nat) : List Ent → List (Nat × AO) → List (Nat × AO)
  | [], ob => ob
  | ⟨j, _, _, some o⟩ :: r, ob => (base + j, o) :: obOf base r ob
  | ⟨_, _, _, none⟩ :: r, ob => obOf base r ob
/-- The slots that the head fills: what is in them is not known. -/
def veil : List Oper → List (Nat × AV) → List (Nat × AV)
  | [], tm => tm
  | o :: r, tm => match o.dst with
    | some d => (d, .undef) :: veil r tm
    | none => veil r tm
def stE (σ : St) (n : Nat) (D : List Oper) (es : List Ent) : St := ⟨σ.sz, tmOf es (veil D σ.tm), obOf σ.nx es σ.ob, σ.nx + n⟩
def waitsB : List Edge → Nat → Bool
  | [], _ => false
  | e :: r, j => match Nat.beq e.on j, Region.binds .any e with
    | true, true => true
    | _, _ => waitsB r j
def keepE (l : List Edge) : List Ent → List Ent
  | [] => []
  | e :: r => match waitsB l e.j with
    | true => e :: keepE l r
    | false => keepE l r
def minE (σ : St) (n : Nat) (D : List Oper) (acc : List Ent) (o : Oper) : St := stE σ n D (keepE o.after.toList acc)

section
variable {P : Program} {Γ : Env} {Q : Exit → St → Prop} {σ : St} {ty : TypeId → Option TI}

/-- An operation of the head goes through, wherever the others stand. -/
def HStep (P : Program) (Γ : Env) (σm : St) (o : Oper) (id : Nat) (y : AV) (ob : Option AO) : Prop :=
  ∀ (a : Act) (C : Ct) (K : Act → World → Prop) (R : Exit → Act → World → Prop), Base0 Γ C → Models σm a C → C.ok id = false →
    (∀ v C', Evo C C' → (∀ i, C'.ok i = true → C.ok i = true ∨ (i = id ∧ ob.isSome = true)) → Rep C' y v →
      (∀ ao, ob = some ao → ORep C' id ao ∧ ∀ g, blk (C'.ρ id) = some g → C.w.heap.size ≤ g) →
      (∀ g, g < C.w.heap.size → C'.w.heap[g]? = C.w.heap[g]? ∧ C'.pr g = C.pr g) → K (a.put o.dst v) C'.w) → o.wp P a C.w K R
def EntOk (P : Program) (Γ : Env) (l : List Oper) (σ : St) (n : Nat) (D : List Oper) (acc : List Ent) (o : Oper) (e : Ent) : Prop :=
  dstOk σ o.dst = true ∧ ((wantedA l (minE σ n D acc o) o = some true ∧ HStep P Γ (minE σ n D acc o) o (σ.nx + e.j) e.y e.ob) ∨
    (wantedA l (minE σ n D acc o) o = some false ∧ e.y = .un ∧ e.ob = none))
/-- The head, step by step. -/
def HeadT (P : Program) (Γ : Env) (l : List Oper) (σ : St) (n : Nat) (D : List Oper) (K : List Ent → Prop) : List Oper → Nat → List Ent → Prop
  | [], _, acc => K acc
  | o :: r, j, acc => ∃ y ob, EntOk P Γ l σ n D acc o ⟨j, o.dst, y, ob⟩ ∧ HeadT P Γ l σ n D K r (j + 1) (⟨j, o.dst, y, ob⟩ :: acc)

theorem HStep.pure (hT : TyOk P ty) {σm : St} {o : Oper} {id : Nat} {p : Prop} {y : AV} (h : pureOp ty σm o.type o.op = some (p, y)) (hp : p) : HStep P Γ σm o id y none := by
  intro a C K R b m hid hk
  obtain ⟨v, hv, hr⟩ := pureOp_sound hT m h hp
  exact upon_value hv (hk v C (.refl C) (fun i hi => .inl hi) hr (by simp) (fun g hg => ⟨rfl, rfl⟩))
theorem HStep.alloc (hT : TyOk P ty) {σm : St} {o : Oper} {id : Nat} {t : TypeId} {ti : TI} (ho : o.op = .alloc t) (ht : ty t = some ti) : HStep P Γ σm o id (.ptr id 0) (some (.box t (ti.zd.map zav))) := by
  intro a C K R b m hid hk
  have hB := b.B
  obtain ⟨j, hj, _, _, hjz⟩ := hT.info _ _ ht
  have hrun : (execOp a.eval o).run P C.w = .ok (.value (.pointer (some ⟨C.w.heap.size, 0, none⟩))) (C.w.alloc (.cells ti.zero.cells t)) := by
    unfold execOp
    simp only [ho]
    refine run_value ?_
    simp [Instr.alloc, zeroValue, typeInfo, hj, hjz, newVar, newRow]
  refine upon_value hrun (hk _ (C.new id (.cells ti.zero.cells t) (.pointer (some ⟨C.w.heap.size, 0, none⟩))) (Ct.new_evo hid hB _ _) (fun i hi => (ok_or hi).imp (fun h => h) (fun h => ⟨h, rfl⟩)) ?_ (fun ao h => ?_) (fun g hg => ⟨heap_alloc_old C.w _ hg, ?_⟩))
  · exact .ptr _ _ C.w.heap.size (by simp [Ct.new]) (by simp [Ct.new, blk])
  · cases h
    refine ⟨new_box hid hB (zero_csrep hT ht C), fun g hg => ?_⟩
    simp [Ct.new, blk] at hg
    omega
  · simp only [Ct.new]
    rw [if_neg (by omega)]
theorem HStep.call {σm : St} {o : Oper} {id : Nat} {c : Call} {fx : Operand} {f : FuncId} {ys : List AV} {dargs : List Dat} {R : Res → Prop} {x : Dat} (ho : o.op = .call c) (hc : c.callee = .value fx) (hf : calleeOf σm ty fx = some (f, []))
    (hy : evAll σm ty c.args.toList c.argTypes.toList = some ys) (hdat : datAll σm ys = some dargs) (hA : ACalls P Γ f dargs R) (hR : ∀ r, R r → r.dat = x) : HStep P Γ σm o id (.d x) none := by
  intro a C K R' b m hid hk
  obtain ⟨⟨fn, hfn⟩, hcalls⟩ := hA
  obtain ⟨vs, hvl, _, hrun⟩ := run_call (P := P) m ho hc hf hfn
  have hv0 : vs = #[] := Array.eq_empty_of_size_eq_zero (by simpa using hvl)
  subst hv0
  obtain ⟨y1, y2⟩ := evAll_sound m hy
  obtain ⟨d1, d2⟩ := datAll_sound m hdat
  unfold Oper.wp
  rw [hrun, show c.args.map a.eval ++ #[] = c.args.map a.eval by simp]
  refine (hcalls C.w C.pr (c.args.map a.eval) b.ok (by simp [d1, y1]) (fun j x hj => ?_)).mono ?_
  · exact d2 (fun j => (c.args.map a.eval).getD j undef) (fun j y hy => by simpa using y2 j y hy) j x hj
  · rintro e w' ⟨v, r, rfl, hbel, hres, hr⟩
    have hx := hres.dat
    rw [hR r hr] at hx
    refine hk v (C.back0 w') (Ct.back0_evo b.B hbel) (fun i hi => .inl hi) (.d hx) (by simp) (fun g hg => ⟨hbel.block g hg, ?_⟩)
    simp [Ct.back0]
    intro h
    omega

/-! ### Looking things up -/
theorem look_tmOf {t : Nat} {tm : List (Nat × AV)} : ∀ {es : List Ent} {x : AV}, look t (tmOf es tm) = some x → (∃ e ∈ es, e.dst = some t ∧ e.y = x) ∨ (look t tm = some x ∧ ∀ e ∈ es, e.dst ≠ some t)
  | [], x, h => .inr ⟨h, by simp⟩
  | ⟨j, some d, y, ob⟩ :: r, x, h => by
    rw [tmOf, look_cons] at h
    split at h
    · rename_i e
      subst e
      cases h
      exact .inl ⟨_, List.mem_cons_self .., rfl, rfl⟩
    · rename_i hne
      rcases look_tmOf h with ⟨e, he, h1⟩ | ⟨h1, h2⟩
      · exact .inl ⟨e, List.mem_cons_of_mem _ he, h1⟩
      · refine .inr ⟨h1, fun e he => ?_⟩
        rcases List.mem_cons.1 he with rfl | he
        · simpa using hne
        · exact h2 e he
  | ⟨j, none, y, ob⟩ :: r, x, h => by
    rw [tmOf] at h
    rcases look_tmOf h with ⟨e, he, h1⟩ | ⟨h1, h2⟩
    · exact .inl ⟨e, List.mem_cons_of_mem _ he, h1⟩
    · refine .inr ⟨h1, fun e he => ?_⟩
      rcases List.mem_cons.1 he with rfl | he
      · simp
      · exact h2 e he
theorem tmOf_miss {t : Nat} {tm : List (Nat × AV)} : ∀ {es : List Ent}, (∀ e ∈ es, e.dst ≠ some t) → look t (tmOf es tm) = look t tm
  | [], h => rfl
  | ⟨j, some d, y, ob⟩ :: r, h => by
    rw [tmOf, look_cons, if_neg]
    · exact tmOf_miss fun e he => h e (List.mem_cons_of_mem _ he)
    · rintro rfl
      exact h _ (List.mem_cons_self ..) rfl
  | ⟨j, none, y, ob⟩ :: r, h => by
    rw [tmOf]
    exact tmOf_miss fun e he => h e (List.mem_cons_of_mem _ he)
theorem tmOf_hit {t : Nat} {tm : List (Nat × AV)} {e : Ent} (hd : e.dst = some t) : ∀ {es : List Ent}, e ∈ es → (∀ e' ∈ es, e'.dst = some t → e' = e) → look t (tmOf es tm) = some e.y
  | [], h, _ => by cases h
  | ⟨j, some d, y, ob⟩ :: r, h, hu => by
    rw [tmOf, look_cons]
    split
    · rename_i hdt
      have := hu ⟨j, some d, y, ob⟩ (List.mem_cons_self ..) (by rw [hdt])
      rw [← this]
    · rename_i hne
      refine tmOf_hit hd ?_ (fun e' he' => hu e' (List.mem_cons_of_mem _ he'))
      rcases List.mem_cons.1 h with rfl | h
      · exact absurd (by simpa using hd) hne
      · exact h
  | ⟨j, none, y, ob⟩ :: r, h, hu => by
    rw [tmOf]
    refine tmOf_hit hd ?_ (fun e' he' => hu e' (List.mem_cons_of_mem _ he'))
    rcases List.mem_cons.1 h with rfl | h
    · cases hd
    · exact h
theorem look_obOf {base i : Nat} {ob : List (Nat × AO)} : ∀ {es : List Ent} {x : AO}, look i (obOf base es ob) = some x → (∃ e ∈ es, base + e.j = i ∧ e.ob = some x) ∨ look i ob = some x
  | [], x, h => .inr h
  | ⟨j, d, y, some o⟩ :: r, x, h => by
    rw [obOf, look_cons] at h
    split at h
    · rename_i e
      cases h
      exact .inl ⟨_, List.mem_cons_self .., e, rfl⟩
    · rcases look_obOf h with ⟨e, he, h1⟩ | h1
      · exact .inl ⟨e, List.mem_cons_of_mem _ he, h1⟩
      · exact .inr h1
  | ⟨j, d, y, none⟩ :: r, x, h => by
    rw [obOf] at h
    rcases look_obOf h with ⟨e, he, h1⟩ | h1
    · exact .inl ⟨e, List.mem_cons_of_mem _ he, h1⟩
    · exact .inr h1
theorem obOf_hit {base : Nat} {ob : List (Nat × AO)} {e : Ent} {o : AO} (ho : e.ob = some o) : ∀ {es : List Ent}, e ∈ es → (∀ e' ∈ es, e'.j = e.j → e' = e) → look (base + e.j) (obOf base es ob) = some o
  | [], h, _ => by cases h
  | ⟨j, d, y, some o'⟩ :: r, h, hu => by
    rw [obOf, look_cons]
    split
    · rename_i hdt
      have := hu ⟨j, d, y, some o'⟩ (List.mem_cons_self ..) (by simpa using hdt)
      rw [← this] at ho
      simpa using ho
    · rename_i hne
      refine obOf_hit ho ?_ (fun e' he' => hu e' (List.mem_cons_of_mem _ he'))
      rcases List.mem_cons.1 h with rfl | h
      · exact absurd rfl hne
      · exact h
  | ⟨j, d, y, none⟩ :: r, h, hu => by
    rw [obOf]
    refine obOf_hit ho ?_ (fun e' he' => hu e' (List.mem_cons_of_mem _ he'))
    rcases List.mem_cons.1 h with rfl | h
    · cases ho
    · exact h
theorem obOf_low {base i : Nat} {ob : List (Nat × AO)} (hi : i < base) : ∀ {es : List Ent}, look i (obOf base es ob) = look i ob
  | [] => rfl
  | ⟨j, d, y, some o⟩ :: r => by
    rw [obOf, look_cons, if_neg (by omega)]
    exact obOf_low hi
  | ⟨j, d, y, none⟩ :: r => by
    rw [obOf]
    exact obOf_low hi
theorem look_veil {t : Nat} {tm : List (Nat × AV)} : ∀ {D : List Oper} {x : AV}, look t (veil D tm) = some x → (x = .undef ∧ ∃ o ∈ D, o.dst = some t) ∨ (look t tm = some x ∧ ∀ o ∈ D, o.dst ≠ some t)
  | [], x, h => .inr ⟨h, by simp⟩
  | o :: r, x, h => by
    rw [veil] at h
    split at h
    · rename_i d hd
      rw [look_cons] at h
      split at h
      · rename_i e
        subst e
        cases h
        exact .inl ⟨rfl, o, List.mem_cons_self .., hd⟩
      · rename_i hne
        rcases look_veil h with ⟨h1, o', h2, h3⟩ | ⟨h1, h2⟩
        · exact .inl ⟨h1, o', List.mem_cons_of_mem _ h2, h3⟩
        · refine .inr ⟨h1, fun o' ho' => ?_⟩
          rcases List.mem_cons.1 ho' with rfl | ho'
          · rw [hd]; simpa using hne
          · exact h2 o' ho'
    · rename_i hd
      rcases look_veil h with ⟨h1, o', h2, h3⟩ | ⟨h1, h2⟩
      · exact .inl ⟨h1, o', List.mem_cons_of_mem _ h2, h3⟩
      · refine .inr ⟨h1, fun o' ho' => ?_⟩
        rcases List.mem_cons.1 ho' with rfl | ho'
        · rw [hd]; simp
        · exact h2 o' ho'
theorem veil_miss {t : Nat} {tm : List (Nat × AV)} : ∀ {D : List Oper}, (∀ o ∈ D, o.dst ≠ some t) → look t (veil D tm) = look t tm
  | [], h => rfl
  | o :: r, h => by
    rw [veil]
    split
    · rename_i d hd
      rw [look_cons, if_neg]
      · exact veil_miss fun o' ho' => h o' (List.mem_cons_of_mem _ ho')
      · rintro rfl
        exact h _ (List.mem_cons_self ..) hd
    · exact veil_miss fun o' ho' => h o' (List.mem_cons_of_mem _ ho')
theorem mem_keepE {l : List Edge} : ∀ {es : List Ent} {e : Ent}, e ∈ keepE l es → e ∈ es ∧ waitsB l e.j = true
  | [], e, h => by cases h
  | x :: r, e, h => by
    rw [keepE] at h
    split at h
    · rename_i hw
      rcases List.mem_cons.1 h with rfl | h
      · exact ⟨List.mem_cons_self .., hw⟩
      · exact ⟨List.mem_cons_of_mem _ (mem_keepE h).1, (mem_keepE h).2⟩
    · exact ⟨List.mem_cons_of_mem _ (mem_keepE h).1, (mem_keepE h).2⟩
theorem waitsB_spec {j : Nat} : ∀ {l : List Edge}, waitsB l j = true → ∃ e ∈ l, e.on = j ∧ Region.binds .any e = true
  | [], h => by cases h
  | e :: r, h => by
    rw [waitsB] at h
    split at h
    · rename_i h1 h2
      exact ⟨e, List.mem_cons_self .., Nat.eq_of_beq_eq_true h1, h2⟩
    · obtain ⟨e', h1, h2⟩ := waitsB_spec h
      exact ⟨e', List.mem_cons_of_mem _ h1, h2⟩

theorem Models.weak {σ σ' : St} {a : Act} {C : Ct} (h : Models σ a C) (h1 : σ'.sz = σ.sz) (h2 : σ.nx ≤ σ'.nx) (h3 : ∀ t x, σ'.get t = some x → σ.get t = some x ∨ (x = .undef ∧ t < σ.sz)) (h4 : ∀ i o, σ'.obj i = some o → σ.obj i = some o) : Models σ' a C :=
  ⟨h.defers, by rw [h1]; exact h.sz, fun i hi => Nat.lt_of_lt_of_le (h.nx i hi) h2, fun t x ht => by
    rw [h1]
    rcases h3 t x ht with h | ⟨rfl, hlt⟩
    · exact ‹Models σ a C›.tm t x h
    · exact ⟨hlt, .undef _⟩, fun i o hi => h.ob i o (h4 i o hi), fun i j o o' g hi hj => h.apart i j o o' g (h4 i o hi) (h4 j o' hj)⟩

/-! ### The head -/
/-- All that is known of the entries of a head. -/
structure Head (P : Program) (Γ : Env) (l : List Oper) (σ : St) (n : Nat) (es : List Ent) : Prop where
  ent : ∀ i o, i < n → l[i]? = some o → ∃ acc e, (∀ e' ∈ acc, e' ∈ es) ∧ e ∈ es ∧ e.j = i ∧ e.dst = o.dst ∧ EntOk P Γ l σ n (l.take n) acc o e
  uniq : ∀ e ∈ es, ∀ e' ∈ es, e.j = e'.j → e = e'
  lt : ∀ e ∈ es, e.j < n ∧ ∃ o, l[e.j]? = some o ∧ e.dst = o.dst
  dsts : ∀ e ∈ es, ∀ e' ∈ es, ∀ t, e.dst = some t → e'.dst = some t → e = e'
  low : ∀ i o, σ.obj i = some o → i < σ.nx

theorem Head.mem {l : List Oper} {n : Nat} {es : List Ent} (H : Head P Γ l σ n es) {e : Ent} (he : e ∈ es) : ∃ o ∈ l.take n, e.dst = o.dst := by
  obtain ⟨h1, o, h2, h3⟩ := H.lt e he
  refine ⟨o, List.mem_of_getElem? (i := e.j) ?_, h3⟩
  rw [List.getElem?_take, if_pos h1]
  exact h2
theorem Head.ent_of {l : List Oper} {n : Nat} {es : List Ent} (H : Head P Γ l σ n es) {o : Oper} (ho : o ∈ l.take n) : ∃ e ∈ es, e.dst = o.dst ∧ dstOk σ o.dst = true := by
  obtain ⟨i, hi⟩ := List.mem_iff_getElem?.1 ho
  rw [List.getElem?_take] at hi
  split at hi
  · rename_i hlt
    obtain ⟨acc, e, _, h2, h3, h4, h5⟩ := H.ent i o hlt hi
    exact ⟨e, h2, h4, h5.1⟩
  · cases hi

theorem Head.start {l : List Oper} {n : Nat} {es : List Ent} (H : Head P Γ l σ n es) {a : Act} {C : Ct} (m : Models σ a C) : Models (stE σ n (l.take n) []) a C :=
  m.weak rfl (Nat.le_add_right _ _) (fun t x ht => by
    rcases look_veil ht with ⟨h1, o, h2, h3⟩ | ⟨h1, _⟩
    · obtain ⟨e, _, _, h6⟩ := H.ent_of h2
      rw [h3] at h6
      exact .inr ⟨h1, by simpa [dstOk, Nat.blt_eq] using h6⟩
    · exact .inl h1) (fun i o hi => hi)

theorem Head.less {l : List Oper} {n : Nat} {es done es' : List Ent} (H : Head P Γ l σ n es) {a : Act} {C : Ct} (hd : ∀ e ∈ done, e ∈ es) (hs : ∀ e ∈ es', e ∈ done) (m : Models (stE σ n (l.take n) done) a C) : Models (stE σ n (l.take n) es') a C :=
  m.weak rfl (Nat.le_refl _) (fun t x ht => by
    rcases look_tmOf ht with ⟨e, h1, h2, h3⟩ | ⟨h1, _⟩
    · left
      rw [← h3]
      exact tmOf_hit h2 (hs e h1) (fun e' he' hd' => H.dsts e' (hd e' he') e (hd e (hs e h1)) t hd' h2)
    · rcases look_veil h1 with ⟨h1, o, h2, h3⟩ | ⟨h1, h2⟩
      · obtain ⟨e, _, _, h6⟩ := H.ent_of h2
        rw [h3] at h6
        exact .inr ⟨h1, by simpa [dstOk, Nat.blt_eq, stE] using h6⟩
      · left
        show look t (tmOf done (veil (l.take n) σ.tm)) = some x
        rw [tmOf_miss, veil_miss h2]
        · exact h1
        · intro e he
          obtain ⟨o, ho, h3⟩ := H.mem (hd e he)
          rw [h3]
          exact h2 o ho) (fun i o hi => by
    rcases look_obOf hi with ⟨e, h1, rfl, h3⟩ | h1
    · exact obOf_hit h3 (hs e h1) (fun e' he' hj => H.uniq e' (hd e' he') e (hd e (hs e h1)) hj)
    · show look i (obOf σ.nx done σ.ob) = some o
      rw [obOf_low (H.low i o h1)]
      exact h1)

def finE (σ : St) (n : Nat) (es : List Ent) : St := ⟨σ.sz, tmOf es σ.tm, obOf σ.nx es σ.ob, σ.nx + n⟩
theorem Head.fin {l : List Oper} {n : Nat} {es done : List Ent} (H : Head P Γ l σ n es) {a : Act} {C : Ct} (hd : ∀ e ∈ done, e ∈ es) (hs : ∀ e ∈ es, e ∈ done) (m : Models (stE σ n (l.take n) done) a C) : Models (finE σ n es) a C :=
  m.weak rfl (Nat.le_refl _) (fun t x ht => by
    left
    rcases look_tmOf ht with ⟨e, h1, h2, h3⟩ | ⟨h1, h2⟩
    · rw [← h3]
      exact tmOf_hit h2 (hs e h1) (fun e' he' hd' => H.dsts e' (hd e' he') e h1 t hd' h2)
    · show look t (tmOf done (veil (l.take n) σ.tm)) = some x
      rw [tmOf_miss (fun e he => h2 e (hd e he)), veil_miss]
      · exact h1
      · intro o ho
        obtain ⟨e, he, h4, _⟩ := H.ent_of ho
        rw [← h4]
        exact h2 e he) (fun i o hi => by
    rcases look_obOf hi with ⟨e, h1, rfl, h3⟩ | h1
    · exact obOf_hit h3 (hs e h1) (fun e' he' hj => H.uniq e' (hd e' he') e h1 hj)
    · show look i (obOf σ.nx done σ.ob) = some o
      rw [obOf_low (H.low i o h1)]
      exact h1)

/-- One more operation of the head is done. -/
theorem Models.ent {σ : St} {n : Nat} {D : List Oper} {done : List Ent} {e : Ent} {a : Act} {C C' : Ct} {v : Value} (m : Models (stE σ n D done) a C) (hj : e.j < n) (hd : dstOk σ e.dst = true) (ev : Evo C C') (hn : ∀ i, C'.ok i = true → C.ok i = true ∨ (i = σ.nx + e.j ∧ e.ob.isSome = true)) (hv : Rep C' e.y v)
    (ho : ∀ ao, e.ob = some ao → ORep C' (σ.nx + e.j) ao ∧ ∀ g, blk (C'.ρ (σ.nx + e.j)) = some g → C.w.heap.size ≤ g) (hk : ∀ g, g < C.w.heap.size → C'.w.heap[g]? = C.w.heap[g]? ∧ C'.pr g = C.pr g) : Models (stE σ n D (e :: done)) (a.put e.dst v) C' := by
  obtain ⟨j, d, y, ob⟩ := e
  cases ob with
  | none =>
    have m' : Models (stE σ n D done) a C' := m.mono ev (fun i hi => by simpa using hn i hi) (fun i o g hi he hg => by
      obtain ⟨h1, h2, _⟩ := (m.ob i o hi).excl he hg
      obtain ⟨h3, h4⟩ := hk g h1
      exact ⟨h3, h4.trans h2⟩)
    have m2 := m'.put (dst := d) hv (dstOk_spec hd)
    cases d <;> exact m2
  | some o =>
    obtain ⟨h1, h2⟩ := ho o rfl
    have m' : Models ((stE σ n D done).addAt (σ.nx + j) (σ.nx + n) none o) a C' := m.addAt ev (σ.nx + j) (σ.nx + n) none o (by simp) (fun i hi => by simpa using hn i hi) (Nat.le_refl _) (by simp only at hj; omega) h1 (fun k ok g hi he _ hg => by
      obtain ⟨h3, h4, _⟩ := (m.ob k ok hi).excl he hg
      obtain ⟨h5, h6⟩ := hk g h3
      refine ⟨h5, h6.trans h4, fun h7 => ?_⟩
      have := h2 g h7
      omega)
    have m2 := m'.put (dst := d) hv (dstOk_spec hd)
    cases d <;> exact m2
end
end Go.Am

/- The abstract machine, sixteenth part: the rule for a region whose order is drawn. No program. -/
namespace Go.Am
open Go.RowKit
set_option linter.unusedSimpArgs false
set_option linter.unusedVariables false

def cntF (listed : Array Bool) : Nat → Nat
  | 0 => 0
  | k + 1 => cntF listed k + (match listed.getD k false with
    | true => 0
    | false => 1)
theorem cntF_ge {listed : Array Bool} {i : Nat} : ∀ {k : Nat}, k ≤ i → cntF (listed.setIfInBounds i true) k = cntF listed k
  | 0, _ => rfl
  | k + 1, h => by
    simp only [cntF]
    rw [cntF_ge (by omega), getD_set_ne false (by omega)]
theorem cntF_set {listed : Array Bool} {i : Nat} (hs : i < listed.size) (hf : listed.getD i false = false) : ∀ {k : Nat}, i < k → cntF (listed.setIfInBounds i true) k + 1 = cntF listed k
  | 0, h => by omega
  | k + 1, h => by
    simp only [cntF]
    by_cases hik : i = k
    · subst hik
      have h1 : (listed.setIfInBounds i true).getD i false = true := by simp [hs]
      rw [cntF_ge (Nat.le_refl _), h1, hf]
      rfl
    · rw [getD_set_ne false hik]
      have := cntF_set hs hf (k := k) (by omega)
      omega
theorem cntF_zero {listed : Array Bool} : ∀ {k : Nat}, cntF listed k = 0 → ∀ j, j < k → listed.getD j false = true
  | 0, _, j, hj => by omega
  | k + 1, h, j, hj => by
    simp only [cntF] at h
    by_cases hjk : j = k
    · subst hjk
      cases hl : listed.getD j false with
      | true => rfl
      | false => rw [hl] at h; simp at h
    · exact cntF_zero (k := k) (by omega) j (by omega)
theorem cntF_pos {listed : Array Bool} : ∀ {k : Nat}, 0 < cntF listed k → ∃ j, j < k ∧ listed.getD j false = false
  | 0, h => by simp [cntF] at h
  | k + 1, h => by
    cases hl : listed.getD k false with
    | false => exact ⟨k, by omega, hl⟩
    | true =>
      simp only [cntF, hl] at h
      obtain ⟨j, h1, h2⟩ := cntF_pos (k := k) (by omega)
      exact ⟨j, by omega, h2⟩
theorem cntF_new (m : Nat) : ∀ k, cntF (Array.replicate m false) k = k
  | 0 => rfl
  | k + 1 => by simp only [cntF, getD_replicate_false, cntF_new m k]

/-- Edges of the head point backwards. -/
def backB : List Oper → Nat → Bool
  | [], _ => true
  | o :: r, k => o.after.toList.all (fun e => !Region.binds .any e || Nat.blt e.on k) && backB r (k + 1)
theorem backB_spec : ∀ {l : List Oper} {k : Nat}, backB l k = true → ∀ i o, l[i]? = some o → ∀ e ∈ o.after, Region.binds .any e = true → e.on < k + i
  | [], k, _, i, o, h => by simp at h
  | x :: r, k, hb, 0, o, h => by
    simp only [backB, Bool.and_eq_true, List.all_eq_true] at hb
    simp at h
    subst h
    intro e he hbd
    have := hb.1 e (by simpa using he)
    simpa [hbd, Nat.blt_eq] using this
  | x :: r, k, hb, i + 1, o, h => by
    simp only [backB, Bool.and_eq_true] at hb
    intro e he hbd
    have := backB_spec hb.2 i o (by simpa using h) e he hbd
    omega
def dstNot (t : Tmp) : List Oper → Bool
  | [] => true
  | o :: r => match o.dst with
    | some d => !Nat.beq d t && dstNot t r
    | none => dstNot t r
def dstsB : List Oper → Bool
  | [] => true
  | o :: r => match o.dst with
    | some d => dstNot d r && dstsB r
    | none => dstsB r
theorem dstNot_spec {t : Tmp} : ∀ {l : List Oper}, dstNot t l = true → ∀ (i : Nat) (o : Oper), l[i]? = some o → o.dst ≠ some t
  | [], _, i, o, h => by simp at h
  | x :: r, hb, i, o, h => by
    rw [dstNot] at hb
    cases i with
    | zero =>
      simp at h
      subst h
      split at hb
      · rename_i d hd
        rw [hd]
        rintro he
        cases he
        simp at hb
      · rename_i hd
        rw [hd]; simp
    | succ i =>
      have hr : dstNot t r = true := by
        split at hb
        · exact (Bool.and_eq_true _ _ ▸ hb).2
        · exact hb
      exact dstNot_spec hr i o (by simpa using h)
theorem dstsB_spec : ∀ {l : List Oper}, dstsB l = true → ∀ (i : Nat) (o : Oper) (j : Nat) (o' : Oper) (t : Tmp), l[i]? = some o → l[j]? = some o' → o.dst = some t → o'.dst = some t → i = j
  | [], _, i, o, j, o', t, h, _, _, _ => by simp at h
  | x :: r, hb, i, o, j, o', t, hi, hj, ho, ho' => by
    rw [dstsB] at hb
    have hr : dstsB r = true := by
      split at hb
      · exact (Bool.and_eq_true _ _ ▸ hb).2
      · exact hb
    cases i with
    | zero =>
      cases j with
      | zero => rfl
      | succ j =>
        simp at hi
        subst hi
        rw [ho] at hb
        have h1 : dstNot t r = true := (Bool.and_eq_true _ _ ▸ hb).1
        exact absurd ho' (dstNot_spec h1 j o' (by simpa using hj))
    | succ i =>
      cases j with
      | zero =>
        simp at hj
        subst hj
        rw [ho'] at hb
        have h1 : dstNot t r = true := (Bool.and_eq_true _ _ ▸ hb).1
        exact absurd ho (dstNot_spec h1 i o (by simpa using hi))
      | succ j =>
        have := dstsB_spec hr i o j o' t (by simpa using hi) (by simpa using hj) ho ho'
        omega

def headArr (n m : Nat) : Array Bool := ((List.range m).map (fun j => Nat.blt j n)).toArray
def drawnB (l : List Oper) (n : Nat) : Bool := Nat.blt n l.length && Region.sinkB .any l.toArray n && Region.chainB .any l.toArray n && Region.seqB .any l.toArray (l.length - n) n (headArr n l.length) && backB (l.take n) 0 && dstsB (l.take n)

section
variable {P : Program} {Γ : Env} {Q : Exit → St → Prop} {σ : St} {ty : TypeId → Option TI}

theorem ready_some {l : List Oper} {n : Nat} {listed : Array Bool} (hb : backB (l.take n) 0 = true) (hn : n < l.length) (hsz : listed.size = l.length) : ∀ j, j < n → listed.getD j false = false → Region.ready .any l.toArray listed ≠ [] := by
  intro j
  induction j using Nat.strongRecOn with
  | _ j ih =>
    intro hj hl
    by_cases hex : ∃ e ∈ (l[j]'(by omega)).after, Region.binds .any e = true ∧ listed.getD e.on false = false
    · obtain ⟨e, he, hbd, hun⟩ := hex
      have hlt := backB_spec hb j (l[j]'(by omega)) (by rw [List.getElem?_take, if_pos hj]; exact List.getElem?_eq_getElem (by omega)) e he hbd
      exact ih e.on (by omega) (by omega) hun
    · intro hnil
      have : j ∈ Region.ready .any l.toArray listed := by
        refine mem_ready.2 ⟨getD_in (by omega) hl, l[j]'(by omega), by simp, fun e he hbd => ?_⟩
        cases hx : listed.getD e.on false with
        | true => rfl
        | false => exact absurd ⟨e, he, hbd, hx⟩ hex
      rw [hnil] at this
      cases this

theorem any_head {l : List Oper} {n : Nat} {es : List Ent} (H : Head P Γ l σ n es) (hB : drawnB l n = true) (k : AOps P Γ l Q (l.drop n) (finE σ n es)) {C0 : Ct} (b : Base Γ C0) :
    ∀ (m : Nat) (done : List Ent) (listed : Array Bool) (a : Act) (C : Ct), cntF listed n = m → HeadInv .any l.toArray n listed → (∀ e ∈ done, e ∈ es) → (∀ j, j < n → (listed.getD j false = true ↔ ∃ e ∈ done, e.j = j)) →
      (∀ j, C.ok (σ.nx + j) = true → ∃ e ∈ done, e.j = j) → Evo C0 C → Models (stE σ n (l.take n) done) a C → wpAny P .any l.toArray (post C0 Q) (m + (l.length - n)) listed a C.w := by
  simp only [drawnB, Bool.and_eq_true, Nat.blt_eq] at hB
  obtain ⟨⟨⟨⟨⟨hn, hsink⟩, hchain⟩, hseq⟩, hback⟩, hdst⟩ := hB
  intro m
  induction m with
  | zero =>
    intro done listed a C hcnt inv hd hl hok ev md
    have hall := cntF_zero hcnt
    have hsz : listed.size = l.length := by simpa using inv.size
    have harr : listed = headArr n l.length := by
      apply Array.ext
      · rw [hsz]; simp [headArr]
      · intro j h1 h2
        simp only [headArr, List.getElem_toArray, List.getElem_map, List.getElem_range]
        by_cases hj : j < n
        · have := hall j hj
          simp [h1] at this
          rw [this]
          symm
          simpa [Nat.blt_eq] using hj
        · have := inv.tail j (by omega) (by simp; omega)
          simp [h1] at this
          rw [this]
          cases hb : Nat.blt j n with
          | false => rfl
          | true => rw [Nat.blt_eq] at hb; omega
    have hfin := H.fin hd (fun e he => by
      obtain ⟨h1, _⟩ := H.lt e he
      obtain ⟨e', he', hj⟩ := (hl e.j h1).1 (hall e.j h1)
      rw [← H.uniq e' (hd e' he') e he hj]
      exact he') md
    have hw := k C0 a C b ev hfin
    have hdl : (l.drop n).length = l.length - n := by simp
    have := wpAny_of_seq (md := .any) (P := P) (ops := l.toArray) (Q' := post C0 Q) (l.drop n) n listed a C.w (fun j => by simp [List.getElem?_drop]) (by rw [hdl, harr]; exact hseq) hw
    rw [hdl] at this
    simpa using this
  | succ m ih =>
    intro done listed a C hcnt inv hd hl hok ev md
    have hsz : listed.size = l.length := by simpa using inv.size
    obtain ⟨j0, hj0, hun0⟩ := cntF_pos (listed := listed) (k := n) (by omega)
    rw [show m + 1 + (l.length - n) = (m + (l.length - n)) + 1 by omega]
    refine ⟨fun h => absurd h (ready_some hback hn hsz j0 hj0 hun0), fun i hi => ?_⟩
    have hin : i < n := by
      rcases Nat.lt_or_ge i n with h | h
      · exact h
      · exact absurd hi (tail_waits hsink hchain (by simpa using hn) inv _ j0 rfl hj0 (getD_in (by omega) hun0) i h)
    obtain ⟨hiun, o, ho, hdeps⟩ := mem_ready.1 hi
    have ho' : l[i]? = some o := by simpa using ho
    have hif := getD_both hiun
    obtain ⟨acc, e, hacc, he, hej, hed, hdo, hent⟩ := H.ent i o hin ho'
    have hmin : Models (minE σ n (l.take n) acc o) a C := H.less hd (fun e' he' => by
      obtain ⟨h1, h2⟩ := mem_keepE he'
      obtain ⟨ed, h3, h4, h5⟩ := waitsB_spec h2
      have h6 := hdeps ed (by simpa using h3) h5
      have h7 := backB_spec hback i o (by rw [List.getElem?_take, if_pos hin]; exact ho') ed (by simpa using h3) h5
      obtain ⟨e2, h8, h9⟩ := (hl ed.on (by omega)).1 h6
      rw [H.uniq e' (hacc e' h1) e2 (hd e2 h8) (by rw [h9, h4])]
      exact h8) md
    have next : ∀ v C', Evo C C' → (∀ i, C'.ok i = true → C.ok i = true ∨ (i = σ.nx + e.j ∧ e.ob.isSome = true)) → Rep C' e.y v → (∀ ao, e.ob = some ao → ORep C' (σ.nx + e.j) ao ∧ ∀ g, blk (C'.ρ (σ.nx + e.j)) = some g → C.w.heap.size ≤ g) →
        (∀ g, g < C.w.heap.size → C'.w.heap[g]? = C.w.heap[g]? ∧ C'.pr g = C.pr g) → wpAny P .any l.toArray (post C0 Q) (m + (l.length - n)) (listed.setIfInBounds i true) (a.put o.dst v) C'.w := by
      intro v C' ev' hn' hv hob hkk
      have md' := md.ent (e := e) (by omega) (by rw [hed]; exact hdo) ev' hn' hv hob hkk
      rw [hed] at md'
      refine ih (e :: done) _ _ C' ?_ (inv.set hi hin) ?_ ?_ ?_ (ev.trans ev') md'
      · have := cntF_set (listed := listed) (i := i) (by omega) hif hin
        omega
      · intro e' he'
        rcases List.mem_cons.1 he' with rfl | he'
        · exact he
        · exact hd e' he'
      · intro j hj
        by_cases hij : i = j
        · subst hij
          have h1 : (listed.setIfInBounds i true).getD i false = true := by simp [show i < listed.size by omega]
          simp only [h1, true_iff]
          exact ⟨e, List.mem_cons_self .., hej⟩
        · rw [getD_set_ne false hij, hl j hj]
          constructor
          · rintro ⟨e', h1, h2⟩
            exact ⟨e', List.mem_cons_of_mem _ h1, h2⟩
          · rintro ⟨e', h1, h2⟩
            rcases List.mem_cons.1 h1 with rfl | h1
            · exact absurd (hej.symm.trans h2) hij
            · exact ⟨e', h1, h2⟩
      · intro j hj
        rcases hn' _ hj with h | ⟨h, _⟩
        · obtain ⟨e', h1, h2⟩ := hok j h
          exact ⟨e', List.mem_cons_of_mem _ h1, h2⟩
        · exact ⟨e, List.mem_cons_self .., by omega⟩
    have hfree : C.ok (σ.nx + e.j) = false := by
      cases hc : C.ok (σ.nx + e.j) with
      | false => rfl
      | true =>
        obtain ⟨e', h1, h2⟩ := hok e.j hc
        have := (hl i hin).2 ⟨e', h1, by rw [h2, hej]⟩
        rw [hif] at this
        cases this
    unfold wpOp
    simp only [ho]
    rcases hent with ⟨hw, hstep⟩ | ⟨hw, hy, hob⟩
    · rw [if_pos (by simpa using wantedA_sound hmin hw)]
      exact .inl (hstep a C _ _ (b.evo ev) hmin hfree next)
    · rw [if_neg (by
        have := wantedA_sound hmin hw
        rw [this]; simp)]
      exact next undef C (.refl C) (fun i hi => .inl hi) (by rw [hy]; exact .un) (fun ao h => by rw [hob] at h; cases h) (fun g _ => ⟨rfl, rfl⟩)

def Ct.draw (C : Ct) : Ct := { C with w := { C.w with drawn := C.w.drawn + 1 } }
theorem Ct.draw_evo (C : Ct) : Evo C C.draw := ⟨rfl, rfl, rfl, Nat.le_refl _, fun _ _ h => ⟨rfl, h⟩, fun _ h => h, fun _ _ => rfl, rfl, fun _ _ => rfl, fun _ _ => rfl⟩

theorem awp_any0 {id : Nat} {l : List Oper} {n : Nat} {es : List Ent} (hm : P.follows .mixedOrders = true) (hB : drawnB l n = true) (H : ∀ a C, Models σ a C → Head P Γ l σ n es) (k : AOps P Γ l Q (l.drop n) (finE σ n es)) : AWp P Γ (.region id l.toArray true) Q σ := fun C0 a C b ev md => by
  have h := H a C md
  refine wp_region_any hm ?_
  have md1 : Models σ a C.draw := md.mono C.draw_evo (fun i hi => hi) (fun i o g hi he hg => ⟨rfl, ((md.ob i o hi).excl he hg).2.1⟩)
  have hn : n < l.length := by
    simp only [drawnB, Bool.and_eq_true, Nat.blt_eq] at hB
    exact hB.1.1.1.1.1
  have := any_head h hB k b n [] (Array.replicate l.toArray.size false) a C.draw (cntF_new _ n)
    ⟨by simp, fun j oj _ hl => (by rw [getD_replicate_false] at hl; cases hl), fun t _ ht => getD_in (by simpa using ht) (getD_replicate_false _ _)⟩
    (by simp) (fun j hj => by rw [getD_replicate_false]; simp) (fun j hj => by
      have : C.ok (σ.nx + j) = true := hj
      have := md.nx _ this
      omega) (ev.trans C.draw_evo) (h.start md1)
  rw [show n + (l.length - n) = l.toArray.size by simp; omega] at this
  exact this

/-! ### The head out of its steps -/
theorem headT_spec {l : List Oper} {n : Nat} {D : List Oper} {K : List Ent → Prop} : ∀ (r : List Oper) (j : Nat) (acc : List Ent), HeadT P Γ l σ n D K r j acc → ∃ es, K es ∧ (∀ e ∈ acc, e ∈ es) ∧
    (∀ e ∈ es, e ∈ acc ∨ (j ≤ e.j ∧ e.j < j + r.length ∧ ∃ o, r[e.j - j]? = some o ∧ e.dst = o.dst)) ∧
    (∀ i o, r[i]? = some o → ∃ acc' e, (∀ e' ∈ acc', e' ∈ es) ∧ e ∈ es ∧ e.j = j + i ∧ e.dst = o.dst ∧ EntOk P Γ l σ n D acc' o e) ∧
    (∀ e ∈ es, ∀ e' ∈ es, (∀ e ∈ acc, ∀ e' ∈ acc, e.j = e'.j → e = e') → (∀ e ∈ acc, e.j < j) → e.j = e'.j → e = e')
  | [], j, acc, h => ⟨acc, h, fun _ h => h, fun e he => .inl he, fun i o hi => by simp at hi, fun e he e' he' hu _ hj => hu e he e' he' hj⟩
  | o :: r, j, acc, ⟨y, ob, hent, hrest⟩ => by
    obtain ⟨es, h1, h2, h3, h4, h5⟩ := headT_spec r (j + 1) _ hrest
    refine ⟨es, h1, fun e he => h2 e (List.mem_cons_of_mem _ he), fun e he => ?_, fun i o' hi => ?_, fun e he e' he' hu hlt hj => ?_⟩
    · rcases h3 e he with h | ⟨g1, g2, o', g3, g4⟩
      · rcases List.mem_cons.1 h with rfl | h
        · exact .inr ⟨Nat.le_refl _, by simp, o, by simp, rfl⟩
        · exact .inl h
      · refine .inr ⟨by omega, by simp; omega, o', ?_, g4⟩
        rw [show e.j - j = (e.j - (j + 1)) + 1 by omega]
        simpa using g3
    · cases i with
      | zero =>
        simp at hi
        subst hi
        exact ⟨acc, ⟨j, o.dst, y, ob⟩, fun e' he' => h2 e' (List.mem_cons_of_mem _ he'), h2 _ (List.mem_cons_self ..), rfl, rfl, hent⟩
      | succ i =>
        obtain ⟨acc', e, g1, g2, g3, g4, g5⟩ := h4 i o' (by simpa using hi)
        exact ⟨acc', e, g1, g2, by omega, g4, g5⟩
    · refine h5 e he e' he' (fun x hx x' hx' hxx => ?_) (fun x hx => ?_) hj
      · rcases List.mem_cons.1 hx with rfl | hx
        · rcases List.mem_cons.1 hx' with rfl | hx'
          · rfl
          · have := hlt x' hx'
            simp only at hxx
            omega
        · rcases List.mem_cons.1 hx' with rfl | hx'
          · have := hlt x hx
            simp only at hxx
            omega
          · exact hu x hx x' hx' hxx
      · rcases List.mem_cons.1 hx with rfl | hx
        · exact Nat.lt_succ_self _
        · have := hlt x hx
          omega

/-- THE RULE for a region whose order is drawn: its first n operations are computed one by one, each on what its edges make sure of; then the rest, in a row. -/
theorem awp_any (n : Nat) {id : Nat} {l : List Oper} (hm : P.follows .mixedOrders = true) (hB : drawnB l n = true) (h : HeadT P Γ l σ n (l.take n) (fun es => AOps P Γ l Q (l.drop n) (finE σ n es)) (l.take n) 0 []) : AWp P Γ (.region id l.toArray true) Q σ := by
  obtain ⟨es, h1, h2, h3, h4, h5⟩ := headT_spec _ _ _ h
  have hB' := hB
  simp only [drawnB, Bool.and_eq_true, Nat.blt_eq] at hB'
  have huniq : ∀ e ∈ es, ∀ e' ∈ es, e.j = e'.j → e = e' := fun e he e' he' hj => h5 e he e' he' (by simp) (by simp) hj
  have hlt : ∀ e ∈ es, e.j < n ∧ ∃ o, l[e.j]? = some o ∧ e.dst = o.dst := fun e he => by
    rcases h3 e he with h | ⟨g1, g2, o, g3, g4⟩
    · cases h
    · have : e.j < n := by simp at g2; omega
      refine ⟨this, o, ?_, g4⟩
      rw [Nat.sub_zero, List.getElem?_take, if_pos this] at g3
      exact g3
  refine awp_any0 hm hB (fun a C md => ⟨fun i o hi ho => ?_, huniq, hlt, fun e he e' he' t hd hd' => ?_, fun i o hi => md.nx i (md.ob i o hi).lt⟩) h1
  · obtain ⟨acc', e, g1, g2, g3, g4, g5⟩ := h4 i o (by rw [List.getElem?_take, if_pos hi]; exact ho)
    exact ⟨acc', e, g1, g2, by omega, g4, g5⟩
  · obtain ⟨h6, o, h7, h8⟩ := hlt e he
    obtain ⟨h9, o', h10, h11⟩ := hlt e' he'
    exact huniq e he e' he' (dstsB_spec hB'.2 e.j o e'.j o' t (by rw [List.getElem?_take, if_pos h6]; exact h7) (by rw [List.getElem?_take, if_pos h9]; exact h10) (h8.symm.trans hd) (h11.symm.trans hd'))

/-! ### The head, computed as far as it goes -/
def entA (ty : TypeId → Option TI) (l : List Oper) (σ : St) (n : Nat) (D : List Oper) (acc : List Ent) (o : Oper) (j : Nat) : Option (Prop × AV × Option AO) := match dstOk σ o.dst with
  | true => match minE σ n D acc o with
    | ⟨sz, tm, ob, nx⟩ => match wantedA l ⟨sz, tm, ob, nx⟩ o with
      | some true => match o.op with
        | .alloc t => match ty t with
          | some ti => some (True, .ptr (σ.nx + j) 0, some (.box t (ti.zd.map zav)))
          | none => none
        | op => match pureOp ty ⟨sz, tm, ob, nx⟩ o.type op with
          | some (p, y) => some (p, y, none)
          | none => none
      | some false => some (True, .un, none)
      | none => none
  | false => none
def runH (ty : TypeId → Option TI) (l : List Oper) (res : List Nat) (σ : St) (n : Nat) (D : List Oper) : List Oper → Nat → List Ent → Prop → Prop × List Oper × Nat × List Ent
  | [], j, acc, p => (p, [], j, acc)
  | o :: r, j, acc, p => match gateB res o with
    | true => match entA ty l σ n D acc o j with
      | some (q, y, ob) => runH ty l res σ n D r (j + 1) (⟨j, o.dst, y, ob⟩ :: acc) (p ∧ q)
      | none => (p, o :: r, j, acc)
    | false => (p, o :: r, j, acc)
theorem entA_sound (hT : TyOk P ty) {l : List Oper} {n : Nat} {D : List Oper} {acc : List Ent} {o : Oper} {j : Nat} {q : Prop} {y : AV} {ob : Option AO} (h : entA ty l σ n D acc o j = some (q, y, ob)) (hq : q) : EntOk P Γ l σ n D acc o ⟨j, o.dst, y, ob⟩ := by
  unfold entA at h
  split at h
  · rename_i hd
    split at h
    rename_i sz tm oo nx hmin
    refine ⟨hd, ?_⟩
    rw [hmin]
    split at h
    · rename_i hw
      refine .inl ⟨hw, ?_⟩
      split at h
      · rename_i t ho
        split at h
        · rename_i ti ht
          simp only [Option.some.injEq, Prod.mk.injEq] at h
          obtain ⟨rfl, rfl, rfl⟩ := h
          exact HStep.alloc hT ho ht
        · cases h
      · split at h
        · rename_i p y' hp
          simp only [Option.some.injEq, Prod.mk.injEq] at h
          obtain ⟨rfl, rfl, rfl⟩ := h
          exact HStep.pure hT hp hq
        · cases h
    · rename_i hw
      simp only [Option.some.injEq, Prod.mk.injEq] at h
      obtain ⟨rfl, rfl, rfl⟩ := h
      exact .inr ⟨hw, rfl, rfl⟩
    · cases h
  · cases h
theorem runH_mono {l : List Oper} {res : List Nat} {n : Nat} {D : List Oper} : ∀ {r : List Oper} {j : Nat} {acc : List Ent} {p q : Prop} {r' : List Oper} {j' : Nat} {acc' : List Ent}, runH ty l res σ n D r j acc p = (q, r', j', acc') → q → p
  | [], j, acc, p, q, r', j', acc', h, hq => by
    simp only [runH, Prod.mk.injEq] at h
    rw [h.1]; exact hq
  | o :: r, j, acc, p, q, r', j', acc', h, hq => by
    simp only [runH] at h
    split at h
    · split at h
      · exact (runH_mono h hq).1
      · simp only [Prod.mk.injEq] at h
        rw [h.1]; exact hq
    · simp only [Prod.mk.injEq] at h
      rw [h.1]; exact hq
/-- The next operations of the head. -/
theorem head_run (hT : TyOk P ty) {l : List Oper} {res : List Nat} {n : Nat} {D : List Oper} {K : List Ent → Prop} : ∀ {r : List Oper} {j : Nat} {acc : List Ent} {p q : Prop} {r' : List Oper} {j' : Nat} {acc' : List Ent}, runH ty l res σ n D r j acc p = (q, r', j', acc') → q → HeadT P Γ l σ n D K r' j' acc' → HeadT P Γ l σ n D K r j acc
  | [], j, acc, p, q, r', j', acc', h, hq, k => by
    simp only [runH, Prod.mk.injEq] at h
    obtain ⟨_, rfl, rfl, rfl⟩ := h
    exact k
  | o :: r, j, acc, p, q, r', j', acc', h, hq, k => by
    simp only [runH] at h
    split at h
    · split at h
      · rename_i q' y ob he
        exact ⟨y, ob, entA_sound hT he (runH_mono h hq).2, head_run hT h hq k⟩
      · simp only [Prod.mk.injEq] at h
        obtain ⟨_, rfl, rfl, rfl⟩ := h
        exact k
    · simp only [Prod.mk.injEq] at h
      obtain ⟨_, rfl, rfl, rfl⟩ := h
      exact k
/-- A call in the head. -/
theorem head_call {l : List Oper} {n : Nat} {D : List Oper} {K : List Ent → Prop} {r : List Oper} {j : Nat} {acc : List Ent} {o : Oper} {c : Call} {fx : Operand} {f : FuncId} {ys : List AV} {dargs : List Dat} {R : Res → Prop} (x : Dat) (hd : dstOk σ o.dst = true) (hw : wantedA l (minE σ n D acc o) o = some true) (ho : o.op = .call c) (hc : c.callee = .value fx)
    (hf : calleeOf (minE σ n D acc o) ty fx = some (f, [])) (hy : evAll (minE σ n D acc o) ty c.args.toList c.argTypes.toList = some ys) (hdat : datAll (minE σ n D acc o) ys = some dargs) (hA : ACalls P Γ f dargs R) (hR : ∀ r, R r → r.dat = x)
    (k : HeadT P Γ l σ n D K r (j + 1) (⟨j, o.dst, .d x, none⟩ :: acc)) : HeadT P Γ l σ n D K (o :: r) j acc :=
  ⟨.d x, none, ⟨hd, .inl ⟨hw, HStep.call ho hc hf hy hdat hA hR⟩⟩, k⟩
theorem head_end {l : List Oper} {n : Nat} {D : List Oper} {K : List Ent → Prop} {j : Nat} {acc : List Ent} (h : K acc) : HeadT P Γ l σ n D K [] j acc := h
end
end Go.Am
