/- What the listed variables of Go's library hold: an environment for the walks. -/
import Derived.Test.YtaenfbgamkieiaaDoorAmS
import Derived.Test.YtaenfbgamkieiaaDoorTy
import Derived.LaidMore
import Derived.Lib.LaidTab
import Derived.MakeChecks
import Derived.Shelf.Strconv.Itoa3
namespace Go.Proofs.YtaenfbgamkieiaaDoor
open Go.Am
set_option linter.unusedSimpArgs false
set_option linter.unusedVariables false

def LaidOk (w : World) : Prop := 8 ≤ w.heap.size ∧ Lib.TabIs Tryd.prog w "internal/strconv.uint64pow10" .u64 Lib.pow10Tab ∧ (∃ t p, w.var? Tryd.prog "strconv.ErrSyntax" = some #[.iface t p]) ∧ (∃ t p, w.var? Tryd.prog "strconv.ErrRange" = some #[.iface t p])
theorem var_stable {P : Program} {n : String} {g : Nat} (hg : P.globalNamed n = some g) {w w' : World} (h : w'.heap[g]? = w.heap[g]?) : w'.var? P n = w.var? P n := by
  simp only [World.var?, hg, Option.bind_some, h]
def envL : Env where
  ok := LaidOk
  lim := 8
  lim_le := fun w h => h.1
  stable := fun w w' h _ _ hs hb => by
    refine ⟨Nat.le_trans h.1 hs, ?_, ?_, ?_⟩
    · have := h.2.1
      unfold Lib.TabIs at this ⊢
      rw [var_stable (g := 2) (by kernel_rfl) (hb 2 (by omega))]
      exact this
    · rw [var_stable (g := 0) (by kernel_rfl) (hb 0 (by omega))]
      exact h.2.2.1
    · rw [var_stable (g := 1) (by kernel_rfl) (hb 1 (by omega))]
      exact h.2.2.2
  L := 0
theorem iface_of {H : Type} {enc : TypeId × Value → H} {P : Program} {w : World} {t : TypeId} {ms : Array (String × TypeId)} {fuel : Nat} {cs : Array Value} {nm : String} {d : DataW H} {p : List MemPlace} (hi : P.underlying t = some (.interface ms))
    (h : DataW.trod enc P w 0 (fun _ => true) false fuel t cs.toList = some (.iface nm d, p)) : ∃ u v, cs = #[.iface u v] := by
  obtain ⟨cs⟩ := cs
  cases fuel with
  | zero => simp [DataW.trod] at h
  | succ n =>
    unfold DataW.trod at h
    rw [hi] at h
    split at h <;> simp_all
theorem laid_ok {W : World} (h : laidMetH Tryd.prog Rows.oidTextsRow.laid W) : LaidOk W := by
  rw [MakeChecks.laidMetH_plain _ _ _ (by kernel_rfl)] at h
  obtain ⟨ps, hv, _⟩ := h
  obtain ⟨g1, t1, c1, f1, p1, q1, a1, b1, v1, d1, hv, _⟩ := hv
  obtain ⟨g2, t2, c2, f2, p2, q2, a2, b2, v2, d2, hv, _⟩ := hv
  obtain ⟨g3, t3, c3, f3, p3, q3, a3, b3, v3, d3, hv, _⟩ := hv
  obtain ⟨g4, t4, c4, f4, p4, q4, a4, b4, v4, d4, hv, _⟩ := hv
  obtain ⟨g5, t5, c5, f5, p5, q5, a5, b5, v5, d5, hv, _⟩ := hv
  obtain ⟨g6, t6, c6, f6, p6, q6, a6, b6, v6, d6, hv, _⟩ := hv
  have hi : Tryd.prog.underlying 46 = some (.interface _) := Tryd.underlying46
  refine ⟨?_, ?_, ?_, ?_⟩
  · obtain rfl := Option.some.inj ((show Tryd.prog.globalNamed "math/bits.deBruijn64tab" = some 7 by kernel_rfl).symm.trans a2)
    have : W.heap[7]? ≠ none := by
      intro hn
      simp only [World.var?, a2, Option.bind_some, hn] at v2
      cases v2
    rcases Nat.lt_or_ge 7 W.heap.size with h | h
    · exact h
    · exact absurd (Array.getElem?_eq_none h) this
  · obtain rfl := Option.some.inj ((show Tryd.prog.globalNamed "internal/strconv.uint64pow10" = some 2 by kernel_rfl).symm.trans a3)
    unfold Lib.TabIs
    have hT : (Tryd.prog.globals[2]?).map (·.type) = some 96 := by kernel_rfl
    obtain rfl := Option.some.inj (hT.symm.trans b3)
    rw [v3, ← Lib.cells_of_tab (zs := Lib.pow10Tab) Tryd.underlying96 Tryd.underlying44 (by kernel_rfl) (by kernel_rfl) d3]
  · obtain rfl := Option.some.inj ((show Tryd.prog.globalNamed "strconv.ErrSyntax" = some 0 by kernel_rfl).symm.trans a6)
    obtain rfl := Option.some.inj ((show (Tryd.prog.globals[0]?).map (·.type) = some 46 by kernel_rfl).symm.trans b6)
    obtain ⟨u, v, rfl⟩ := iface_of hi d6
    exact ⟨u, v, v6⟩
  · obtain rfl := Option.some.inj ((show Tryd.prog.globalNamed "strconv.ErrRange" = some 1 by kernel_rfl).symm.trans a5)
    obtain rfl := Option.some.inj ((show (Tryd.prog.globals[1]?).map (·.type) = some 46 by kernel_rfl).symm.trans b5)
    obtain ⟨u, v, rfl⟩ := iface_of hi d5
    exact ⟨u, v, v5⟩
theorem env_of {W : World} (h : laidMetH Tryd.prog Rows.oidTextsRow.laid W) : envL.ok W := laid_ok h
end Go.Proofs.YtaenfbgamkieiaaDoor
