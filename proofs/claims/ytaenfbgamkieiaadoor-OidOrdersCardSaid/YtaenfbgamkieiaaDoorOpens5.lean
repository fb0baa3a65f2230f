/- What the laws of object identifiers are handed, opened as data. -/
import Derived.Test.YtaenfbgamkieiaaDoorOidA
import Derived.Test.YtaenfbgamkieiaaDoorTy
import Derived.Test.YtaenfbgamkieiaaDoorAmR
namespace Go.Proofs.YtaenfbgamkieiaaDoor
open Go.Am Go.ChangeShapes Go.WideShapes Go.ChangeAt Go.RowKit
set_option linter.unusedSimpArgs false
set_option linter.unusedVariables false

theorem open_bytes : OpensV Tryd.prog 32 (fun l : List UInt8 => .sl none (bys l)) (fun l => l.length ≤ maxLen) := OpensV.bytes Tryd.underlying32 Tryd.underlying5 (by kernel_rfl)
theorem open_u8 : OpensV Tryd.prog 5 (fun n : UInt8 => by1 n) (fun _ => True) := OpensV.u8 Tryd.underlying5
theorem OpensV.map {P : Program} {t : TypeId} {α β : Type} {f : α → Dat} {ok : α → Prop} {f' : β → Dat} {ok' : β → Prop} (h : OpensV P t f ok) (g : α → β) (hf : ∀ a, f' (g a) = f a) (hk : ∀ a, ok a → ok' (g a)) : OpensV P t f' ok' := fun H enc w base v d ps ht hok => by
  obtain ⟨a, h1, h2⟩ := h H enc w base v d ps ht hok
  exact ⟨g a, hk a h1, by rw [hf]; exact h2⟩
theorem open_str : OpensV Tryd.prog 9 (fun l : List UInt8 => sD l) (fun _ => True) :=
  OpensV.map (OpensV.str Tryd.underlying9) (fun s => s.data.toList) (fun s => by rw [sD, ← bA_of]) (fun _ _ => trivial)
theorem Opens.mapOk {P : Program} {t : TypeId} {α β : Type} {f : α → List Dat} {ok : α → Prop} {f' : β → List Dat} {ok' : β → Prop} (h : Opens P t f ok) (g : α → β) (hf : ∀ a, ok a → f' (g a) = f a) (hk : ∀ a, ok a → ok' (g a)) : Opens P t f' ok' := fun H enc w fuel cs x hx => by
  obtain ⟨a, h1, h2⟩ := h H enc w fuel cs x hx
  exact ⟨g a, hk a h1, by rw [hf a h1]; exact h2⟩
theorem wf_u32 {n : Int} (h : (Lit.int .u32 n).wf = true) : 0 ≤ n ∧ n ≤ 4294967295 := by
  simpa [Lit.wf, IntKind.min, IntKind.max, IntKind.signed, IntKind.bits] using h
theorem u32s_back (l : List Int) (h : ∀ n ∈ l, (Lit.int .u32 n).wf = true) : u32s (l.map Int.toNat) = l.map (Dat.int .u32) := by
  rw [u32s, List.map_map]
  refine List.map_congr_left fun n hn => ?_
  have := wf_u32 (h n hn)
  simp only [Function.comp]
  rw [Int.toNat_of_nonneg this.1]
theorem open_u32s : OpensV Tryd.prog 22 (fun l : List Nat => .sl none (u32s l)) (fun l => ∀ n ∈ l, n ≤ 4294967295) :=
  OpensV.slice Tryd.underlying22 (Opens.mapOk (Opens.ints Tryd.underlying22 Tryd.underlying50 (by kernel_rfl)) (fun l => l.map Int.toNat) (fun l h => by
    rw [u32s_back l h.1]) (fun l h n hn => by
    obtain ⟨m, hm, rfl⟩ := List.mem_map.1 hn
    have := wf_u32 (h.1 m hm)
    omega))
theorem read_all {ts : List TypeId} (h : ts.all (fun t => Tryd.prog.readableRec t && decide (t < Tryd.prog.types.size)) = true) : ∀ t ∈ ts, Tryd.prog.readableRec t = true ∧ t < Tryd.prog.types.size := by
  intro t ht
  have := List.all_eq_true.1 h t ht
  simpa using this
end Go.Proofs.YtaenfbgamkieiaaDoor
