/- The abstract machine, fifth part: every operation that leaves the world as it is yields what was computed. No program. -/
import Derived.Test.YtaenfbgamkieiaaDoorAmD
namespace Go.Am
open Go.RowKit
set_option linter.unusedSimpArgs false
set_option linter.unusedVariables false

section
variable {P : Program} {ty : TypeId → Option TI}

def ORepV (c : Ct) : Option AV → Option Value → Prop
  | none, none => True
  | some x, some v => Rep c x v
  | _, _ => False

theorem Rep.int_inv {c : Ct} {k : IntKind} {n : Int} {v : Value} (h : Rep c (.d (.int k n)) v) : v = .int k n := by
  cases h with
  | d h => cases h; rfl
theorem Rep.str_inv {c : Ct} {s : ByteArray} {v : Value} (h : Rep c (.d (.str s)) v) : v = .string s := by
  cases h with
  | d h => cases h; rfl
theorem Rep.bool_inv {c : Ct} {b : Bool} {v : Value} (h : Rep c (.d (.bool b)) v) : v = .bool b := by
  cases h with
  | d h => cases h; rfl

theorem boundsA_sound {c : Ct} {isS : Bool} {len cap : Nat} {lo hi mx : Option AV} {vl vh vm : Option Value} {p : Prop} {l h : Nat} (hb : boundsA len lo hi mx = some (p, l, h)) (hp : p)
    (hl : ORepV c lo vl) (hh : ORepV c hi vh) (hm : ORepV c mx vm) (hc : len ≤ cap) (w : World) :
    ∃ m, (Instr.sliceBounds isS len cap vl vh vm).run P w = .ok (l, h, m) w ∧ l ≤ h ∧ h ≤ len ∧ h ≤ m ∧ m ≤ cap := by
  unfold boundsA at hb
  split at hb
  · cases hb
    cases vl <;> cases vh <;> cases vm <;> simp only [ORepV] at hl hh hm
    exact ⟨cap, by simp [Instr.sliceBounds], by omega, by omega, by omega, by omega⟩
  · rename_i kl l'
    cases hb
    cases vl <;> cases vh <;> cases vm <;> simp only [ORepV] at hl hh hm
    have := Rep.int_inv hl
    subst this
    obtain ⟨h0, h1⟩ := hp
    exact ⟨cap, by simp [Instr.sliceBounds, run_sliceBound, h0, h1], by omega, by omega, by omega, by omega⟩
  · rename_i kh h'
    cases hb
    cases vl <;> cases vh <;> cases vm <;> simp only [ORepV] at hl hh hm
    have := Rep.int_inv hh
    subst this
    obtain ⟨h0, h1⟩ := hp
    exact ⟨cap, by simp [Instr.sliceBounds, run_sliceBound, h0, (by omega : h' ≤ (cap : Int))], by omega, by omega, by omega, by omega⟩
  · rename_i kl l' kh h'
    cases hb
    cases vl <;> cases vh <;> cases vm <;> simp only [ORepV] at hl hh hm
    have := Rep.int_inv hl
    subst this
    have := Rep.int_inv hh
    subst this
    obtain ⟨h0, h1, h2⟩ := hp
    exact ⟨cap, by simp [Instr.sliceBounds, run_sliceBound, h0, (by omega : 0 ≤ h'), (by omega : h' ≤ (cap : Int)), (by omega : l' ≤ max h' 0)], by omega, by omega, by omega, by omega⟩
  · rename_i kl l' kh h' km m'
    cases hb
    cases vl <;> cases vh <;> cases vm <;> simp only [ORepV] at hl hh hm
    have := Rep.int_inv hl
    subst this
    have := Rep.int_inv hh
    subst this
    have := Rep.int_inv hm
    subst this
    obtain ⟨h0, h1, h2, h3⟩ := hp
    exact ⟨m'.toNat, by simp [Instr.sliceBounds, run_sliceBound, h0, (by omega : 0 ≤ h'), (by omega : 0 ≤ m'), (by omega : m' ≤ (cap : Int)), (by omega : h' ≤ max m' 0), (by omega : l' ≤ max h' 0)], by omega, by omega, by omega, by omega⟩
  · cases hb

theorem sliced_rep {w : World} {pr : Nat → Bool} {ek : Option Nat} {xs : List Dat} {a : Option Addr} {cap l h m s : Nat} (hr : RepD w pr (.sl ek xs) (.slice a xs.length cap)) (hs : s = esz ek)
    (h1 : l ≤ h) (h2 : h ≤ xs.length) (h3 : h ≤ m) (h4 : m ≤ cap) : RepD w pr (.sl ek (cutL xs l h)) (.slice (if m = l then a else a.map (·.add (l * s))) (h - l) (m - l)) := by
  subst hs
  have hlen : (cutL xs l h).length = h - l := by simp [cutL]; omega
  rcases hr.sl_inv with ⟨hv, rfl⟩ | ⟨b, off, spot, cap', hv, hc, hm, hsp, hf, hx⟩
  · simp only [Value.slice.injEq] at hv
    obtain ⟨rfl, _, rfl⟩ := hv
    have : h = 0 := by simpa using h2
    subst this
    have : l = 0 := by omega
    subst this
    have : m = 0 := by omega
    subst this
    simpa [cutL] using RepD.nil ek
  · simp only [Value.slice.injEq] at hv
    obtain ⟨rfl, _, rfl⟩ := hv
    have hff : ∀ x ∈ cutL xs l h, Fits ek x := fun x hx => hf x (List.mem_of_mem_take (List.mem_of_mem_drop hx))
    by_cases h0 : h - l = 0
    · have hnil : cutL xs l h = [] := List.eq_nil_of_length_eq_zero (by omega)
      rw [hnil]
      have key : ∀ ad : Addr, RepD w pr (.sl ek []) (.slice (some ad) (h - l) (m - l)) := fun ad => by
        obtain ⟨b', off', spot'⟩ := ad
        exact RepD.sl_mk (by simpa using h0) (by simp) (by omega) (by simp) (by simp) (by simp)
      split
      · exact key _
      · exact key _
    · have hsn := hsp (by omega)
      subst hsn
      rw [if_neg (by omega)]
      simp only [Option.map_some, Addr.add_lit]
      refine RepD.sl_mk hlen.symm (by omega) (by omega) (fun _ => rfl) hff (fun k x hk => ?_)
      have hk' : xs[l + k]? = some x := by
        unfold cutL at hk
        rw [List.getElem?_drop, List.getElem?_take] at hk
        split at hk
        · exact hk
        · cases hk
      have := hx (l + k) x hk'
      rw [Nat.add_mul, ← Nat.add_assoc] at this
      exact this

theorem SlAt.len_eq {w : World} {pr : Nat → Bool} {ek : Option Nat} {xs : List Dat} {v : Value} (h : SlAt w pr ek xs v) : ∃ a cap, v = .slice a xs.length cap ∧ xs.length ≤ cap := by
  obtain ⟨a, cap, hv, hc, _⟩ := h
  exact ⟨a, cap, hv, hc⟩

theorem RepD.sl_len {w : World} {pr : Nat → Bool} {ek : Option Nat} {xs : List Dat} {v : Value} (h : RepD w pr (.sl ek xs) v) : ∃ a cap, v = .slice a xs.length cap ∧ xs.length ≤ cap := (SlAt.of_rep h).len_eq

theorem run_slice_sl (hT : TyOk P ty) {t e : TypeId} {i ei : TI} (ht : ty t = some i) (hd : i.desc = .slice e) (he : ty e = some ei) {a : Option Addr} {len cap : Nat} {vl vh vm : Option Value} {l h m : Nat} {w : World}
    (hb : (Instr.sliceBounds true len cap vl vh vm).run P w = .ok (l, h, m) w) :
    (Instr.sliceAt t (.slice a len cap) vl vh vm).run P w = .ok (.slice (if m = l then a else a.map (·.add (l * ei.size))) (h - l) (m - l)) w := by
  have hu := hT.und t i ht
  rw [hd] at hu
  simp [Instr.sliceAt, Instr.slice, run_underlying hu, hb, hT.run_size he]

theorem run_slice_str (hT : TyOk P ty) {t : TypeId} {i : TI} (ht : ty t = some i) (hd : i.desc = .string) {s : ByteArray} {vl vh : Option Value} {l h m : Nat} {w : World}
    (hb : (Instr.sliceBounds false s.size s.size vl vh none).run P w = .ok (l, h, m) w) :
    (Instr.sliceAt t (.string s) vl vh none).run P w = .ok (.string (s.extract l h)) w := by
  have hu := hT.und t i ht
  rw [hd] at hu
  simp [Instr.sliceAt, Instr.slice, run_underlying hu, hb]

theorem indexA_sound (hT : TyOk P ty) {σ : St} {a : Act} {c : Ct} (hM : Models σ a c) {t e : TypeId} {i ei : TI} (ht : ty t = some i) (hd : i.desc = .slice e) (he : ty e = some ei) {x y : AV} {n : Int} {k : IntKind} {p : Prop} {v : Value}
    (h : indexA σ ei x n = some (p, y)) (hp : p) (hx : Rep c x v) : ∃ u, (Instr.indexAt t v (.int k n)).run P c.w = .ok u c.w ∧ Rep c y u := by
  have hu := hT.und t i ht
  rw [hd] at hu
  have run : ∀ (ad : Addr) (len cap : Nat), 0 ≤ n ∧ n < len → (Instr.indexAt t (.slice (some ad) len cap) (.int k n)).run P c.w = .ok (.pointer (some (ad.add (n.toNat * ei.size)))) c.w := by
    intro ad len cap hn
    simp [Instr.indexAt, run_underlying hu, asIntOf, hn, hT.run_size he]
  have imm : ∀ (ek : Option Nat) (xs : List Dat) (v : Value), ekB ek ei.ek = true → RepD c.w c.pr (.sl ek xs) v → 0 ≤ n ∧ n < xs.length → ∃ u, (Instr.indexAt t v (.int k n)).run P c.w = .ok u c.w ∧ Rep c (.at_ ek (xs.getD n.toNat default)) u := by
    intro ek xs v hek hr hn
    have hek' := ekB_eq hek
    rcases hr.sl_inv with ⟨_, rfl⟩ | ⟨b, off, spot, cap, rfl, hc, hm, hsp, hf, hxx⟩
    · simp at hn; omega
    · have hs := hsp (by omega)
      subst hs
      refine ⟨_, run _ _ _ hn, ?_⟩
      rw [Addr.add_lit]
      have hes : esz ek = ei.size := by rw [hek']; exact hT.esz he
      have hk : xs[n.toNat]? = some (xs.getD n.toNat default) := by
        have : n.toNat < xs.length := by omega
        simp [this]
      rw [← hes]
      exact .at_ ek _ b _ (hf _ (List.mem_of_getElem? hk)) (hxx _ _ hk)
  unfold indexA at h
  split at h
  · split at h
    · rename_i hek
      cases h
      cases hx with
      | d hr => exact imm _ _ _ hek hr hp
    · cases h
  · rename_i o
    cases hx with
    | ref i' hi v hv h1 =>
      subst hv
      split at h
      · rename_i ek e' xs ho
        split at h
        · rename_i hek
          cases h
          have hek' := ekB_eq hek
          have hes : esz ek = ei.size := by rw [hek']; exact hT.esz he
          obtain ⟨_, vals, hown, _⟩ := hM.ob _ _ ho
          rcases hown.2 with ⟨_, h0⟩ | ⟨g, cap, cur, hv, _⟩
          · simp [h0] at hp; omega
          · refine ⟨.pointer (some ⟨g, n.toNat * esz ek, none⟩), ?_, .elt o ek n.toNat g hi (by rw [hv]; rfl)⟩
            rw [hv, run _ _ _ hp, Addr.add_lit, hes]
            simp
        · cases h
      · rename_i ek xs ho
        split at h
        · rename_i hek
          cases h
          exact imm _ _ _ hek (hM.ob _ _ ho).2 hp
        · cases h
      · cases h
  · cases h

theorem fieldA_sound (hT : TyOk P ty) {σ : St} {a : Act} {c : Ct} (hM : Models σ a c) {s : TypeId} {i fi : TI} {fields : Array Field} {f : Nat} {fd : Field} (hs : ty s = some i) (hd : i.desc = .struct fields) (hf : fields[f]? = some fd) (hfi : ty fd.type = some fi) (h0 : fi.size ≠ 0)
    {x y : AV} {v : Value} (h : fieldA fi fd.offset x = some y) (hx : Rep c x v) : ∃ u, (Instr.fieldAt s v f).run P c.w = .ok u c.w ∧ Rep c y u := by
  have hu := hT.und s i hs
  rw [hd] at hu
  have run : ∀ (b off : Nat), (Instr.fieldAt s (.pointer (some ⟨b, off, none⟩)) f).run P c.w = .ok (.pointer (some ⟨b, off + fd.offset, none⟩)) c.w := by
    intro b off
    simp [Instr.fieldAt, run_underlying hu, hf, Instr.sureAddr, fieldPlace, hT.run_size hfi, h0, Addr.add_lit]
  unfold fieldA at h
  split at h
  · cases h
    cases hx with
    | ptr i' off g hi hg => exact ⟨_, run _ _, .ptr _ _ g hi hg⟩
  · rename_i m x
    split at h
    · rename_i hle
      have hle' := Nat.le_of_ble_eq_true hle
      cases hx with
      | at_ ek x b off hft hm =>
        obtain ⟨cs, rfl, hcl, hc1⟩ := hft
        refine ⟨_, run _ _, ?_⟩
        split at h
        · rename_i hagg
          cases h
          have hek : fi.ek = some fi.size := by simp [TI.ek, hagg]
          refine .at_ _ _ b _ ?_ ?_
          · rw [hek]
            refine ⟨_, rfl, by simp [Dat.cells, hcl]; omega, fun y hy => hc1 y (List.mem_of_mem_drop (List.mem_of_mem_take hy))⟩
          · intro j y hj
            simp only [Dat.cells] at hj
            rw [List.getElem?_take] at hj
            split at hj
            · rw [List.getElem?_drop] at hj
              have := hm _ y hj
              rw [← Nat.add_assoc] at this
              exact this
            · cases hj
        · rename_i hagg
          cases h
          have h1 := hT.one _ _ hfi hagg
          have hlt : fd.offset < cs.length := by omega
          have hcell : cs[fd.offset]? = some (Dat.cell (.agg cs) fd.offset) := by simp [Dat.cell, Dat.cells, hlt]
          have hone := hc1 _ (List.mem_of_getElem? hcell)
          have hcs : (Dat.cell (.agg cs) fd.offset).cells = [Dat.cell (.agg cs) fd.offset] := by
            generalize Dat.cell (.agg cs) fd.offset = z at hone
            cases z <;> simp_all [Dat.one, Dat.cells]
          refine .at_ none _ b _ hone ?_
          intro j y hj
          rw [hcs] at hj
          match j, hj with
          | 0, hj =>
            simp only [List.getElem?_cons_zero, Option.some.injEq] at hj
            subst hj
            exact hm _ _ hcell
    · cases h
  · cases h

theorem loadCells_sl {w : World} {pr : Nat → Bool} {xs : List Dat} {v : Value} (h : SlAt w pr none xs v) (h8 : ∀ y ∈ xs, y.isU8 = true) :
    (v = .slice none 0 0 ∧ xs = [] ∨ ∃ ad cap, v = .slice (some ad) xs.length cap ∧ (loadCells ad xs.length).run P w = .ok ((xs.map fun y => Value.int .u8 (match y with | .int _ n => n | _ => 0)).toArray) w) := by
  obtain ⟨A, cap, rfl, hc, hm, hf, hA, hcell⟩ := h
  rcases A with _ | ad
  · have h0 := hA rfl
    subst h0
    have : xs = [] := List.eq_nil_of_length_eq_zero (by omega)
    subst this
    exact .inl ⟨rfl, rfl⟩
  · refine .inr ⟨ad, cap, rfl, ?_⟩
    have hl : xs.length = (xs.map fun y => Value.int .u8 (match y with | .int _ n => n | _ => 0)).length := by simp
    rw [hl]
    refine run_loadCells_list (P := P) w ad _ (fun j u hj => ?_)
    rw [List.getElem?_map] at hj
    obtain ⟨y, hy, rfl⟩ := Option.map_eq_some_iff.1 hj
    have hlt : 0 < xs.length := by have := (List.getElem?_eq_some_iff.1 hy).1; omega
    obtain ⟨b, off, hab, hcc⟩ := hcell hlt
    cases hab
    rw [Addr.add_lit]
    have h8y := h8 y (List.mem_of_getElem? hy)
    cases y <;> simp [Dat.isU8] at h8y
    rename_i k n
    cases k <;> simp at h8y
    obtain ⟨u, hu, hr⟩ := hcc j _ hy 0 _ rfl
    simp only [esz, Nat.mul_one, Nat.add_zero] at hu
    cases hr
    exact hu

theorem convA_sound (hT : TyOk P ty) {σ : St} {a : Act} {c : Ct} (hM : Models σ a c) {src dst : TypeId} {x y : AV} {p : Prop} {v : Value} (h : convA ty σ src dst x = some (p, y)) (hp : p) (hx : Rep c x v) :
    ∃ u, (convert src dst v).run P c.w = .ok u c.w ∧ Rep c y u := by
  unfold convA at h
  split at h
  · rename_i si di hs hd
    have hus := hT.und _ _ hs
    have hud := hT.und _ _ hd
    split at h
    · rename_i k' hdd
      cases h
      rw [hdd] at hud
      have := Rep.int_inv hx
      subst this
      exact ⟨_, by simp [convert, run_underlying hus, run_underlying hud, Conv.intToInt], .d (.int _ _)⟩
    · rename_i hdd
      cases h
      rw [hdd] at hud
      have := Rep.str_inv hx
      subst this
      exact ⟨_, by simp [convert, run_underlying hus, run_underlying hud], .d (.str _)⟩
    · rename_i hsd hdd
      rw [hsd] at hus
      rw [hdd] at hud
      split at h
      · rename_i b z zd s he
        have hue := hT.und _ _ he
        split at h
        · rename_i xs hsl
          cases h
          have hat := sl_sound hM hsl hx
          refine ⟨_, ?_, .d (.str _)⟩
          rcases loadCells_sl (P := P) hat hp with ⟨rfl, rfl⟩ | ⟨ad, cap, rfl, hl⟩
          · rw [run_convert_bytes_nil c.w src _ hus hue 0 0 dst hud]
            rfl
          · rw [run_convert_bytes_string c.w src dst _ _ _ _ hus hue hud]
            have hl' : (loadCells ad xs.length).run P c.w = .ok ((xs.map fun y => (match y with | .int _ n => n | _ => 0 : Int)).map (Value.int .u8)).toArray c.w := by
              rw [hl]; congr 2; simp
            have := run_bytesToString (P := P) c.w ad xs.length cap _ hl'
            rw [this, foldl_push_bytes]
            congr 2
            unfold strOf
            have : ByteArray.empty.data = #[] := rfl
            rw [this]
            simp only [List.map_map, Array.empty_append]
            congr 2
            apply List.map_congr_left
            intro y hy
            have := hp y hy
            cases y <;> simp [Dat.isU8] at this
            rfl
        · cases h
      · cases h
    · cases h
  · cases h
end
end Go.Am
