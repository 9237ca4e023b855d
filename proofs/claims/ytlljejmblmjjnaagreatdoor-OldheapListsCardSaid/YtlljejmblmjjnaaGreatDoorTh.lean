/- The inputs of the laws, opened: rows of calls. -/
import Derived.Test.YtlljejmblmjjnaaGreatDoorRows
import Derived.Test.YtlljejmblmjjnaaGreatDoorTA
import Derived.LaidMore
import Derived.Stop.Joined
import Derived.Lib.LaidTab
import Derived.WalkKit
import Derived.ProofKit
import Derived.OpenShut
import Derived.ShutString
import Derived.ChangeOld
import Derived.Below
import Derived.Deep.Slices
namespace Go.Proofs.YtlljejmblmjjnaaGreatDoor
set_option linter.unusedVariables false
set_option linter.unusedSimpArgs false
open Go.ChangeShapes Go.WideShapes Go.ChangeAt Go.RowKit Go.Deep

theorem add_plain (b o n : Nat) : Addr.add ⟨b, o, none⟩ n = ⟨b, o + n, none⟩ := by
  unfold Addr.add
  split
  · rename_i h; subst h; rfl
  · rfl

theorem spot_none {w : World} {b o : Nat} {sp : Option Nat} {v : Value} (h : w.cell? ⟨b, o, sp⟩ = some v) : sp = none := by
  cases sp with
  | none => rfl
  | some s =>
    unfold World.cell? at h
    split at h
    · simp at h
    · cases h

theorem has_lt {P : Program} {w : World} {r : Reach} {base : Nat} {a : Addr} {e : TypeId} {n : Nat} (h : w.has P r base a e n) : a.block < w.heap.size := by
  obtain ⟨_, _, row, cells, hs, _⟩ := h
  unfold World.shape? at hs
  split at hs
  · rename_i h1
    exact (Array.getElem?_eq_some_iff.1 h1).1
  · cases hs

theorem cell_ok_lt {P : Program} {w : World} {r : Reach} {base : Nat} {u : TypeId} {a : Addr} {len cap : Nat} (h : Cell.ok P w r base u (.slice (some a) len cap)) : a.block < w.heap.size := by
  unfold Cell.ok at h
  split at h <;> first | (rename_i h1; cases h1; exact has_lt h.2.2) | (rename_i h1; cases h1; done) | cases h | simp_all

theorem top_lt {P : Program} {w : World} {r : Reach} {base : Nat} {t e : TypeId} {a : Addr} {len cap : Nat} (ht : P.underlying t = some (.slice e)) (h : Value.okWide P w r base t (.slice (some a) len cap)) : a.block < w.heap.size := by
  simp only [Value.okWide, ht, Cell.okWide] at h
  exact cell_ok_lt h

section
variable {H : Type} {enc : TypeId × Value → H} {W : World} {base : Nat} {spare : Nat → Bool} {held : Bool}

theorem field_cell {P : Program} {fs : Array Field} {cs : List Value} {xs : List (DataW H × List MemPlace)} {n : Nat} (hx : xs.length = fs.size)
    (hf : ∀ (i : Nat) (f : Field), fs[i]? = some f → DataW.trod enc P W base spare held n f.type ((cs.drop f.offset).take (P.cellsOf f.type)) = xs[i]?) (i : Nat) (f : Field) (h : fs[i]? = some f) :
    ∃ y, DataW.trod enc P W base spare held n f.type ((cs.drop f.offset).take (P.cellsOf f.type)) = some y := by
  have hi : i < xs.length := by rw [hx]; exact (Array.getElem?_eq_some_iff.1 h).1
  exact ⟨xs[i], by rw [hf i f h, List.getElem?_eq_getElem hi]⟩

set_option maxRecDepth 100000 in
theorem call_read {n : Nat} {cs : List Value} {x : DataW H × List MemPlace} (h : DataW.trod enc Tryz.prog W base spare held n 31 cs = some x) :
    ∃ c : CallM, cs = callV c ∧ CallOk c := by
  obtain ⟨xs, m, rfl, _, hl, hx, hf⟩ := DataW.trod_struct Tryz.underlying31 h
  rw [show Tryz.prog.cellsOf 31 = 5 from by kernel_rfl] at hl
  obtain ⟨c0, c1, c2, c3, c4, rfl⟩ : ∃ c0 c1 c2 c3 c4, cs = [c0, c1, c2, c3, c4] := by
    match cs, hl with
    | [a, b, c, d, e], _ => exact ⟨_, _, _, _, _, rfl⟩
  have e3 : Tryz.prog.cellsOf 3 = 1 := by kernel_rfl
  have g := field_cell hx hf
  obtain ⟨y0, h0⟩ : ∃ y, DataW.trod enc Tryz.prog W base spare held m 3 ((List.drop 0 [c0, c1, c2, c3, c4]).take (Tryz.prog.cellsOf 3)) = some y := g 0 _ rfl
  obtain ⟨y1, h1⟩ : ∃ y, DataW.trod enc Tryz.prog W base spare held m 3 ((List.drop 1 [c0, c1, c2, c3, c4]).take (Tryz.prog.cellsOf 3)) = some y := g 1 _ rfl
  obtain ⟨y2, h2⟩ : ∃ y, DataW.trod enc Tryz.prog W base spare held m 3 ((List.drop 2 [c0, c1, c2, c3, c4]).take (Tryz.prog.cellsOf 3)) = some y := g 2 _ rfl
  obtain ⟨y3, h3⟩ : ∃ y, DataW.trod enc Tryz.prog W base spare held m 3 ((List.drop 3 [c0, c1, c2, c3, c4]).take (Tryz.prog.cellsOf 3)) = some y := g 3 _ rfl
  obtain ⟨y4, h4⟩ : ∃ y, DataW.trod enc Tryz.prog W base spare held m 3 ((List.drop 4 [c0, c1, c2, c3, c4]).take (Tryz.prog.cellsOf 3)) = some y := g 4 _ rfl
  simp only [e3, List.drop_succ_cons, List.drop_zero, List.take_succ_cons, List.take_zero] at h0 h1 h2 h3 h4
  obtain ⟨a0, z0, _, _⟩ := DataW.trod_int Tryz.underlying3 h0
  obtain ⟨a1, z1, _, _⟩ := DataW.trod_int Tryz.underlying3 h1
  obtain ⟨a2, z2, _, _⟩ := DataW.trod_int Tryz.underlying3 h2
  obtain ⟨a3, z3, _, w3⟩ := DataW.trod_int Tryz.underlying3 h3
  obtain ⟨a4, z4, _, w4⟩ := DataW.trod_int Tryz.underlying3 h4
  cases z0; cases z1; cases z2; cases z3; cases z4
  have b3 := bounds_i64 w3
  have b4 := bounds_i64 w4
  exact ⟨⟨a0, a1, a2, a3, a4⟩, rfl, ⟨by show a3 < 2 ^ 63; omega, by show -2 ^ 63 ≤ a4 ∧ a4 < 2 ^ 63; omega⟩⟩

/- Rows of structs, read. -/
set_option maxRecDepth 100000 in
theorem rows_read {t e : TypeId} {n K : Nat} {cs : List Value} {x : DataW H × List MemPlace} (ht : Tryz.prog.underlying t = some (.slice e)) (hK : Tryz.prog.cellsOf e = K) (hK0 : 0 < K)
    (h : DataW.trod enc Tryz.prog W base spare held n t cs = some x) {α : Type} [Inhabited α] (V : α → List Value) (Ok : α → Prop)
    (hel : ∀ (m : Nat) (cs' : List Value) (y : DataW H × List MemPlace), DataW.trod enc Tryz.prog W base spare held m e cs' = some y → ∃ a, cs' = V a ∧ Ok a) :
    ∃ (rs : List α) (pv : Option Addr) (cap : Nat), cs = [.slice pv rs.length cap] ∧ rs.length ≤ maxLen ∧ (∀ a ∈ rs, Ok a) ∧
      ∀ i (hi : i < rs.length), ∃ g o, pv = some ⟨g, o, none⟩ ∧ ∀ j v, (V rs[i])[j]? = some v → W.cell? ⟨g, o + i * K + j, none⟩ = some v := by
  rcases open_slice ht h with ⟨hcs, _⟩ | ⟨a, len, cap, m, n', D, Pl, hcs, hb, hl, hm, hmm, _, hall⟩
  · exact ⟨[], none, 0, hcs, Nat.zero_le _, fun a ha => absurd ha (List.not_mem_nil), fun i hi => absurd hi (Nat.not_lt_zero i)⟩
  · subst hcs
    have hlm : len ≤ m := by rw [hmm]; split <;> omega
    obtain ⟨ab, ao, asp⟩ := a
    have hsp : 0 < len → asp = none := by
      intro h0
      obtain ⟨cs', h1, _⟩ := hall 0 (by omega)
      rw [hK] at h1
      unfold World.cells? at h1
      rw [if_pos (show base ≤ (Addr.add ⟨ab, ao, asp⟩ (0 * K)).block from by rw [Nat.zero_mul]; exact hb)] at h1
      have h2 : W.cell? (Addr.add (Addr.add ⟨ab, ao, asp⟩ (0 * K)) 0) = cs'[0]? := mapM_some_get h1 0 0 (by simp [hK0])
      rw [Nat.zero_mul, List.getElem?_eq_getElem (by have hlen : cs'.length = K := by simpa using mapM_some_length h1
                                                     omega)] at h2
      exact spot_none (show W.cell? ⟨ab, ao, asp⟩ = _ from h2)
    have hcells : ∀ i, i < len → ∃ a, Ok a ∧ ∀ j v, (V a)[j]? = some v → W.cell? ⟨ab, ao + i * K + j, none⟩ = some v := by
      intro i hi
      obtain rfl := hsp (by omega)
      obtain ⟨cs', h1, h2⟩ := hall i (by omega)
      rw [hK, add_plain] at h1
      unfold World.cells? at h1
      rw [if_pos hb] at h1
      have hlen : cs'.length = K := by simpa using mapM_some_length h1
      have hget : ∀ j, j < K → W.cell? ⟨ab, ao + i * K + j, none⟩ = cs'[j]? := fun j hj => by
        have := mapM_some_get h1 j j (by simp [hj])
        rw [add_plain] at this
        exact this
      obtain ⟨a, rfl, hok⟩ := hel _ _ _ h2
      refine ⟨a, hok, fun j v hv => ?_⟩
      rw [hget j (by have := (List.getElem?_eq_some_iff.1 hv).1; omega)]
      exact hv
    obtain ⟨f, hf⟩ := choose_lt hcells
    refine ⟨(List.range len).map f, some ⟨ab, ao, asp⟩, cap, by simp, by simp; omega, fun a ha => ?_, fun i hi => ?_⟩
    · obtain ⟨i, hi, rfl⟩ := List.mem_map.1 ha
      exact (hf i (List.mem_range.1 hi)).1
    · have hi2 : i < len := by simpa using hi
      obtain ⟨_, hc⟩ := hf i hi2
      obtain rfl := hsp (by omega)
      refine ⟨ab, ao, rfl, fun j v hv => hc j v ?_⟩
      simpa using hv


theorem calls_read {n : Nat} {cs : List Value} {x : DataW H × List MemPlace} (h : DataW.trod enc Tryz.prog W base spare held n 22 cs = some x) :
    ∃ (es : List CallM) (pv : Option Addr) (cap : Nat), cs = [.slice pv es.length cap] ∧ es.length ≤ maxLen ∧ (∀ e ∈ es, CallOk e) ∧ CallsAt W pv es :=
  haveI : Inhabited CallM := ⟨⟨0, 0, 0, 0, 0⟩⟩
  rows_read Tryz.underlying22 (show Tryz.prog.cellsOf 31 = 5 from by kernel_rfl) (by decide) h callV CallOk (fun _ _ _ h2 => call_read h2)
end

theorem own : ownKnob Tryz.prog.godebug = none := by kernel_rfl
theorem laidOut : laidOutB Tryz.prog = true := by kernel_rfl

/-- The one listed variable: the table of TrailingZeros64, in block 0. -/
def laidL : List (String × DataW Unit) := [("math/bits.deBruijn64tab", Rows.laid_math_bits_deBruijn64tab)]
theorem gTab : Tryz.prog.globalNamed "math/bits.deBruijn64tab" = some 0 := by kernel_rfl
theorem gTabT : (Tryz.prog.globals[0]?).map (·.type) = some 233 := by kernel_rfl
theorem tab_data : laidL = [("math/bits.deBruijn64tab", Lib.tabData .u8 (Lib.deBruijn64tab.map fun (j : Nat) => (j : Int)))] := by kernel_rfl
theorem tab_of_laid {W : World} (h : laidMetH Tryz.prog laidL W) : Tab W := by
  rw [MakeChecks.laidMetH_plain _ _ _ (by kernel_rfl), tab_data] at h
  have h2 := Lib.tabIs_of_head gTab gTabT Tryz.underlying233 Tryz.underlying5 (by kernel_rfl) (by kernel_rfl) h
  intro j hj
  rw [World.var?_cell gTab h2 j]
  rw [List.getElem?_toArray, List.getElem?_map, List.getElem?_map, List.getElem?_eq_getElem hj, List.getD_eq_getElem?_getD, List.getElem?_eq_getElem hj]
  rfl
/-- The door's own heap meets the condition. -/
theorem door_met (os : Os) (args : Array Value) : laidMetH Tryz.prog laidL ((World.doorLaid Tryz.prog 400 os).forCall (fun _ _ => 0) ⟨#[], args, []⟩).memory :=
  laidMetH_of_parts3 (fuel := 8) (laidMet_of_run' 8 (by kernel_rfl) (by kernel_rfl)) (by kernel_rfl) (by kernel_rfl)

end Go.Proofs.YtlljejmblmjjnaaGreatDoor
