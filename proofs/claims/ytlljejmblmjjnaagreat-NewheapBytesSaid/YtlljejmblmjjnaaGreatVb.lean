/- A law's own map of ints: asked, written, struck. -/
import Derived.Test.YtlljejmblmjjnaaGreatVa
import Derived.Test.YtlljejmblmjjnaaGreatMh
import Derived.OrdersHeld
import Derived.Laws.AppendOwnNone
import Derived.Deep.RegionHeld3
import Derived.WalkKit
import Derived.WalkSpells
import Derived.WalkLawsBesides
import Derived.BigQuiet
import Derived.Lib.Hide
namespace Go.Proofs.YtlljejmblmjjnaaGreat
set_option linter.unusedVariables false
set_option linter.unusedSimpArgs false
open Go.RowKit Go.ChangeMaps

def mentry (f : Int → Value) (y : ME) : MapEntry := { key := .int .i64 y.k, val := f y.v, born := y.born }
def findM (k : Int) : List ME → Nat → Option (Nat × ME)
  | [], _ => none
  | x :: l, i => if x.k = k then some (i, x) else findM k l (i + 1)
theorem findNow_m (f : Int → Value) (k : Int) : ∀ (l : List ME) (i : Nat), Instr.findNow (.int .i64) (.int .i64 k) (l.map (mentry f)) i = some ((findM k l i).map fun p => (p.1, f p.2.v))
  | [], i => rfl
  | x :: l, i => by
    by_cases h : x.k = k
    · simp [Instr.findNow, mentry, Instr.sameNow, findM, h]
    · have h1 : (k == x.k) = false := by simp [Ne.symm h]
      have ih := findNow_m f k l (i + 1)
      simp only [List.map_cons, Instr.findNow, mentry, Instr.sameNow, if_true, h1, findM, h, if_false]
      simpa [mentry] using ih
theorem findM_find (k : Int) : ∀ (l : List ME) (i : Nat), (findM k l i).map (·.2) = l.find? fun x => x.k == k
  | [], _ => rfl
  | x :: l, i => by
    by_cases h : x.k = k
    · simp [findM, h]
    · simp [findM, h, findM_find k l (i + 1)]
theorem findM_erase (k : Int) : ∀ (l : List ME) (i j : Nat) (x : ME), findM k l i = some (j, x) → (l.map (·.k)).Nodup → i ≤ j ∧ l.eraseIdx (j - i) = l.filter fun y => y.k != k
  | [], i, j, x, h, _ => by simp [findM] at h
  | y :: l, i, j, x, h, hn => by
    simp only [List.map_cons, List.nodup_cons] at hn
    by_cases e : y.k = k
    · simp only [findM, e, if_true, Option.some.injEq, Prod.mk.injEq] at h
      obtain ⟨rfl, rfl⟩ := h
      refine ⟨Nat.le_refl _, ?_⟩
      simp only [Nat.sub_self, List.eraseIdx_zero, List.tail_cons, List.filter_cons, e, bne_self_eq_false, Bool.false_eq_true, if_false]
      symm
      rw [List.filter_eq_self]
      intro z hz
      have : z.k ≠ k := fun ez => hn.1 (by rw [e]; exact List.mem_map.2 ⟨z, hz, ez⟩)
      simp [this]
    · simp only [findM, e, if_false] at h
      obtain ⟨h1, h2⟩ := findM_erase k l (i + 1) j x h hn.2
      refine ⟨by omega, ?_⟩
      rw [show j - i = (j - (i + 1)) + 1 from by omega, List.eraseIdx_cons_succ, h2]
      simp [e]
theorem findM_none (k : Int) (l : List ME) (i : Nat) (h : findM k l i = none) : ∀ x ∈ l, x.k ≠ k := by
  have h1 := findM_find k l i
  rw [h] at h1
  intro x hx e
  have := (List.find?_eq_none.1 h1.symm) x hx
  simp [e] at this

theorem und_imap : Tryz.prog.underlying 27 = some (.map 3 3) := by kernel_rfl
theorem zero_int' : ∀ w, (zeroValue 3).run Tryz.prog w = .ok (.int .i64 0) w := fun w => by kernel_rfl
/-- The map of a law: where it lies, what stands in it. -/
def MapAt' (w : World) (mb : Nat) (f : Int → Value) (E : List ME) : Prop := ∃ clk, w.heap[mb]? = some (.map (E.map (mentry f)).toArray clk)
theorem MapAt'.turned {F : Nat → Prop} {w w' : World} {mb : Nat} {f : Int → Value} {E : List ME} (h : MapAt' w mb f E) (t : Turned F w w') (hF : ¬ F mb) : MapAt' w' mb f E := by
  obtain ⟨clk, h⟩ := h
  exact ⟨clk, (t.block _ (lt_of_block h) hF).trans h⟩
theorem MapAt'.below {w w' : World} {mb : Nat} {f : Int → Value} {E : List ME} (h : MapAt' w mb f E) (hb : Below w.heap.size w w') : MapAt' w' mb f E := by
  obtain ⟨clk, h⟩ := h
  exact ⟨clk, (hb.block _ (lt_of_block h)).trans h⟩
theorem MapAt'.lt {w : World} {mb : Nat} {f : Int → Value} {E : List ME} (h : MapAt' w mb f E) : mb < w.heap.size := by
  obtain ⟨clk, h⟩ := h
  exact lt_of_block h

theorem run_lookup_m {mt et : TypeId} {f : Int → Value} (hu : Tryz.prog.underlying mt = some (.map 3 et)) (hz : ∀ w, (zeroValue et).run Tryz.prog w = .ok (f 0) w) {w : World} {mb : Nat} {E : List ME} (h : MapAt' w mb f E) (k : Int) :
    (Instr.lookup mt (.map (some mb)) (.int .i64 k) false).run Tryz.prog w = .ok (f (valE E k)) w := by
  obtain ⟨clk, h⟩ := h
  have e : valE E k = match findM k E 0 with | some p => p.2.v | none => 0 := by
    unfold valE
    rw [← findM_find k E 0]
    cases findM k E 0 <;> rfl
  rw [e]
  have hf : ∀ w, (Instr.findKey 3 (.int .i64 k) (E.map (mentry f))).run Tryz.prog w = .ok ((findM k E 0).map fun p => (p.1, f p.2.v)) w := fun w => by
    simp [Instr.findKey, run_underlying und_int4, findNow_m]
  simp only [Instr.lookup, Sem.run_bind, run_underlying hu, Result.andThen, MapKept.run_getObj_map h, checkKey_int2]
  simp only [hf, Sem.run_pure]
  cases findM k E 0 with
  | none => simp [hz]
  | some p => simp
theorem run_update_m {mt et : TypeId} {f : Int → Value} (hu : Tryz.prog.underlying mt = some (.map 3 et)) {w : World} {mb : Nat} {E : List ME} (h : MapAt' w mb f E) (k : Int) (hk : ∀ x ∈ E, x.k ≠ k) (v : Int) :
    ∃ b blk, (Instr.mapUpdate mt (.map (some mb)) (.int .i64 k) (f v)).run Tryz.prog w = .ok () (setBlock w mb blk) ∧ MapAt' (setBlock w mb blk) mb f (E ++ [⟨k, v, b⟩]) := by
  have hlt := h.lt
  obtain ⟨clk, h⟩ := h
  have hn : findM k E 0 = none := by
    cases e : findM k E 0 with
    | none => rfl
    | some p =>
      have h1 := findM_find k E 0
      rw [e] at h1
      have h2 := List.find?_some h1.symm
      have h3 := List.mem_of_find?_eq_some h1.symm
      simp at h2
      exact absurd h2 (hk _ h3)
  have hf : ∀ w, (Instr.findKey 3 (.int .i64 k) (E.map (mentry f))).run Tryz.prog w = .ok ((findM k E 0).map fun p => (p.1, f p.2.v)) w := fun w => by
    simp [Instr.findKey, run_underlying und_int4, findNow_m]
  refine ⟨clk, .map ((E.map (mentry f)) ++ [MapEntry.mk (.int .i64 k) (f v) clk]).toArray (clk + 1), ?_, clk + 1, ?_⟩
  · simp only [Instr.mapUpdate, Sem.run_bind, run_underlying hu, Result.andThen, MapKept.run_getObj_map h, checkKey_int2]
    simp only [hf, hn, Option.map_none]
    simp [MapKept.run_setObj_map _ h, setBlock]
  · rw [List.map_append]
    rw [heap_setBlock_eq hlt]
    simp [mentry]
theorem run_delete_m {mt et : TypeId} {f : Int → Value} (hu : Tryz.prog.underlying mt = some (.map 3 et)) {w : World} {mb : Nat} {E : List ME} (h : MapAt' w mb f E) (hn : (E.map (·.k)).Nodup) (k : Int) :
    ∃ blk, (∀ ty, (Builtin.delete_ #[mt, 3] ty #[.map (some mb), .int .i64 k]).run Tryz.prog w = .ok (.tuple #[]) (setBlock w mb blk)) ∧ MapAt' (setBlock w mb blk) mb f (E.filter fun y => y.k != k) := by
  have hlt := h.lt
  obtain ⟨clk, h⟩ := h
  have hf : ∀ w, (Instr.findKey 3 (.int .i64 k) (E.map (mentry f))).run Tryz.prog w = .ok ((findM k E 0).map fun p => (p.1, f p.2.v)) w := fun w => by
    simp [Instr.findKey, run_underlying und_int4, findNow_m]
  refine ⟨.map ((E.filter fun y => y.k != k).map (mentry f)).toArray clk, fun ty => ?_, clk, heap_setBlock_eq hlt _⟩
  simp only [Builtin.delete_, List.getElem?_toArray, List.getElem?_cons_zero, List.getElem?_cons_succ, Sem.run_bind, run_underlying hu, Result.andThen, MapKept.run_getObj_map h, checkKey_int2]
  simp only [hf]
  cases e : findM k E 0 with
  | none =>
    have : E.filter (fun y => y.k != k) = E := by
      rw [List.filter_eq_self]
      intro x hx
      simpa using findM_none k E 0 e x hx
    rw [this]
    simp [MapKept.run_setObj_map _ h, setBlock]
  | some p =>
    obtain ⟨_, h2⟩ := findM_erase k E 0 p.1 p.2 e hn
    rw [← h2]
    simp [MapKept.run_setObj_map _ h, setBlock, ChangeMaps.map_eraseIdx]
theorem run_len_m {mt et : TypeId} {f : Int → Value} (hu : Tryz.prog.underlying mt = some (.map 3 et)) {w : World} {mb : Nat} {E : List ME} (h : MapAt' w mb f E) (ty : TypeId) :
    (Builtin.len_ #[mt] ty #[.map (some mb)]).run Tryz.prog w = .ok (.int .i64 E.length) w := by
  obtain ⟨clk, h⟩ := h
  simp [Builtin.len_, run_underlying hu, MapKept.run_getObj_map h, goInt]
end Go.Proofs.YtlljejmblmjjnaaGreat
