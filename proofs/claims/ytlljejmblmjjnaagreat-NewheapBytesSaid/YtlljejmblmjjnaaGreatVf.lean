/- cells: Fill and Read of eight bytes. -/
import Derived.Test.YtlljejmblmjjnaaGreatVa
import Derived.Laws.AppendOwnNone
import Derived.Lib.AppendZerosOnto
import Derived.WalkKit
import Derived.WalkSpells
import Derived.WalkLawsBesides
import Derived.BigQuiet
import Derived.Lib.Hide
namespace Go.Proofs.YtlljejmblmjjnaaGreat
set_option linter.unusedVariables false
set_option linter.unusedSimpArgs false
open Go.RowKit Go.ChangeMaps

theorem rep_ok {v : Int} (h : 0 ≤ v ∧ v ≤ 255) (k : Nat) : ByteL (List.replicate k v) := fun u hu => by
  rw [List.mem_replicate] at hu
  rw [hu.2]
  exact h
set_option maxHeartbeats 800000 in
theorem fill_yes (c b : Nat) (bs : List Int) (a : Nat) (v : Int) (w : World) (h : CellsAt w c b bs) (hn : a + 8 ≤ bs.length) (hv : 0 ≤ v ∧ v ≤ 255) :
    Calls Tryz.prog 27 #[.pointer (some ⟨c, 0, none⟩), .int .i64 a, .int .i64 8, .int .u8 v] w (StoreDone w c b (putR bs a (List.replicate 8 v))) := by
  have hp : Hid (Calls Tryz.prog 60 #[.pointer (some ⟨c, 0, none⟩), .int .i64 a, .int .i64 8] w fun e w' => e = .returned (.tuple #[.slice (some ⟨b, a, none⟩) 8 (bs.length - a), .bool true]) ∧ w = w') := part_yes c b bs a 8 w h hn (by omega)
  have HH := Lib.hid h
  have HV := Lib.hid hv
  have hl := h.len
  clear h hv
  go_enter Tryz.func27, Tryz.ntmps27
  go_wp2_with (fail)
  refine hp.out.mono ?_
  rintro e w' ⟨rfl, rfl⟩
  go_wp2
  go_loopw [23] (fun i wr => ∃ k : Nat, k ≤ 8 ∧ i = .int .i64 k ∧ Turned (fun j => j = b) w wr ∧ wr.heap[b]? = some (.cells (bytesC (putR bs a (List.replicate k v))) 5 (0, 0))) (fun i _ => 8 - (intOf i).toNat)
  case atStart => exact ⟨0, Nat.zero_le _, rfl, Turned.refl _ _, by rw [show List.replicate 0 v = [] from rfl, putR_nil]; exact HH.out.bytes⟩
  case round =>
    obtain ⟨k, hk, rfl, hT, hy⟩ := hrel
    by_cases hlt : k < 8
    · have hpl : (putR bs a (List.replicate k v)).length = bs.length := putR_length _ _ _ (by rw [List.length_replicate]; omega)
      have hck : wr.cell? ⟨b, a + k, none⟩ = some (.int .u8 ((putR bs a (List.replicate k v)).getD (a + k) 0)) := by
        rw [cell_of_block hy, bytesC, List.getElem?_toArray, List.getElem?_map, List.getElem?_eq_getElem (by rw [hpl]; omega)]
        simp [List.getD, List.getElem?_eq_getElem (show a + k < (putR bs a (List.replicate k v)).length from by rw [hpl]; omega)]
      have hfk : wr.frozen? ⟨b, a + k, none⟩ = false := frozen_of_row _ _ _ _ _ hy
      have hnx : (wr.setCell ⟨b, a + k, none⟩ (.int .u8 v)).heap[b]? = some (.cells (bytesC (putR bs a (List.replicate (k + 1) v))) 5 (0, 0)) := by
        have := heap_setCell_eq (w := wr) (b := b) (i := a + k) hy (.int .u8 v)
        have hps := putR_succ bs a (List.replicate k v) v (by rw [List.length_replicate]; omega)
        rw [List.length_replicate] at hps
        rw [this, bytesC_set, hps, List.replicate_succ']
      have hTx : Turned (fun j => j = b) w (wr.setCell ⟨b, a + k, none⟩ (.int .u8 v)) := Turned.setCell (F := fun j => j = b) (p := ⟨b, a + k, none⟩) hT (.inl rfl) _
      have HNX := Lib.hid hnx
      have HTX := Lib.hid hTx
      have hi1 : (0 : Int) ≤ k ∧ (k : Int) < 8 := by omega
      have hkw : IntKind.i64.wrap ((k : Int) + 1) = (k : Int) + 1 := by rw [IntKind.wrap_i64]; omega
      clear hnx hTx hy hT hpl
      generalize (putR bs a (List.replicate k v)).getD (a + k) 0 = d0 at *
      go_wp2
      go_roundw
      case rel => exact ⟨k + 1, by omega, by go_num, HTX.out, HNX.out⟩
      case measure => first | (simp [intOf]; done) | (simp [intOf]; omega)
    · obtain rfl : k = 8 := by omega
      have hfin := HH.out.put hT hy (rep_ok HV.out 8) (by rw [List.length_replicate]; exact hn)
      have HFIN := Lib.hid hfin
      have HT := Lib.hid hT
      clear hfin hy hT
      go_wp2
      go_ret
      exact ⟨rfl, HFIN.out, HT.out⟩

/-- Eight bytes, read out: a row of the reader's own. -/
def Bytes8 (w : World) (base : Nat) (bs : List Int) (a : Nat) (v : Value) : Prop :=
  ∃ g cap, v = .slice (some ⟨g, 0, none⟩) 8 cap ∧ base ≤ g ∧ ∀ k, k < 8 → w.cell? ⟨g, k, none⟩ = some (.int .u8 (bs.getD (a + k) 0))

set_option maxRecDepth 100000 in
set_option maxHeartbeats 4000000 in
theorem cloneB_any (c b : Nat) (bs : List Int) (a cap : Nat) (w : World) (h : CellsAt w c b bs) (hn : a + 8 ≤ bs.length) :
    Calls Tryz.prog 61 #[.slice (some ⟨b, a, none⟩) 8 cap] w fun e w' => ∃ v, e = .returned v ∧ Bytes8 w' w.heap.size bs a v ∧ Below w.heap.size w w' := by
  obtain ⟨i0, hi, hz0, hz1, hz2⟩ := info_parts info_byte
  have qT : ∀ (w : World) (a : Option Addr) (n c n' c' : Nat), (binOp .eql 28 (.slice a n c) (.slice none n' c')).run Tryz.prog w = .ok (.bool a.isNone) w := fun w a n c n' c' => Lib.run_eql_slice_nil w _ _ a n c n' c' Tryz.underlying28
  have hbl := lt_of_block h.bytes
  have HC := Lib.hid h
  have hnew : ∀ (j : Nat) (u : Value), ((List.range 8).map fun k => Value.int .u8 (bs.getD (a + k) 0))[j]? = some u → (w.alloc (.cells #[] 5)).cell? ((⟨b, a, none⟩ : Addr).add j) = some u := fun j u hj => by
    have hlj : j < 8 := by
      have := (List.getElem?_eq_some_iff.1 hj).1
      simpa using this
    rw [List.getElem?_map, List.getElem?_range hlj] at hj
    cases hj
    have hce := Lib.cell?_alloc_some (.cells #[] 5) (HC.out.cell (k := a + j) (by omega))
    unfold Addr.add
    by_cases h0 : j = 0
    · subst h0; simpa using hce
    · rw [if_neg h0]; exact hce
  have hmade : (w.alloc (.cells #[] 5)).ownsRow w.heap.size 5 1 (.slice (some ⟨w.heap.size, 0, none⟩) 0 0) 0 [] := World.ownsRow_made _ _ _ (Nat.le_refl _) (Nat.zero_le _) rfl
  have hone : ∀ u ∈ (List.range 8).map fun k => Value.int .u8 (bs.getD (a + k) 0), u.oneCell' = true := by
    intro u hu
    obtain ⟨k, -, rfl⟩ := List.mem_map.1 hu
    rfl
  have HM := Lib.hid hmade
  have HN := Lib.hid hnew
  have HO := Lib.hid hone
  clear hnew hmade hone h hn
  go_enter Tryz.func61, Tryz.ntmps61
  go_wp2_with (at_builtin; go_loud (refine wpList_append_own _ rfl _ _ 28 rfl w.heap.size 5 i0 (.int .u8 0) 1 1 Tryz.underlying28 hi hz0 hz1 hz2 rfl (by decide) _ 0 [] rfl HM.out ⟨b, a, none⟩ 8 cap _ rfl (by rw [List.length_map, List.length_range]) HN.out HO.out (by unfold maxLen; omega) (by omega) (by simp) ?_); intro v' w3 hown' hgrow3 hnil3)
  go_ret
  simp only [List.nil_append, Nat.zero_add] at hown'
  refine ⟨v', rfl, ?_, Below.grown ((Below.refl _ w).alloc (Nat.le_refl _) _) hgrow3 (by simp) (fun j e => ?_)⟩
  · rcases hown'.2 with ⟨rfl, h0⟩ | ⟨g, cp, cur, rfl, hb, hg, r1, r2, r3, r4⟩
    · omega
    · refine ⟨g, cp, rfl, hb, fun k hk => ?_⟩
      rw [cell_of_block hg, ← Array.getElem?_toList, ← List.getElem?_take_of_lt (show k < 8 * 1 by omega), r4, List.getElem?_map, List.getElem?_range hk]
      rfl
  · have e' : some w.heap.size = some j := e
    have e'' := Option.some.inj e'
    omega

set_option maxHeartbeats 800000 in
theorem read_yes (c b : Nat) (bs : List Int) (a : Nat) (w : World) (h : CellsAt w c b bs) (hn : a + 8 ≤ bs.length) :
    Calls Tryz.prog 28 #[.pointer (some ⟨c, 0, none⟩), .int .i64 a, .int .i64 8] w fun e w' => ∃ v, e = .returned (.tuple #[v, .int .i64 0]) ∧ Bytes8 w' w.heap.size bs a v ∧ Below w.heap.size w w' := by
  have hp : Hid (Calls Tryz.prog 60 #[.pointer (some ⟨c, 0, none⟩), .int .i64 a, .int .i64 8] w fun e w' => e = .returned (.tuple #[.slice (some ⟨b, a, none⟩) 8 (bs.length - a), .bool true]) ∧ w = w') := part_yes c b bs a 8 w h hn (by omega)
  have HCL := Lib.hid (cloneB_any c b bs a (bs.length - a) w h hn)
  clear h hn
  go_enter Tryz.func28, Tryz.ntmps28
  go_wp2_with (fail)
  refine hp.out.mono ?_
  rintro e w' ⟨rfl, rfl⟩
  go_wp2_with (fail)
  refine HCL.out.mono ?_
  rintro e w2 ⟨v, rfl, hb8, hb⟩
  have HB := Lib.hid (And.intro hb8 hb)
  clear hb8 hb
  go_wp2
  go_ret2
  exact ⟨v, rfl, HB.out⟩

/-- Eight bytes of another slot stay. -/
theorem put_far (bs : List Int) (a : Nat) (v : Int) (hn : a + 8 ≤ bs.length) (t : Nat) (h : t + 8 ≤ a ∨ a + 8 ≤ t) (j : Nat) (hj : j < 8) : (putR bs a (List.replicate 8 v)).getD (t + j) 0 = bs.getD (t + j) 0 :=
  putR_getD bs a _ (by rw [List.length_replicate]; exact hn) (t + j) (by rw [List.length_replicate]; omega)
theorem put_near (bs : List Int) (a : Nat) (v : Int) (hn : a + 8 ≤ bs.length) (j : Nat) (hj : j < 8) : (putR bs a (List.replicate 8 v)).getD (a + j) 0 = v := by
  rw [List.getD_eq_getElem?_getD, putR_get _ _ _ (by rw [List.length_replicate]; exact hn), List.length_replicate, if_pos (by omega), Nat.add_sub_cancel_left, List.getElem?_replicate, if_pos hj]
  rfl

end Go.Proofs.YtlljejmblmjjnaaGreat
