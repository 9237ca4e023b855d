/- ring: Each: an iterator of a list's items. -/
import Derived.Test.YtlljejmblmjjnaaGreatDoorZt
import Derived.RangeFuncBox
import Derived.RangeFuncLeaves
import Derived.RangeFuncNested
import Derived.Shelf.Abstract
import Derived.WalkKit
import Derived.OwnWalkIn
import Derived.TacticsInMore
import Derived.LoopNIn
import Derived.LoopIn
import Derived.Maps.AppendAt
import Derived.Lib.Hide
namespace Go.Proofs.YtlljejmblmjjnaaGreatDoor
set_option linter.unusedVariables false
set_option linter.unusedSimpArgs false
open Go.RowKit Go.ChangeMaps Go.Shelf
attribute [local go_sem] Oper.semAt_some

/-- The block of the slice that lies in a box. -/
def ownB (W : World) (B : Nat) : Option Nat := match W.cell? ⟨B, 0, none⟩ with | some v => v.ownBlock | none => none
/-- All lies as it lay but a box and the row in it. -/
structure KeepBox (B : Nat) (W W' : World) : Prop where
  size : W.heap.size ≤ W'.heap.size
  keep : ∀ g cs t f, W.heap[g]? = some (.cells cs t f) → g ≠ B → ownB W B ≠ some g → W'.heap[g]? = some (.cells cs t f)
  own : ∀ g, ownB W' B = some g → ownB W B = some g ∨ W.heap.size ≤ g
theorem KeepBox.refl (B : Nat) (W : World) : KeepBox B W W := ⟨Nat.le_refl _, fun _ _ _ _ h _ _ => h, fun _ h => .inl h⟩
theorem KeepBox.trans {B : Nat} {W1 W2 W3 : World} (h : KeepBox B W1 W2) (k : KeepBox B W2 W3) : KeepBox B W1 W3 := by
  refine ⟨Nat.le_trans h.size k.size, fun g cs t f hg hne ho => k.keep g cs t f (h.keep g cs t f hg hne ho) hne fun e => ?_, fun g hg => ?_⟩
  · have hl := lt_of_block hg
    rcases h.own g e with e | e
    · exact ho e
    · omega
  · rcases k.own g hg with e | e
    · exact h.own g e
    · exact .inr (Nat.le_trans h.size e)
theorem ownB_of {W : World} {B : Nat} {v : Value} (h : W.cell? ⟨B, 0, none⟩ = some v) : ownB W B = v.ownBlock := by unfold ownB; rw [h]
theorem ownB_same {W W' : World} {B : Nat} (h : W'.heap[B]? = W.heap[B]?) : ownB W' B = ownB W B := by
  unfold ownB World.cell?
  simp only [h]
theorem KeepBox.putObj {w W : World} {B l : Nat} {o : Obj} (o' : Obj) (hB : B < w.heap.size) (hl : w.heap.size ≤ l) (h : W.heap[l]? = some o) (hc : o.isCells = false) : KeepBox B W (W.putObj l o') := by
  refine ⟨by simp, fun g cs t f hg _ _ => ?_, fun g hg => .inl ?_⟩
  · rw [World.putObj_heap_other]
    · exact hg
    · rintro rfl
      rw [h] at hg
      cases hg
      cases hc
  · rw [← hg, ownB_same]
    rw [World.putObj_heap_other]
    omega

theorem reach_all {w : World} {base n : Nat} {v : Value} {xs : List Int} (h : w.ownsRow base 3 1 v n (intsV xs)) : ∃ p c, v = .slice p n c ∧ ∀ (j : Nat) (hj : j < xs.length), ∃ g cs f, p = some ⟨g, 0, none⟩ ∧ base ≤ g ∧ w.heap[g]? = some (.cells cs 3 f) ∧ cs[j]? = some (.int .i64 xs[j]) := by
  rcases h.2 with ⟨rfl, rfl⟩ | ⟨g, cap, cur, rfl, hb, hg, h1, h2, h3, h4⟩
  · refine ⟨none, 0, rfl, fun j hj => ?_⟩
    have := h.1
    simp [intsV] at this
    subst this
    cases hj
  · refine ⟨_, _, rfl, fun j hj => ⟨g, cur, _, rfl, hb, hg, ?_⟩⟩
    have hl : xs.length = n := by have := h.1; simpa [intsV] using this
    have h5 : (cur.toList.take (n * 1))[j]? = (intsV xs)[j]? := by rw [h4]
    rw [List.getElem?_take, if_pos (by omega), Array.getElem?_toList] at h5
    rw [h5]
    simp [intsV, hj]

set_option maxRecDepth 100000 in
set_option maxHeartbeats 2000000 in
/-- The iterator's body. -/
theorem each1_in {r ib lb n : Nat} {R : Nat → List Nat} (k : Nat) (hk : k < 64) (B1 B2 B0 l m : Nat) (hm : 1 ≤ m) (J Jx : List Int → World → Prop) (W : World) (hR : RingIn W r ib lb n R) (hJ : AbidesFrom W.heap.size J)
    (c1 : W.cell? ⟨B1, 0, none⟩ = some (.pointer (some ⟨r, 0, none⟩))) (c2 : W.cell? ⟨B2, 0, none⟩ = some (.int .i64 k)) (c0 : W.cell? ⟨B0, 0, none⟩ = some (.slice none 0 0))
    (hY : ∀ pre x W1, J pre W1 → pre.length < (R k).length → YieldAt Fence.wide (m - 1) Tryz.prog l #[.int .i64 x] W1 fun e W' => (e = .returned (.bool true) ∧ J (pre ++ [x]) W' ∧ KeepBox B0 W1 W') ∨ (e = .returned (.bool false) ∧ Jx (pre ++ [x]) W')) (h0 : J [] W) :
    CallsIn Fence.wide m Tryz.prog 92 #[.func (.yield l) #[] #[], .pointer (some ⟨B1, 0, none⟩), .pointer (some ⟨B2, 0, none⟩)] W fun e W' => (∃ v, e = .returned v) ∧ ((∃ ys, ys = intsN (R k) ∧ J ys W') ∨ (∃ pre : List Int, True ∧ Jx pre W')) := by
  have HA := Lib.hid (rgAll hR k hk)
  have hil : (intsN (R k)).length = (R k).length := by simp [intsN]
  have hb0l := cell_lt c0
  have HLM : Hid ((R k).length ≤ 4096) := by obtain ⟨it, ls, a, b, -, d⟩ := hR; exact Nat.le_trans (b.len (by omega)) a.ilen
  clear hR
  refine callsIn_of_wp Tryz.func92 rfl trivial ?_ rfl
  simp only [Tryz.ntmps92, List.size_toArray, List.length_cons, List.length_nil, Nat.reduceAdd, Nat.reduceSub, Array.replicate_succ, Array.replicate_zero, List.push_toArray, List.append_toArray, List.nil_append, List.cons_append]
  gi_wp2_with (fail)
  refine ⟨trivial, ?_⟩
  refine (callsIn_wide.2 HA.out).mono ?_
  rintro e w1 ⟨v, rfl, hrow, hb1⟩
  have hJ1 : J [] w1 := hJ [] W w1 none h0 ⟨hb1.os, hb1.tape, hb1.output, hb1.size, fun j hj _ => hb1.block j hj⟩ (fun r e => by cases e)
  obtain ⟨p, c, rfl, hall⟩ := reach_all (xs := intsN (R k)) hrow
  have hown1 : ownB w1 B0 = none := by rw [ownB_of (cell_past hb1 hb0l c0)]; rfl
  have hbs := hb1.size
  have HALL := Lib.hid hall
  have hlen : (R k).length = (intsN (R k)).length := hil.symm
  rw [hlen] at hY
  clear hall hrow HA c0 c1 c2 h0 hil
  obtain ⟨xs, hxs⟩ : ∃ xs, xs = intsN (R k) := ⟨_, rfl⟩
  have HXS := Lib.hid hxs
  rw [← hxs] at HALL hY
  have hlm : xs.length ≤ 4096 := by rw [hxs, ← hlen]; exact HLM.out
  rw [show (R k).length = xs.length by rw [hxs, hlen]]
  clear hxs hlen
  gi_wp2
  gi_loopw [10] (fun i wr => ∃ j : Nat, j ≤ xs.length ∧ i = .int .i64 j ∧ J (xs.take j) wr ∧ KeepBox B0 w1 wr)
    (fun i _ => xs.length - (intOf i).toNat)
  case atStart => exact ⟨0, Nat.zero_le _, rfl, by simpa using hJ1, KeepBox.refl _ _⟩
  case round =>
    obtain ⟨j, hj, rfl, hJs, hkb⟩ := hrel
    by_cases hlt : j < xs.length
    · obtain ⟨g, cs, f, rfl, hbg, hg, hcs⟩ := HALL.out j hlt
      have hgw : wr.heap[g]? = some (.cells cs 3 f) := hkb.keep g cs _ f hg (fun e => by omega) (by rw [hown1]; exact fun e => by cases e)
      have hcx : wr.cell? ⟨g, j, none⟩ = some (.int .i64 xs[j]) := by
        unfold World.cell?
        simp only [hgw]
        exact hcs
      have hjl : (xs.take j).length = j := by rw [List.length_take]; omega
      obtain ⟨fn, tmps, assign, body, hy, hR⟩ := hY (xs.take j) xs[j] wr hJs (by omega)
      have hts : xs.take (j + 1) = xs.take j ++ [xs[j]] := (List.take_append_getElem hlt).symm
      rw [← hts] at hR
      have hcx' := hcx
      have HK := Lib.hid hkb
      have hj1 : (0 : Int) ≤ (j : Int) ∧ (j : Int) < xs.length := by omega
      have hjw : IntKind.i64.wrap ((j : Int) + 1) = (j : Int) + 1 := by rw [IntKind.wrap_i64]; omega
      clear hgw hcx hg hcs hts hkb
      generalize xs[j] = z at *
      gi_wp2
      refine hR.mono ?_
      rintro e W3 (⟨rfl, hJ3, hk3⟩ | ⟨rfl, hJx3⟩)
      · gi_wp2
        go_roundw
        case rel => exact ⟨j + 1, by omega, by simp, hJ3, HK.out.trans hk3⟩
        case measure => simp [intOf]; omega
      · gi_wp2
        refine bodyPost_ret (results_none rfl _ _ _) rfl ?_
        exact ⟨⟨_, rfl⟩, .inr ⟨_, trivial, hJx3⟩⟩
    · obtain rfl : j = xs.length := by omega
      rw [List.take_length] at hJs
      gi_wp2
      go_end0
      exact ⟨⟨_, rfl⟩, .inl ⟨_, HXS.out, hJs⟩⟩

end Go.Proofs.YtlljejmblmjjnaaGreatDoor
