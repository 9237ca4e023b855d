/- Live. -/
import Derived.Test.YtgcnbiccekaffaaGreatP
namespace Go.Proofs.YtgcnbiccekaffaaGreat
open Go.RowKit Go.ChangeMaps

theorem info_block : (Tryz.prog.info? 73).map (fun i => (i.zero, i.size, i.bytes)) = some (some (.agg #[.int .i64 0, .int .i64 0, .int .i64 0]), 3, 24) := by kernel_rfl

/-- The cells of a row of blocks. -/
def blkV (b : Blk) : List Value := [.int .i64 b.at_, .int .i64 b.n, .int .i64 b.size]
def rowV (l : List Blk) : List Value := l.flatMap blkV
theorem rowV_append (a b : List Blk) : rowV (a ++ b) = rowV a ++ rowV b := by simp [rowV]
theorem rowV_length (l : List Blk) : (rowV l).length = l.length * 3 := by
  induction l with
  | nil => rfl
  | cons b l ih => simp only [rowV, List.flatMap_cons, List.length_append, List.length_cons] at *; rw [ih]; simp [blkV]; omega
theorem rowV_get (l : List Blk) (i j : Nat) (hi : i < l.length) (hj : j < 3) : (rowV l)[3 * i + j]? = (blkV l[i])[j]? := by
  have e : l = l.take i ++ (l[i] :: l.drop (i + 1)) := by simp
  have h1 : rowV l = rowV (l.take i) ++ (blkV l[i] ++ rowV (l.drop (i + 1))) := by
    rw [show rowV l = rowV (l.take i ++ (l[i] :: l.drop (i + 1))) from by rw [← e], rowV_append]; rfl
  have h2 : (rowV (l.take i)).length = 3 * i := by rw [rowV_length, List.length_take]; omega
  rw [h1, List.getElem?_append_right (by omega), h2, List.getElem?_append_left (by simp [blkV]; omega)]
  congr 1
  omega

/-- A row of whole numbers, as a slice. -/
theorem ownsRow_ints {w : World} {base : Nat} {e : TypeId} {v : Value} {n : Nat} {xs : List Value} (h : w.ownsRow base e 1 v n xs) :
    ∃ pv cap, v = .slice pv n cap ∧ ∀ i, i < n → ∃ g, pv = some ⟨g, 0, none⟩ ∧ g < w.heap.size ∧ w.cell? ⟨g, i, none⟩ = xs[i]? := by
  rcases h.2 with ⟨rfl, rfl⟩ | ⟨g, cap, cur, rfl, hb, hg, h1, h2, h3, h4⟩
  · exact ⟨none, 0, rfl, fun i hi => by omega⟩
  · refine ⟨_, cap, rfl, fun i hi => ⟨g, rfl, lt_of_block hg, ?_⟩⟩
    rw [cell_of_block hg, ← h4, List.getElem?_take, if_pos (by omega), Array.getElem?_toList]

theorem findB_mem {A : AM} (hI : Inv A) {b : Blk} (hb : b ∈ A.blocks) : findB A b.at_ = some b := by
  unfold findB
  cases hf : A.blocks.find? fun x => x.at_ == b.at_ with
  | none =>
    rw [List.find?_eq_none] at hf
    exact absurd (by simp) (hf b hb)
  | some c =>
    have h1 := List.mem_of_find?_eq_some hf
    have h2 := List.find?_some hf
    simp only [beq_iff_eq] at h2
    rw [hI.same h1 hb h2]

theorem cell_three_new (w : World) (a b c : Value) (T : TypeId) : ∀ j u, [a, b, c][j]? = some u → (w.alloc (.cells #[a, b, c] T)).cell? ((⟨w.heap.size, 0, none⟩ : Addr).add j) = some u := by
  intro j u hj
  match j, hj with
  | 0, hj => simp at hj; subst hj; simp [Addr.add, go_sem]
  | 1, hj => simp at hj; subst hj; simp [Addr.add, go_sem]
  | 2, hj => simp at hj; subst hj; simp [Addr.add, go_sem]

def LivePost (w : World) (A : AM) (e : Ending) (w' : World) : Prop :=
  ∃ v, e = .returned v ∧ w'.ownsRow w.heap.size 73 3 v A.blocks.length (rowV A.blocks) ∧ Below w.heap.size w w'

def LiveI (w1 wr : World) (A : AM) (k : Nat) (v : Value) : Prop :=
  Below w1.heap.size w1 wr ∧ wr.ownsRow w1.heap.size 73 3 v k (rowV (A.blocks.take k))

set_option maxRecDepth 100000 in
set_option maxHeartbeats 4000000 in
theorem live_any {w : World} {m : Nat} {A : AM} {F : Nat → Prop} (h : Rep w m A F) (hI : Inv A) :
    Calls Tryz.prog 22 #[.pointer (some ⟨m, 0, none⟩)] w (LivePost w A) := by
  obtain ⟨mb, clk, ents, g, p, f⟩ := h
  obtain ⟨i0, hi, hz0, hz1, hz2⟩ := info_parts info_block
  have c1 := g.cell1
  have hm := cell_lt c1
  have hmb := lt_of_block g.map
  have G := Lib.hid g
  have P := Lib.hid p
  have H := Lib.hid hI
  have hown := Lib.hid (rep_owns hI g p)
  clear f g p hI
  go_enter Tryz.func22, Tryz.ntmps22
  go_wp2_with (first
    | (go_at_call 40; refine (keys_any _ _).mono ?_; rintro e w0 ⟨rfl, rfl⟩)
    | (go_at_call 39; refine (sorted_any H.out P.out mb w.heap.size (by
          obtain ⟨es, clock, hb, Ft, hs, hD⟩ := hown.out
          exact ⟨es, clock, (Below.heap_alloc _ _ mb hmb).trans hb, Ft, hs, hD⟩) (by simp [go_sem])).mono ?_; rintro e w1 ⟨v1, rfl, hrow, hb1⟩; obtain ⟨pv, cap, rfl, hkeys⟩ := ownsRow_ints hrow; clear hrow))
  try go_frame
  have hbW : Below w.heap.size w w1 := (by repeat (first | exact Below.refl _ _ | assumption | refine Below.alloc ?_ (by first | omega | (simp <;> omega)) _ | refine Below.drew ?_ | refine Below.setCell ?_ (by first | omega | (simp <;> omega)) _ | refine Below.via (by assumption) (by first | omega | (simp <;> omega)) ?_))
  have hbWH := Lib.hid hbW
  have hk63 : (A.blocks.length : Int) < 9223372036854775807 := by have := H.out.count; have := H.out.b1; omega
  go_loopw [3, 13] (fun v i wr => ∃ k : Nat, k ≤ A.blocks.length ∧ i = .int .i64 k ∧ LiveI w1 wr A k v) (fun _ i _ => A.blocks.length - (intOf i).toNat)
  case atStart => exact ⟨0, Nat.zero_le _, rfl, Below.refl _ _, World.ownsRow_nil _ _ _ _⟩
  case round =>
    obtain ⟨k, hk, rfl, hbl, hrow⟩ := hrel
    by_cases hlt : k < A.blocks.length
    · obtain ⟨g, rfl, hg, hcell⟩ := hkeys k hlt
      have hcell2 : wr.cell? ⟨g, k, none⟩ = some (.int .i64 A.blocks[k].at_) := by
        refine cell_past hbl hg (hcell.trans ?_)
        simp [hlt]
      have hbwr : Below w.heap.size w wr := hbW.trans (hbl.mono hbW.size)
      have c1' : wr.cell? ⟨m, 1, none⟩ = some (.map (some mb)) := cell_past hbwr hm c1
      have hbm : A.blocks[k] ∈ A.blocks := List.getElem_mem hlt
      obtain ⟨x, hx, hfind, hxb⟩ := find_some H.out P.out (findB_mem H.out hbm)
      have hlk := run_lookup_ents (w := wr) (mb := mb) (clk := clk) (ents := ents) ((hbwr.block _ hmb).trans G.out.map) A.blocks[k].at_
      rw [hfind] at hlk
      simp only [ptrOf] at hlk
      obtain ⟨e1, _, _⟩ := G.out.each x hx
      have e1' := (hbwr.block _ (lt_of_block e1)).trans e1
      rw [hxb] at e1'
      have y0 : wr.cell? ⟨x.blk, 0, none⟩ = some (.int .i64 A.blocks[k].at_) := by rw [cell_of_block e1']; rfl
      have y1 : wr.cell? ⟨x.blk, 1, none⟩ = some (.int .i64 A.blocks[k].n) := by rw [cell_of_block e1']; rfl
      have y2 : wr.cell? ⟨x.blk, 2, none⟩ = some (.int .i64 A.blocks[k].size) := by rw [cell_of_block e1']; rfl
      have htake : rowV (A.blocks.take (k + 1)) = rowV (A.blocks.take k) ++ [.int .i64 A.blocks[k].at_, .int .i64 A.blocks[k].n, .int .i64 A.blocks[k].size] := by
        rw [List.take_succ_eq_append_getElem hlt, rowV_append]; rfl
      have HT := Lib.hid htake
      clear htake e1 e1' hfind hxb hbm hcell hx
      generalize A.blocks[k] = b at *
      have hbl' := Lib.hid hbl
      have hbw := Lib.hid hbwr
      clear hbl hbwr hbW
      have hltr : w1.heap.size ≤ wr.heap.size := hbl'.out.size
      have hi1 : (0 : Int) ≤ k ∧ (k : Int) < A.blocks.length := by omega
      have hkw : IntKind.i64.wrap ((k : Int) + 1) = (k : Int) + 1 := by rw [IntKind.wrap_i64]; omega
      go_wp2_with (at_builtin; refine wpList_append_own _ rfl _ _ 70 rfl w1.heap.size 73 i0 (.agg #[.int .i64 0, .int .i64 0, .int .i64 0]) 3 24 Tryz.underlying70 hi hz0 hz1 hz2 rfl (by decide) _ _ _ rfl (hrow.alloc _) ⟨wr.heap.size, 0, none⟩ 1 1 [.int .i64 b.at_, .int .i64 b.n, .int .i64 b.size] rfl rfl (cell_three_new _ _ _ _ _) (fun u hu => by simp at hu; rcases hu with rfl | rfl | rfl <;> rfl) (by unfold maxLen; omega) (by have := H.out.count; have := H.out.b1; omega) (by simp; omega) ?_; intro v' w3 hown' hgrow3 hnil3)
      have hB3 : Below w1.heap.size w1 w3 := Below.grown (hbl'.out.alloc hltr _) hgrow3 (by simp; omega) (fun j e => (hrow.lt j e).1)
      go_wp2
      go_roundw
      case rel => exact ⟨k + 1, by omega, by go_num, hB3, by rw [HT.out]; exact hown'⟩
      case measure => simp [intOf]; omega
    · obtain rfl : k = A.blocks.length := by omega
      have hbx : Below w.heap.size w wr := hbWH.out.trans (hbl.mono hbWH.out.size)
      have hend := Lib.hid hrow
      clear hrow hkeys
      go_wp2
      go_ret
      have h1 := hend.out
      rw [List.take_length] at h1
      exact ⟨_, rfl, ownsRow_base_a h1 hbWH.out.size, hbx⟩

end Go.Proofs.YtgcnbiccekaffaaGreat
