/- blocks, SameBlocks, SameInts. -/
import Derived.Test.YtgcnbiccekaffaaGreatR
import Derived.Deep.RegionLaw
namespace Go.Proofs.YtgcnbiccekaffaaGreat
open Go.RowKit Go.ChangeMaps

/-- append on a row of the call's own, as one step of a region that draws. -/
theorem step_append_own {P : Program} {ops : Array Oper} {o : Oper} {a : Act} {w : World} {K : Act → World → Prop} {Q : Exit → Act → World → Prop} {E : Prop} (hgd : o.guard = none) (s x : Operand) (t : TypeId)
    (ho : o.op = .call { callee := .builtin .append, args := #[s, x], argTypes := #[t, t] })
    (base : Nat) (e : TypeId) (i : TypeInfo) (z : Value) (size bytes : Nat) (ht : P.underlying t = some (.slice e)) (hi : P.info? e = some i) (hz : i.zero = some z)
    (hsize : i.size = size) (hby : i.bytes = bytes) (hzs : z.cells.size = size) (hsz : 0 < size)
    (v : Value) (n : Nat) (xs : List Value) (hs : a.eval s = v) (hown : w.ownsRow base e size v n xs)
    (ad : Addr) (m c : Nat) (news : List Value) (hx : a.eval x = .slice (some ad) m c) (hl : news.length = m * size) (hnews : ∀ j u, news[j]? = some u → w.cell? (ad.add j) = some u) (h1 : ∀ u ∈ news, u.oneCell' = true)
    (h63 : n + m ≤ maxLen) (hbytes : (n + m) * bytes ≤ 140737488355328) (hbase : base ≤ w.heap.size)
    (h : ∀ v' w', w'.ownsRow base e size v' (n + m) (xs ++ news) → w.grownBy w' v.ownBlock → (v' = .slice none 0 0 ↔ v = .slice none 0 0 ∧ m = 0) → K (a.put o.dst v') w') :
    if Region.wanted o (yielded ops a.tmps) = true then Oper.wp P o a w K Q else E := by
  have hw : Region.wanted o (yielded ops a.tmps) = true := by simp [Region.wanted, hgd]
  rw [if_pos hw]
  exact wp_append_own w s x t ho base e i z size bytes ht hi hz hsize hby hzs hsz v n xs hs hown ad m c news hx hl hnews h1 h63 hbytes hbase h

theorem info_rblock : (Tryz.prog.info? 54).map (fun i => (i.zero, i.size, i.bytes)) = some (some (.agg #[.int .i64 0, .int .i64 0, .int .i64 0]), 3, 24) := by kernel_rfl

/-- A row of blocks, as a slice. -/
theorem ownsRow_rows {w : World} {base : Nat} {e : TypeId} {v : Value} {l : List Blk} (h : w.ownsRow base e 3 v l.length (rowV l)) :
    ∃ pv cap, v = .slice pv l.length cap ∧ (0 < l.length → ∃ g cur, pv = some ⟨g, 0, none⟩ ∧ base ≤ g ∧ w.heap[g]? = some (.cells cur e (0, 0)) ∧
      ∀ i (hi : i < l.length), cur[i * 3]? = some (.int .i64 l[i].at_) ∧ cur[i * 3 + 1]? = some (.int .i64 l[i].n) ∧ cur[i * 3 + 2]? = some (.int .i64 l[i].size)) := by
  rcases h.2 with ⟨rfl, h0⟩ | ⟨g, cap, cur, rfl, hb, hg, h1, h2, h3, h4⟩
  · exact ⟨none, 0, by rw [h0], fun hi => by omega⟩
  · refine ⟨_, cap, rfl, fun _ => ⟨g, cur, rfl, hb, hg, fun i hi => ?_⟩⟩
    have key : ∀ j, j < 3 → cur[i * 3 + j]? = (blkV l[i])[j]? := by
      intro j hj
      rw [← rowV_get l i j hi hj, ← h4, List.getElem?_take, if_pos (by omega), Array.getElem?_toList, Nat.mul_comm]
    exact ⟨key 0 (by omega), key 1 (by omega), key 2 (by omega)⟩

def BlocksPost (w : World) (A : AM) (e : Ending) (w' : World) : Prop :=
  ∃ v, e = .returned v ∧ w'.ownsRow w.heap.size 54 3 v A.blocks.length (rowV A.blocks) ∧ Below w.heap.size w w'

/-- Between two rounds of 'blocks': w when it was called, w1 behind Live. -/
def BlocksI (w w1 wr : World) (A : AM) (pv : Option Addr) (k : Nat) (v : Value) : Prop :=
  Below w.heap.size w wr ∧ wr.ownsRow w.heap.size 54 3 v k (rowV (A.blocks.take k)) ∧ ∀ g o, pv = some ⟨g, o, none⟩ → wr.heap[g]? = w1.heap[g]?

/-- A row of blocks of another type is none of the growing row. -/
theorem row_ne {w : World} {base n g : Nat} {e e' : TypeId} {size : Nat} {v : Value} {xs : List Value} {cur : Array Value} (h : w.ownsRow base e size v n xs) (hg : w.heap[g]? = some (.cells cur e' (0, 0))) (hne : e ≠ e') : some g ≠ v.ownBlock := by
  rcases h.2 with ⟨rfl, h0⟩ | ⟨g2, cap, cur2, rfl, hb, hg2, _⟩
  · simp [Value.ownBlock]
  · intro e1
    have e2 : g = g2 := Option.some.inj e1
    subst e2
    rw [hg] at hg2
    simp at hg2
    exact hne hg2.2.symm

set_option maxRecDepth 100000 in
set_option maxHeartbeats 4000000 in
theorem blocks_any {w : World} {m : Nat} {A : AM} {F : Nat → Prop} (h : Rep w m A F) (hI : Inv A) :
    Calls Tryz.prog 15 #[.pointer (some ⟨m, 0, none⟩)] w (BlocksPost w A) := by
  obtain ⟨i0, hi, hz0, hz1, hz2⟩ := info_parts info_rblock
  have hlive := Lib.hid (fun o => live_any (w := w.alloc o) (h.below ((Below.refl _ w).alloc (Nat.le_refl _) o)) hI)
  have hk63 : (A.blocks.length : Int) < 9223372036854775807 := by have := hI.count; have := hI.b1; omega
  have hk31 : A.blocks.length ≤ 1048576 := by have := hI.count; have := hI.b1; omega
  clear h hI
  go_enter Tryz.func15, Tryz.ntmps15
  go_wp2_with (go_at_call 22; refine (hlive.out _).mono ?_; rintro e w1 ⟨v1, rfl, hrow, hb1⟩; obtain ⟨pv, cap, rfl, hl⟩ := ownsRow_rows hrow; clear hrow)
  have hbW : Below w.heap.size w w1 := (by repeat (first | exact Below.refl _ _ | assumption | refine Below.alloc ?_ (by first | omega | (simp <;> omega)) _ | refine Below.drew ?_ | refine Below.setCell ?_ (by first | omega | (simp <;> omega)) _ | refine Below.via (by assumption) (by first | omega | (simp <;> omega)) ?_))
  have hz1' : w.heap.size + 1 ≤ w1.heap.size := by have := hb1.size; simpa using this
  have hmade : w1.ownsRow w.heap.size 54 3 (.slice (some ⟨w.heap.size, 0, none⟩) 0 0) 0 [] := by
    have h0 := World.ownsRow_made (base := w.heap.size) (e := 54) (size := 3) w #[] 0 (Nat.le_refl _) (Nat.zero_le _) rfl
    rcases h0.2 with ⟨h1, _⟩ | ⟨g, cap, cur, h1, h2, h3, h4⟩
    · cases h1
    · refine ⟨h0.1, .inr ⟨g, cap, cur, h1, h2, ?_, h4⟩⟩
      rw [hb1.block _ (lt_of_block h3)]; exact h3
  go_loopw [3, 5] (fun v i wr => ∃ k : Nat, k ≤ A.blocks.length ∧ i = .int .i64 k ∧ BlocksI w w1 wr A pv k v) (fun _ i _ => A.blocks.length - (intOf i).toNat)
  case atStart => exact ⟨0, Nat.zero_le _, rfl, hbW, hmade, fun _ _ _ => rfl⟩
  case round =>
    obtain ⟨k, hk, rfl, hbl, hrow, hsame⟩ := hrel
    by_cases hlt : k < A.blocks.length
    · obtain ⟨g, cur, rfl, hg, hcur, hget⟩ := hl (by omega)
      obtain ⟨q0, q1, q2⟩ := hget k hlt
      have hgr : wr.heap[g]? = some (.cells cur 73 (0, 0)) := (hsame _ _ rfl).trans hcur
      have y0 : wr.cell? ⟨g, k * 3, none⟩ = some (.int .i64 A.blocks[k].at_) := by rw [cell_of_block hgr]; exact q0
      have y1 : wr.cell? ⟨g, k * 3 + 1, none⟩ = some (.int .i64 A.blocks[k].n) := by rw [cell_of_block hgr]; exact q1
      have y2 : wr.cell? ⟨g, k * 3 + 2, none⟩ = some (.int .i64 A.blocks[k].size) := by rw [cell_of_block hgr]; exact q2
      have htake : rowV (A.blocks.take (k + 1)) = rowV (A.blocks.take k) ++ [.int .i64 A.blocks[k].at_, .int .i64 A.blocks[k].n, .int .i64 A.blocks[k].size] := by
        rw [List.take_succ_eq_append_getElem hlt, rowV_append]; rfl
      have HT := Lib.hid htake
      have HGR := Lib.hid hgr
      have HS := Lib.hid hsame
      clear htake hgr hsame hget hl q0 q1 q2 hcur
      generalize A.blocks[k] = b at *
      have hi1 : (0 : Int) ≤ k ∧ (k : Int) < A.blocks.length := by omega
      have hkw : IntKind.i64.wrap ((k : Int) + 1) = (k : Int) + 1 := by rw [IntKind.wrap_i64]; omega
      have HB := Lib.hid hbl
      have hwr : w.heap.size ≤ wr.heap.size := hbl.size
      clear hbl
      go_wp2
      go_region_law ((refine step_append_own rfl _ _ 48 rfl w.heap.size 54 i0 (.agg #[.int .i64 0, .int .i64 0, .int .i64 0]) 3 24 Tryz.underlying48 hi hz0 hz1 hz2 rfl (by decide) _ _ _ rfl (hrow.drew.alloc _) ⟨wr.heap.size, 0, none⟩ 1 1 [.int .i64 b.at_, .int .i64 b.n, .int .i64 b.size] rfl rfl (cell_three_new _ _ _ _ _) (fun u hu => by simp at hu; rcases hu with rfl | rfl | rfl <;> rfl) (by unfold maxLen; omega) (by omega) (by simp; omega) ?_; intro v' w3 hown' hgrow3 hnil3))
      all_goals
        have hB3 : Below w.heap.size w w3 := Below.grown (HB.out.drew.alloc hwr _) hgrow3 (by simp; omega) (fun j e => (hrow.lt j e).1)
        have hne := row_ne hrow HGR.out (by decide)
        have hg3 : w3.heap[g]? = w1.heap[g]? := by
          have hgl := lt_of_block HGR.out
          rw [hgrow3.block g (by simp; omega) hne]
          exact (heap_alloc_old wr.drew _ hgl).trans (HS.out g 0 rfl)
        go_wp2
        go_roundw
        case rel => exact ⟨k + 1, by omega, by go_num, hB3, by rw [HT.out]; exact hown', fun g' o' e => by cases e; exact hg3⟩
        case measure => simp [intOf]; omega
    · obtain rfl : k = A.blocks.length := by omega
      have hend := Lib.hid hrow
      clear hrow hl
      go_wp2
      go_ret
      have h1 := hend.out
      rw [List.take_length] at h1
      exact ⟨_, rfl, h1, hbl⟩

end Go.Proofs.YtgcnbiccekaffaaGreat
