/- Known. -/
import Derived.Test.YtgcnbiccekaffaaGreatN
namespace Go.Proofs.YtgcnbiccekaffaaGreat
open Go.RowKit Go.ChangeMaps

def knownA (A : AM) (at_ k : Int) : Option Int :=
  match findB A at_ with
  | none => none
  | some b => if k < 0 ∨ (b.n : Int) ≤ k then none else b.cells.getD k.toNat none

set_option maxRecDepth 100000 in
set_option maxHeartbeats 4000000 in
theorem known_any {w : World} {m : Nat} {A : AM} {F : Nat → Prop} (h : Rep w m A F) (hI : Inv A) (at_ k : Int) :
    Calls Tryz.prog 16 #[.pointer (some ⟨m, 0, none⟩), .int .i64 at_, .int .i64 k] w
      (fun e w' => e = .returned (.tuple #[.int .u8 (cv (knownA A at_ k)), .bool (knownA A at_ k).isSome]) ∧ Below w.heap.size w w') := by
  obtain ⟨mb, clk, ents, g, p, f⟩ := h
  have c1 := g.cell1
  have hm := cell_lt c1
  have lookup := lookup_ext g (Below.refl _ _) at_ rfl
  cases hf : findB A at_ with
  | none =>
    have hfind := find_none p hf
    have hlk := run_lookup_ents g.map at_
    rw [hfind] at hlk
    simp only [ptrOf] at hlk
    have e : knownA A at_ k = none := by rw [knownA, hf]
    rw [e]
    clear g p f hfind hf e lookup
    go_enter Tryz.func16, Tryz.ntmps16
    go_wp2
    go_ret2
    exact ⟨rfl, Below.refl _ _⟩
  | some b =>
    obtain ⟨x, hx, hfind, rfl⟩ := find_some hI p hf
    have hlk := run_lookup_ents g.map at_
    rw [hfind] at hlk
    simp only [ptrOf] at hlk
    obtain ⟨e1, e2, rest, e3⟩ := g.each x hx
    have x1 : w.cell? ⟨x.blk, 1, none⟩ = some (.int .i64 x.b.n) := by rw [cell_of_block e1]; rfl
    have x3 : w.cell? ⟨x.blk, 3, none⟩ = some (.slice (some ⟨x.cb, 0, none⟩) x.b.n x.cap) := by rw [cell_of_block e1]; rfl
    have lc := lt_of_block e3
    by_cases hk0 : k < 0
    · have e : knownA A at_ k = none := by rw [knownA, hf]; exact if_pos (.inl hk0)
      rw [e]
      clear g p f hfind hf e lookup e1 e3 hx e2
      go_enter Tryz.func16, Tryz.ntmps16
      go_wp2
      go_ret2
      exact ⟨rfl, Below.refl _ _⟩
    · obtain ⟨kn, rfl⟩ := Int.eq_ofNat_of_zero_le (by omega : 0 ≤ k)
      by_cases hkn : (x.b.n : Int) ≤ kn
      · have e : knownA A at_ kn = none := by rw [knownA, hf]; exact if_pos (.inr hkn)
        rw [e]
        clear g p f hfind hf e lookup e1 e3 hx e2
        go_enter Tryz.func16, Tryz.ntmps16
        go_wp2
        go_ret2
        exact ⟨rfl, Below.refl _ _⟩
      · have e : knownA A at_ kn = x.b.cells.getD kn none := by rw [knownA, hf]; exact if_neg (by omega)
        rw [e]
        have g3 : w.cell? ⟨x.cb, kn * 2, none⟩ = some (.int .u8 (cv (x.b.cells.getD kn none))) := by
          rw [cell_of_block e3, List.getElem?_toArray, Nat.mul_comm, cellsV_get0 _ _ _ (by omega), List.getD_eq_getElem?_getD, List.getElem?_eq_getElem (by omega), Option.getD_some]
        have g4 : w.cell? ⟨x.cb, kn * 2 + 1, none⟩ = some (.bool (x.b.cells.getD kn none).isSome) := by
          rw [cell_of_block e3, List.getElem?_toArray, Nat.mul_comm, cellsV_get1 _ _ _ (by omega), List.getD_eq_getElem?_getD, List.getElem?_eq_getElem (by omega), Option.getD_some]
        have i3 : (0 : Int) ≤ kn ∧ (kn : Int) < (x.b.n : Int) := by omega
        clear g p f hfind hf e lookup e1 e3 hx e2
        generalize x.b.cells.getD kn none = u at *
        go_enter Tryz.func16, Tryz.ntmps16
        go_wp2
        (refine wp_region_quiet_ext (by kernel_rfl) (by kernel_rfl) ?_; (repeat (first | go_big_quiet_step ((fail)) | quiet_step ((fail)))); refine wpQuiet_nil ?_; intro w1 hw1; obtain hb := below_of_ext hw1; clear hw1; obtain ⟨hc, hf⟩ := bcell hb; have hz := hb.size; (try simp at hz))
        go_wp2
        go_ret2
        exact ⟨rfl, (by repeat (first | exact Below.refl _ _ | assumption | refine Below.alloc ?_ (by first | omega | (simp <;> omega)) _ | refine Below.drew ?_ | refine Below.setCell ?_ (by first | omega | (simp <;> omega)) _ | refine Below.via (by assumption) (by first | omega | (simp <;> omega)) ?_))⟩

end Go.Proofs.YtgcnbiccekaffaaGreat
