/- Events in memory; the comparison; what Order answers, as plain functions. -/
import Derived.Test.YtgcnbiccekaffaaGreatU
import Derived.BigQuiet
import Derived.Deep.Draws
namespace Go.Proofs.YtgcnbiccekaffaaGreat
open Go.RowKit Go.ChangeMaps

structure EvM where
  wk : Int
  o : OpA
  x : AnsA
  p1 : Option Addr
  q1 : Nat
  p2 : Option Addr
  q2 : Nat
  asked : Int
  took : Int
  ended : Int

def evV (e : EvM) : List Value :=
  [.int .i64 e.wk, .int .i64 e.o.k, .int .u64 e.o.a, .int .u64 e.o.b, .int .i64 e.o.at_, .int .i64 e.o.fr, .int .i64 e.o.n, .slice e.p1 e.o.data.length e.q1,
    .int .i64 e.x.err, .int .i64 e.x.at_, .int .i64 e.x.n, .int .i64 e.x.count, .slice e.p2 e.x.data.length e.q2, .int .i64 e.asked, .int .i64 e.took, .int .i64 e.ended]

/-- A row of events, read at a slice. -/
def EvsAt (w : World) (pv : Option Addr) (es : List EvM) : Prop :=
  ∀ i (h : i < es.length), ∃ g o, pv = some ⟨g, o, none⟩ ∧ ∀ j v, (evV es[i])[j]? = some v → w.cell? ⟨g, o + i * 16 + j, none⟩ = some v

theorem EvsAt.below {w W : World} {pv : Option Addr} {es : List EvM} (h : EvsAt w pv es) (hb : Below w.heap.size w W) : EvsAt W pv es := by
  intro i hi
  obtain ⟨g, o, e, hc⟩ := h i hi
  exact ⟨g, o, e, fun j v hv => cell_past hb (cell_lt (hc j v hv)) (hc j v hv)⟩

/-- The comparison, called with two places. -/
theorem order1_any {W : World} (bl g off : Nat) (n cap : Nat) (i j : Nat) (ti tj : Int) (hi : i < n) (hj : j < n) (hbox : W.cell? ⟨bl, 0, none⟩ = some (.slice (some ⟨g, off, none⟩) n cap))
    (h1 : W.cell? ⟨g, off + i * 16 + 14, none⟩ = some (.int .i64 ti)) (h2 : W.cell? ⟨g, off + j * 16 + 14, none⟩ = some (.int .i64 tj)) :
    Calls Tryz.prog 37 #[.int .i64 i, .int .i64 j, .pointer (some ⟨bl, 0, none⟩)] W fun e w' => e = .returned (.int .i64 (Lib.compareInt ti tj)) ∧ ∃ q, w' = W.drewN q := by
  have hi' : (0 : Int) ≤ i ∧ (i : Int) < n := by omega
  have hj' : (0 : Int) ≤ j ∧ (j : Int) < n := by omega
  go_enter Tryz.func37, Tryz.ntmps37
  go_wp2
  go_quiet ((go_at_call 38; refine (Go.Proofs.Tryz.cmp_Compare_int _ _ _).mono ?_; rintro e w' ⟨rfl, rfl⟩; exact ⟨rfl, _, rfl⟩))
  go_wp2
  go_ret
  exact ⟨rfl, _, rfl⟩

/-! ### the sort -/
open Go.Sort in
theorem sortWorld_grown {α : Type} [Inhabited α] (enc : α → Value) (w : World) (blk off m : Nat) (dk : Array α) (os : Array Obj) : w.grownBy (sortWorld enc w blk off m dk os) (some blk) := by
  refine ⟨rfl, rfl, rfl, by simp [sortWorld], fun k hk hne => ?_⟩
  unfold sortWorld
  rw [heap_grow_old _ _ (by simpa using hk)]
  have : blk ≠ k := fun e => hne (by rw [e])
  simp [putRow, mapBlock, Sort.ahead, Array.getElem?_modify, this]

open Go.Sort in
theorem heap_sortWorld {α : Type} [Inhabited α] (enc : α → Value) {w : World} {g n : Nat} {os : Array Obj} {cur : Array Value} {e : TypeId} {fr : Nat × Nat} (d : Array α) (hb : w.heap[g]? = some (.cells cur e fr)) :
    (sortWorld enc w g 0 n d os).heap[g]? = some (.cells (putCells enc 0 d cur) e fr) := by
  have hg : g < w.heap.size := (Array.getElem?_eq_some_iff.1 hb).1
  unfold sortWorld
  rw [heap_grow_old _ _ (by simpa using hg)]
  simp [putRow, mapBlock, Sort.ahead, Array.getElem?_modify, hb, onCells]

open Go.Sort in
theorem take_putCells_any {α : Type} [Inhabited α] (enc : α → Value) (cur : Array Value) (ts : List α) (h : ts.length ≤ cur.size) : (putCells enc 0 ts.toArray cur).toList.take ts.length = ts.map enc := by
  apply List.ext_getElem?
  intro j
  by_cases hj : j < ts.length
  · rw [List.getElem?_take_of_lt hj, Array.getElem?_toList]
    simp [putCells, hj, show j < cur.size by omega]
  · rw [List.getElem?_take_eq_none (by omega), List.getElem?_eq_none (by simp; omega)]

/-- A place, as a value. -/
def natV (i : Nat) : Value := .int .i64 (i : Int)

def tookAt (es : List EvM) (i : Nat) : Int := match es[i]? with | some e => e.took | none => 0

theorem took_cell {w : World} {g o n : Nat} {es : List EvM} (h : EvsAt w (some ⟨g, o, none⟩) es) (hn : n = es.length) {i : Nat} (hi : i < n) : w.cell? ⟨g, o + i * 16 + 14, none⟩ = some (.int .i64 (tookAt es i)) := by
  subst hn
  obtain ⟨g', o', e, hc⟩ := h i hi
  cases e
  refine hc 14 _ ?_
  simp [evV, tookAt, hi]

open Go.Sort Go.Lib in
/-- slices.SortFunc, at places of events. -/
theorem sort_any {W : World} {base : Nat} (es : List EvM) (bl ge oe ce : Nat) (hbl : bl < base) (hge : ge < base) (hbase : base ≤ W.heap.size) (hbox : W.cell? ⟨bl, 0, none⟩ = some (.slice (some ⟨ge, oe, none⟩) es.length ce))
    (hev : EvsAt W (some ⟨ge, oe, none⟩) es) (g n cap : Nat) (xs : List Nat) (hn : n = xs.length) (hpos : 0 < n) (h62 : n < 4611686018427387904) (hx : ∀ i ∈ xs, i < es.length)
    (hrow : W.ownsRow base 3 1 (.slice (some ⟨g, 0, none⟩) n cap) n (xs.map natV)) :
    Calls Tryz.prog 36 #[.slice (some ⟨g, 0, none⟩) n cap, .func (.func 37) #[] #[.pointer (some ⟨bl, 0, none⟩)]] W fun e w' => e = .returned (.tuple #[]) ∧
      ∃ ys : List Nat, ys.Perm xs ∧ ys.Pairwise (fun i j => tookAt es i ≤ tookAt es j) ∧ w'.ownsRow base 3 1 (.slice (some ⟨g, 0, none⟩) n cap) n (ys.map natV) ∧ W.grownBy w' (some g) := by
  rcases hrow.2 with ⟨h0, _⟩ | ⟨g2, cap2, cur, h0, hb, hg, r1, r2, r3, r4⟩
  · cases h0
  cases h0
  let α := { i : Nat // i < es.length }
  have hmem : xs ≠ [] := by intro e; subst e; simp at hn; omega
  haveI : Inhabited α := ⟨⟨xs.head hmem, hx _ (List.head_mem hmem)⟩⟩
  let enc : α → Value := fun x => natV x.1
  let cf : α → α → Int := fun x y => Lib.compareInt (tookAt es x.1) (tookAt es y.1)
  have hlt : ∀ x y : α, ltOf cf x y = decide (tookAt es x.1 < tookAt es y.1) := fun x y => by
    unfold ltOf
    show decide (Lib.compareInt _ _ < 0) = _
    unfold Lib.compareInt
    split
    · rename_i h; simp [h]
    · rename_i h
      split <;> simp [h]
  have hO : SWO (ltOf cf) := ⟨fun x => by rw [hlt]; simp, fun x y z h1 h2 => by rw [hlt, decide_eq_true_eq] at *; omega, fun x y z h1 h2 => by rw [hlt, decide_eq_false_iff_not] at *; omega⟩
  let d : List α := xs.attachWith _ hx
  have hdv : d.map Subtype.val = xs := by simp [d]
  have hdl : d.length = n := by rw [hn, ← hdv, List.length_map]
  have henc : d.map enc = xs.map natV := by rw [← hdv, List.map_map]; rfl
  have hH : Holds enc W g 0 d.toArray := by
    intro j hj
    have hj' : j < n := by simpa [hdl] using hj
    refine ⟨?_, by simp [World.frozen?, hg]⟩
    have h1 : cur.toList[j]? = (d.map enc)[j]? := by rw [henc, ← r4, List.getElem?_take, if_pos (by omega)]
    rw [Nat.zero_add, cell_of_block hg, ← Array.getElem?_toList, h1]
    simp [hdl, hj']
  have hgW := lt_of_block hg
  have hcmp : CmpLays1 Tryz.prog 37 #[.pointer (some ⟨bl, 0, none⟩)] enc cf g 0 d.toArray.size W := by
    intro m os dk _ x y
    have hgr := sortWorld_grown enc W g 0 m dk os
    have hbB : Below base W (sortWorld enc W g 0 m dk os) := (Below.refl base W).grown hgr hbase (fun j e => by cases e; exact hb)
    have hev' : ∀ i : α, (sortWorld enc W g 0 m dk os).cell? ⟨ge, oe + i.1 * 16 + 14, none⟩ = some (.int .i64 (tookAt es i.1)) := fun i => cell_past hbB hge (took_cell hev rfl i.2)
    exact (order1_any bl ge oe es.length ce x.1 y.1 _ _ x.2 y.2 (cell_past hbB hbl hbox) (hev' x) (hev' y)).mono fun e w' ⟨h1, q, h2⟩ => ⟨h1, q, #[], by rw [h2, grow_empty]⟩
  have hsz : d.toArray.size < 4611686018427387904 := by simpa [hdl] using h62
  have h := Go.Proofs.Tryz.slices_SortFunc enc (fun _ => rfl) cf hO 37 #[.pointer (some ⟨bl, 0, none⟩)] g 0 cap d.toArray W (enters_of Tryz.func37 (by kernel_rfl) rfl) hcmp hH hgW hsz
  have hds : d.toArray.size = n := by simp [hdl]
  rw [hds] at h
  refine h.mono ?_
  rintro e w' ⟨rfl, d', m, os, ⟨p1, p2, p3⟩, hsorted, rfl⟩
  have hd'n : d'.size = n := by rw [p1, hds]
  have hperm : d'.toList.Perm d := by
    have e1 : (d'.extract 0 n).toList = d'.toList := by simp [← hd'n]
    have e2 : (d.toArray.extract 0 n).toList = d := by simp [← hdl]
    rwa [e1, e2] at p3
  refine ⟨rfl, d'.toList.map Subtype.val, ?_, ?_, ?_, sortWorld_grown enc W g 0 m d' os⟩
  · have := hperm.map Subtype.val
    rwa [hdv] at this
  · rw [List.pairwise_map, List.pairwise_iff_getElem]
    intro i j hi hj hij
    have hi' : i < n := by simpa [hd'n] using hi
    have hj' : j < n := by simpa [hd'n] using hj
    have := hsorted i j (Nat.zero_le _) hij hj'
    rw [hlt, decide_eq_false_iff_not] at this
    rw [getElem!_pos d' i (by omega), getElem!_pos d' j (by omega)] at this
    simp only [Array.getElem_toList]
    omega
  · refine ⟨by simp [hd'n], .inr ⟨g, cap, _, rfl, hb, heap_sortWorld enc d' hg, r1, r2, by simp [putCells, r3], ?_⟩⟩
    have h1 := take_putCells_any enc cur d'.toList (by simp; omega)
    simp only [Array.toArray_toList, Array.length_toList, hd'n] at h1
    rw [Nat.mul_one, h1, List.map_map]
    rfl

end Go.Proofs.YtgcnbiccekaffaaGreat
