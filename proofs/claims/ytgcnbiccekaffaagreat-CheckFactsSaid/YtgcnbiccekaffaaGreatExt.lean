/- Regions that draw their order and whose calls may lay new blocks: one walk of the text's order serves all. -/
import Derived.Test.YtgcnbiccekaffaaGreatRep
namespace Go.Proofs.YtgcnbiccekaffaaGreat
open Go.RowKit

/-- What was laid, and the count of draws. -/
structure Laid where
  objs : Array Obj
  drawn : Nat
instance : Nonempty Laid := ⟨⟨#[], 0⟩⟩

/-- w, and what was laid since. -/
def _root_.Go.World.ext (w : World) (X : Laid) : World := { w with heap := w.heap ++ X.objs, drawn := X.drawn }

theorem below_ext (w : World) (X : Laid) : Below w.heap.size w (w.ext X) := by
  refine ⟨rfl, rfl, rfl, by simp [World.ext], fun k hk => ?_⟩
  show (w.heap ++ X.objs)[k]? = _
  rw [Array.getElem?_append_left hk]

theorem ext_of_below {w w' : World} (h : Below w.heap.size w w') : ∃ X, w' = w.ext X := by
  refine ⟨⟨w'.heap.extract w.heap.size w'.heap.size, w'.drawn⟩, ?_⟩
  obtain ⟨hp, tp, dr, os, out⟩ := w'
  obtain ⟨h1, h2, h3, h4, h5⟩ := h
  simp only at h1 h2 h3 h4 h5
  subst h1 h2 h3
  simp only [World.ext, World.mk.injEq, and_true]
  apply Array.ext_getElem?
  intro i
  by_cases hi : i < w.heap.size
  · rw [Array.getElem?_append_left hi]; exact h5 i hi
  · rw [Array.getElem?_append_right (by omega)]
    simp only [Array.getElem?_extract]
    by_cases hj : i < hp.size
    · rw [if_pos (by omega), show w.heap.size + (i - w.heap.size) = i from by omega]
    · rw [if_neg (by omega)]; exact Array.getElem?_eq_none (by omega)

theorem below_of_ext {w w' : World} (h : ∃ X, w' = w.ext X) : Below w.heap.size w w' := by
  obtain ⟨X, rfl⟩ := h
  exact below_ext w X

theorem cell_lt' {w : World} {a : Addr} (h : (w.cell? a).isSome = true) : a.block < w.heap.size := by
  unfold World.cell? at h
  by_cases hb : a.block < w.heap.size
  · exact hb
  · simp [Array.getElem?_eq_none (by omega : w.heap.size ≤ a.block)] at h

@[go_sem] theorem cell?_ext (w : World) (X : Laid) (a : Addr) (h : (w.cell? a).isSome = true) : (w.ext X).cell? a = w.cell? a :=
  (below_ext w X).cell (cell_lt' h)
@[go_sem] theorem frozen?_ext (w : World) (X : Laid) (a : Addr) (h : (w.cell? a).isSome = true) : (w.ext X).frozen? a = w.frozen? a :=
  (below_ext w X).frozen (cell_lt' h)

theorem wp_region_quiet_ext {P : Program} {id : Nat} {Q : Exit → Act → World → Prop} {a : Act} {w : World} {l : List Oper} (hm : P.follows .mixedOrders = true) (hB : Region.lexB .any l.toArray = true)
    (h : wpQuiet P l.toArray (fun w' => ∃ X, w' = w.ext X) (fun a' => ∀ w', (∃ X, w' = w.ext X) → Q .normal a' w') l a) : (Code.region id l.toArray true).wp P Q a w :=
  wp_region_quiet (C := fun w' => ∃ X, w' = w.ext X) hm hB (ext_of_below (w := w) ((Below.refl _ w).drew)) (by simpa using h)

theorem Calls.ext_of {P : Program} {f : FuncId} {args : Array Value} {w : World} {X : Laid} {v : Value}
    (h : Calls P f args (w.ext X) fun e w' => e = .returned v ∧ Below (w.ext X).heap.size (w.ext X) w') : Calls P f args (w.ext X) fun e w' => e = .returned v ∧ ∃ Y, w' = w.ext Y :=
  h.mono fun _ _ ⟨he, hb⟩ => ⟨he, ext_of_below ((below_ext w X).trans (hb.mono (below_ext w X).size))⟩
theorem Calls.ext_same {P : Program} {f : FuncId} {args : Array Value} {w : World} {X : Laid} {v : Value}
    (h : Calls P f args (w.ext X) fun e w' => e = .returned v ∧ w.ext X = w') : Calls P f args (w.ext X) fun e w' => e = .returned v ∧ ∃ Y, w' = w.ext Y :=
  h.mono fun _ _ ⟨he, hb⟩ => ⟨he, X, hb.symm⟩

/-! ### the step of a range over the map, at the operation -/
section
variable {w : World} {ops : Array Oper} {rest : List Oper} {o : Oper} {a : Act} {Q : Exit → Act → World → Prop} {mb r : Nat} {left : List Ent}

theorem wpList_range_ents {clk : Nat} {ents : List Ent} (hg : o.guard = none) (m : Operand) (hop : o.op = Op.range 74 m) (hm : a.eval m = .map (some mb))
    (h : w.heap[mb]? = some (.map (ents.map entry).toArray clk)) (hb : (ents.map (·.born)).Nodup) (ho : ∀ x ∈ ents, x.born < clk)
    (hK : Iter (w.alloc (.mapIter (some mb) clk #[] clk)) w.heap.size mb ents → wpList Tryz.prog ops Q rest (a.put o.dst (.pointer (some ⟨w.heap.size, 0, none⟩))) (w.alloc (.mapIter (some mb) clk #[] clk))) :
    wpList Tryz.prog ops Q (o :: rest) a w := by
  refine wpList_plain hg fun K' hK' => ?_
  obtain ⟨hrun, hi⟩ := Iter.start h hb ho
  unfold Oper.wp
  simp [execOp, hop, hm, hrun, Result.andThen]
  exact hK' _ _ (hK hi)

theorem wpList_next_ents (hg : o.guard = none) (it : Operand) (hop : o.op = Op.next it false) (hit : a.eval it = .pointer (some ⟨r, 0, none⟩)) (h : Iter w r mb left)
    (hDone : left = [] → wpList Tryz.prog ops Q rest (a.put o.dst (.tuple #[.bool false])) w)
    (hMore : ∀ x left' w', left.Perm (x :: left') → Iter w' r mb left' → Turned (fun k => k = r) w w' → w'.heap.size = w.heap.size →
      (Instr.entry (.pointer (some ⟨r, 0, none⟩))).run Tryz.prog w' = .ok (.tuple #[.int .i64 x.b.at_, .pointer (some ⟨x.blk, 0, none⟩)]) w' →
      wpList Tryz.prog ops Q rest (a.put o.dst (.tuple #[.bool true, .int .i64 x.b.at_, .pointer (some ⟨x.blk, 0, none⟩)])) w') :
    wpList Tryz.prog ops Q (o :: rest) a w := by
  refine wpList_plain hg fun K' hK' => ?_
  unfold Oper.wp
  rcases h.step o.type with ⟨h0, hrun⟩ | ⟨x, left', w', hp, hrun, hi, ht, hs, hen⟩
  · simp [execOp, hop, hit, hrun, Result.andThen]
    exact hK' _ _ (hDone h0)
  · simp [execOp, hop, hit, hrun, Result.andThen]
    exact hK' _ _ (hMore x left' w' hp hi ht hs hen)
end

/-- How many entries are still to come, read off the world: for a loop's measure. -/
def leftN (w : World) (r mb : Nat) : Nat :=
  match w.heap[mb]?, w.heap[r]? with
  | some (.map es _), some (.mapIter _ _ seen _) => (leftOf es seen).size
  | _, _ => 0

theorem Iter.leftN {w : World} {r mb : Nat} {left : List Ent} (h : Iter w r mb left) : leftN w r mb = left.length := by
  obtain ⟨ents, clk, since, seen, c0, hm, hr, _, _, _, _, rfl⟩ := h
  simp only [Proofs.YtgcnbiccekaffaaGreat.leftN, hm, hr, leftOf]
  rw [← Array.length_toList, Array.toList_filter, List.filter_map, List.length_map]
  rfl

theorem Iter.same {w w' : World} {r mb : Nat} {left : List Ent} (h : Iter w r mb left) (h1 : w'.heap[mb]? = w.heap[mb]?) (h2 : w'.heap[r]? = w.heap[r]?) : Iter w' r mb left := by
  obtain ⟨ents, clk, since, seen, c0, hm, hr, rest⟩ := h
  exact ⟨ents, clk, since, seen, c0, h1.trans hm, h2.trans hr, rest⟩
theorem Iter.lt {w : World} {r mb : Nat} {left : List Ent} (h : Iter w r mb left) : r < w.heap.size ∧ mb < w.heap.size := by
  obtain ⟨ents, clk, since, seen, c0, hm, hr, rest⟩ := h
  exact ⟨lt_of_block hr, lt_of_block hm⟩
theorem Iter.below {w w' : World} {r mb : Nat} {left : List Ent} (h : Iter w r mb left) (hb : Below w.heap.size w w') : Iter w' r mb left :=
  h.same (hb.block _ h.lt.2) (hb.block _ h.lt.1)

end Go.Proofs.YtgcnbiccekaffaaGreat
