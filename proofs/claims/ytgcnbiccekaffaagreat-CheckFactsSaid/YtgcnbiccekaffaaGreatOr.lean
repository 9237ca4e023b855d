/- The reference's Order. -/
import Derived.Test.YtgcnbiccekaffaaGreatOg
namespace Go.Proofs.YtgcnbiccekaffaaGreat
open Go.RowKit Go.ChangeMaps

theorem wpList_want {P : Program} {ops : Array Oper} {rest : List Oper} {o : Oper} {a : Act} {w : World} {Q : Exit → Act → World → Prop} (hw : Region.wanted o (yielded ops a.tmps) = true)
    (h : ∀ K : Act → World → Prop, (∀ a w, wpList P ops Q rest a w → K a w) → o.wp P a w K Q) : wpList P ops Q (o :: rest) a w := by
  unfold wpList
  rw [if_pos hw]
  exact .inl (h _ (fun _ _ h => h))

theorem wpList_load_row_g {P : Program} {ops : Array Oper} {rest : List Oper} {o : Oper} {a : Act} {w : World} {Q : Exit → Act → World → Prop} (hw : Region.wanted o (yielded ops a.tmps) = true) (ty : TypeId) (x : Operand) (ho : o.op = .load ty x)
    (g : Nat) (hx : a.eval x = .pointer (some ⟨g, 0, none⟩)) (t : TypeId) (cs : Array Value) (fr : Nat × Nat) (d : TypeDesc) (hg : w.heap[g]? = some (.cells cs t fr))
    (hu : P.underlying ty = some d) (hd : (match d with | .struct _ | .array _ _ => true | _ => false) = true) (hi : (P.info? ty).map (·.size) = some cs.size)
    (h : wpList P ops Q rest (a.put o.dst (.agg cs)) w) : wpList P ops Q (o :: rest) a w :=
  wpList_want hw fun _ hK => wp_load_row ty x ho g hx t cs fr d hg hu hd hi (hK _ _ h)

def befE (a b : EvM) : Bool := a.ended != 0 && decide (a.ended < b.asked)
def clashE (x y : EvM) : Bool := y.took == x.took || (y.wk == x.wk && (!befE x y && !befE y x))

theorem rev_size : (Tryz.prog.info? 96).map (·.size) = some 16 := by kernel_rfl

set_option maxRecDepth 100000 in
set_option maxHeartbeats 1000000 in
theorem before_core (v0 v1 v2 v3 v4 v5 v6 v7 v8 v9 v10 v11 v12 u0 u1 u2 u3 u4 u5 u6 u7 u8 u9 u10 u11 u12 : Value) (a1 t1 e1 a2 t2 e2 : Int) (w : World) :
    Calls Tryz.prog 57 #[.agg #[v0, v1, v2, v3, v4, v5, v6, v7, v8, v9, v10, v11, v12, .int .i64 a1, .int .i64 t1, .int .i64 e1], .agg #[u0, u1, u2, u3, u4, u5, u6, u7, u8, u9, u10, u11, u12, .int .i64 a2, .int .i64 t2, .int .i64 e2]] w (fun e w' => e = .returned (.bool (e1 != 0 && decide (e1 < a2))) ∧ Below w.heap.size w w') := by
  have key : ∀ p q : Bool, (e1 != 0) = p → decide (e1 < a2) = q → Calls Tryz.prog 57 #[.agg #[v0, v1, v2, v3, v4, v5, v6, v7, v8, v9, v10, v11, v12, .int .i64 a1, .int .i64 t1, .int .i64 e1], .agg #[u0, u1, u2, u3, u4, u5, u6, u7, u8, u9, u10, u11, u12, .int .i64 a2, .int .i64 t2, .int .i64 e2]] w (fun e w' => e = .returned (.bool (p && q)) ∧ Below w.heap.size w w') := by
    intro p q hp hq
    cases p <;> cases q
    all_goals
      first | have hq' := of_decide_eq_true hq | have hq' := of_decide_eq_false hq
      clear hq
      go_enter Tryz.func57, Tryz.ntmps57
      go_wp2
      go_ret
      exact ⟨rfl, (by repeat (first | exact Below.refl _ _ | assumption | refine Below.alloc ?_ (by first | omega | (simp <;> omega)) _ | refine Below.drew ?_ | refine Below.setCell ?_ (by first | omega | (simp <;> omega)) _ | refine Below.via (by assumption) (by first | omega | (simp <;> omega)) ?_))⟩
  exact key _ _ rfl rfl

theorem before_any (w : World) (a b : EvM) :
    Calls Tryz.prog 57 #[.agg (evV a).toArray, .agg (evV b).toArray] w (fun e w' => e = .returned (.bool (befE a b)) ∧ Below w.heap.size w w') :=
  before_core _ _ _ _ _ _ _ _ _ _ _ _ _ _ _ _ _ _ _ _ _ _ _ _ _ _ a.asked a.took a.ended b.asked b.took b.ended w

end Go.Proofs.YtgcnbiccekaffaaGreat
