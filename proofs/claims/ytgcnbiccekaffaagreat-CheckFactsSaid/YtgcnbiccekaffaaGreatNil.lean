/- slices.SortFunc at the nil slice. -/
import Derived.Test.YtgcnbiccekaffaaGreatV
namespace Go.Proofs.YtgcnbiccekaffaaGreat
open Go.RowKit

theorem ins_nil (p : Option Addr) (c : Nat) (f : Value) (w : World) : Calls Tryz.prog 76 #[.slice p 0 c, .int .i64 0, .int .i64 0, f] w fun e w' => e = .returned (.tuple #[]) ∧ w = w' := by
  go_enter Tryz.func76, Tryz.ntmps76
  go_wp2
  refine wp_loop_rounds 1 ?_
  rw [rounds_succ]
  go_wp2
  go_end0
  exact ⟨rfl, rfl⟩

theorem pdq_nil (p : Option Addr) (c : Nat) (f : Value) (l : Int) (w : World) : Calls Tryz.prog 58 #[.slice p 0 c, .int .i64 0, .int .i64 0, .int .i64 l, f] w fun e w' => e = .returned (.tuple #[]) ∧ w = w' := by
  go_enter Tryz.func58, Tryz.ntmps58
  go_wp2
  refine wp_loop_rounds 1 ?_
  rw [rounds_succ]
  go_wp2_with (go_at_call 76; refine (ins_nil _ _ _ _).mono ?_; rintro e w1 ⟨rfl, rfl⟩)
  exact bodyPost_ret (results_none rfl _ _ _) rfl ⟨rfl, rfl⟩

theorem sort_nil (p : Option Addr) (c : Nat) (f : Value) (w : World) : Calls Tryz.prog 36 #[.slice p 0 c, f] w fun e w' => e = .returned (.tuple #[]) ∧ w = w' := by
  go_enter Tryz.func36, Tryz.ntmps36
  go_wp2_with (first
    | (go_at_call 59; refine (Go.Proofs.Tryz.bits_Len 0 _ (by omega) (by omega)).mono ?_; rintro e w1 ⟨rfl, rfl⟩)
    | (go_at_call 58; refine (pdq_nil _ _ _ _ _).mono ?_; rintro e w1 ⟨rfl, rfl⟩))
  go_end0
  exact ⟨rfl, rfl⟩

/-- The sort at a row of the call's own, nil too. -/
theorem sort_row {W : World} {base : Nat} (es : List EvM) (pv : Option Addr) (bl ce : Nat) (hbl : bl < base) (hbase : base ≤ W.heap.size) (hbox : W.cell? ⟨bl, 0, none⟩ = some (.slice pv es.length ce))
    (hge : ∀ g o, pv = some ⟨g, o, none⟩ → g < base) (hev : EvsAt W pv es) (v : Value) (n : Nat) (xs : List Nat) (hn : n = xs.length) (h62 : n < 4611686018427387904) (hx : ∀ i ∈ xs, i < es.length)
    (hrow : W.ownsRow base 3 1 v n (xs.map natV)) :
    Calls Tryz.prog 36 #[v, .func (.func 37) #[] #[.pointer (some ⟨bl, 0, none⟩)]] W fun e w' => e = .returned (.tuple #[]) ∧
      ∃ ys : List Nat, ys.Perm xs ∧ ys.Pairwise (fun i j => tookAt es i ≤ tookAt es j) ∧ w'.ownsRow base 3 1 v n (ys.map natV) ∧ Below base W w' := by
  rcases hrow.2 with ⟨rfl, h0⟩ | ⟨g, cap, cur, rfl, hb, hg, _⟩
  · subst h0
    obtain rfl : xs = [] := List.eq_nil_of_length_eq_zero hn.symm
    refine (sort_nil _ _ _ W).mono ?_
    rintro e w' ⟨rfl, rfl⟩
    exact ⟨rfl, [], List.Perm.refl _, List.Pairwise.nil, hrow, Below.refl _ _⟩
  · by_cases hpos : 0 < n
    · have hi : xs.head (by intro e; subst e; simp at hn; omega) < es.length := hx _ (List.head_mem _)
      obtain ⟨ge, oe, rfl, _⟩ := hev _ hi
      refine (sort_any es bl ge oe ce hbl (hge _ _ rfl) hbase hbox hev g n cap xs hn hpos h62 hx hrow).mono ?_
      rintro e w' ⟨rfl, ys, h1, h2, h3, h4⟩
      exact ⟨rfl, ys, h1, h2, h3, (Below.refl base W).grown h4 hbase (fun j e => by cases e; exact hb)⟩
    · obtain rfl : n = 0 := by omega
      obtain rfl : xs = [] := List.eq_nil_of_length_eq_zero hn.symm
      refine (sort_nil _ _ _ W).mono ?_
      rintro e w' ⟨rfl, rfl⟩
      exact ⟨rfl, [], List.Perm.refl _, List.Pairwise.nil, hrow, Below.refl _ _⟩

end Go.Proofs.YtgcnbiccekaffaaGreat
