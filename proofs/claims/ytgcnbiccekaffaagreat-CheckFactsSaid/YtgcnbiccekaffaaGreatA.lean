/- The leaf functions of package check: what each computes. -/
import Derived.Test.YtgcnbiccekaffaaGreatBase
namespace Go.Proofs.YtgcnbiccekaffaaGreat
open Go.RowKit

def onlyB (e1 a1 n1 c1 e2 a2 n2 c2 : Int) : Bool := e1 == e2 && (a1 == a2 && (n1 == n2 && c1 == c2))

set_option maxHeartbeats 400000 in
theorem only_any (e1 a1 n1 c1 e2 a2 n2 c2 : Int) (d1 d2 : Value) (w : World) :
    Calls Tryz.prog 43 #[.agg #[.int .i64 e1, .int .i64 a1, .int .i64 n1, .int .i64 c1, d1], .agg #[.int .i64 e2, .int .i64 a2, .int .i64 n2, .int .i64 c2, d2]] w
      fun e w' => e = .returned (.bool (onlyB e1 a1 n1 c1 e2 a2 n2 c2)) ∧ Below w.heap.size w w' := by
  go_enter Tryz.func43, Tryz.ntmps43
  go_wp2
  all_goals (go_ret; exact ⟨by simp [onlyB, *], (by repeat (first | exact Below.refl _ _ | assumption | refine Below.alloc ?_ (by first | omega | (simp <;> omega)) _ | refine Below.drew ?_ | refine Below.setCell ?_ (by first | omega | (simp <;> omega)) _ | refine Below.via (by assumption) (by first | omega | (simp <;> omega)) ?_))⟩)

def rightB (k : Int) (l : Nat) : Bool := decide (0 ≤ k ∧ k ≤ 8 ∧ l ≤ 4096)

set_option maxHeartbeats 400000 in
theorem right_any (k a b at_ fr n : Int) (p : Option Addr) (l c : Nat) (w : World) :
    Calls Tryz.prog 25 #[.agg #[.int .i64 k, .int .u64 a, .int .u64 b, .int .i64 at_, .int .i64 fr, .int .i64 n, .slice p l c]] w
      fun e w' => e = .returned (.bool (rightB k l)) ∧ Below w.heap.size w w' := by
  go_enter Tryz.func25, Tryz.ntmps25
  go_wp2
  all_goals (go_ret; exact ⟨by simp [rightB, *] <;> omega, (by repeat (first | exact Below.refl _ _ | assumption | refine Below.alloc ?_ (by first | omega | (simp <;> omega)) _ | refine Below.drew ?_ | refine Below.setCell ?_ (by first | omega | (simp <;> omega)) _ | refine Below.via (by assumption) (by first | omega | (simp <;> omega)) ?_))⟩)

def bareB (e a n c x : Int) (l : Nat) : Bool := onlyB e a n c x 0 0 0 && (l : Int) == 0

set_option maxHeartbeats 400000 in
theorem bare_any (e a n c x : Int) (p : Option Addr) (l k : Nat) (w : World) :
    Calls Tryz.prog 44 #[.agg #[.int .i64 e, .int .i64 a, .int .i64 n, .int .i64 c, .slice p l k], .int .i64 x] w
      fun r w' => r = .returned (.bool (bareB e a n c x l)) ∧ Below w.heap.size w w' := by
  go_enter Tryz.func44, Tryz.ntmps44
  go_wp2_with (go_at_call 43; refine (only_any _ _ _ _ _ _ _ _ _ _ _).mono ?_; rintro e w1 ⟨rfl, hb⟩; obtain ⟨hc, hf⟩ := bcell hb; have hz := hb.size; (try simp at hz))
  all_goals (go_ret; exact ⟨by simp [bareB, *], (by repeat (first | exact Below.refl _ _ | assumption | refine Below.alloc ?_ (by first | omega | (simp <;> omega)) _ | refine Below.drew ?_ | refine Below.setCell ?_ (by first | omega | (simp <;> omega)) _ | refine Below.via (by assumption) (by first | omega | (simp <;> omega)) ?_))⟩)

theorem end_any (a n s : Int) (w : World) :
    Calls Tryz.prog 108 #[.agg #[.int .i64 a, .int .i64 n, .int .i64 s]] w
      fun e w' => e = .returned (.int .i64 (wrap64 (a + n))) ∧ Below w.heap.size w w' := by
  go_enter Tryz.func108, Tryz.ntmps108
  go_wp2
  go_ret
  exact ⟨rfl, (by repeat (first | exact Below.refl _ _ | assumption | refine Below.alloc ?_ (by first | omega | (simp <;> omega)) _ | refine Below.drew ?_ | refine Below.setCell ?_ (by first | omega | (simp <;> omega)) _ | refine Below.via (by assumption) (by first | omega | (simp <;> omega)) ?_))⟩

def withinB (from_ n N : Int) : Bool := decide (0 ≤ from_ ∧ 0 ≤ n ∧ from_ ≤ N ∧ n ≤ N - from_)

set_option maxHeartbeats 400000 in
theorem within_any (b : Nat) (from_ n N : Int) (w : World) (hN : 0 ≤ N) (hN2 : N ≤ 1099511627776) (c1 : w.cell? ⟨b, 1, none⟩ = some (.int .i64 N)) :
    Calls Tryz.prog 71 #[.pointer (some ⟨b, 0, none⟩), .int .i64 from_, .int .i64 n] w
      fun e w' => e = .returned (.bool (withinB from_ n N)) ∧ w = w' := by
  go_enter Tryz.func71, Tryz.ntmps71
  go_wp2
  all_goals (go_ret; exact ⟨by simp [withinB, *] <;> omega, rfl⟩)

def ofF (a : Int) : Int × Int := if 1099511627776 < a then (0, 14) else (a, 0)

theorem of_any (a : Int) (w : World) (h0 : 0 ≤ a) :
    Calls Tryz.prog 90 #[.int .u64 a] w
      fun e w' => e = .returned (.tuple #[.int .i64 (ofF a).1, .int .i64 (ofF a).2]) ∧ w = w' := by
  go_enter Tryz.func90, Tryz.ntmps90
  go_wp2
  all_goals (go_ret2; exact ⟨by simp [ofF] <;> split <;> simp_all <;> omega, rfl⟩)

end Go.Proofs.YtgcnbiccekaffaaGreat
