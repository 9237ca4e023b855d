/- OnesCount64, Align, Times, asked, timely, New. -/
import Derived.Test.YtgcnbiccekaffaaGreatA
namespace Go.Proofs.YtgcnbiccekaffaaGreat
open Go.RowKit

def ones1 (x : Int) : Int := IntKind.u64.wrap (bits BinOp.and IntKind.u64 (x / 2) 6148914691236517205 + bits BinOp.and IntKind.u64 x 6148914691236517205)
def ones2 (x : Int) : Int := IntKind.u64.wrap (bits BinOp.and IntKind.u64 (x / 4) 3689348814741910323 + bits BinOp.and IntKind.u64 x 3689348814741910323)
def ones3 (x : Int) : Int := bits BinOp.and IntKind.u64 (IntKind.u64.wrap (x / 16 + x)) 1085102592571150095
def ones4 (x : Int) : Int := IntKind.u64.wrap (x + x / 256)
def ones5 (x : Int) : Int := IntKind.u64.wrap (x + x / 65536)
def ones6 (x : Int) : Int := IntKind.u64.wrap (x + x / 4294967296)
def onesF (x : Int) : Int := bits BinOp.and IntKind.i64 (wrap64 (ones6 (ones5 (ones4 (ones3 (ones2 (ones1 x))))))) 127

set_option maxHeartbeats 400000 in
theorem ones_any (x : Int) (w : World) (_h0 : 0 ≤ x) (_h1 : x ≤ 4096) :
    Calls Tryz.prog 107 #[.int .u64 x] w fun e w' => e = .returned (.int .i64 (onesF x)) ∧ w = w' := by
  go_enter Tryz.func107, Tryz.ntmps107
  go_wp2
  go_ret
  exact ⟨rfl, rfl⟩

def max1 (a : Int) : Int := if a < 1 then 1 else a
def alignF (a : Int) : Int × Int := if 4096 < max1 a then (0, 11) else if onesF (max1 a) = 1 then (max1 a, 0) else (0, 11)

set_option maxHeartbeats 400000 in
theorem align_any (a : Int) (w : World) (h0 : 0 ≤ a) :
    Calls Tryz.prog 89 #[.int .u64 a] w fun e w' => e = .returned (.tuple #[.int .i64 (alignF a).1, .int .i64 (alignF a).2]) ∧ w = w' := by
  go_enter Tryz.func89, Tryz.ntmps89
  go_wp2_with (go_at_call 107; refine (ones_any _ _ (by omega) (by omega)).mono ?_; rintro e w1 ⟨rfl, rfl⟩)
  all_goals (go_ret2; refine ⟨?_, rfl⟩; simp only [alignF, max1]; (repeat' split) <;> simp_all <;> omega)

def timesF (a b : Int) : Int × Int := if a * b / 18446744073709551616 = 0 then ofF (a * b % 18446744073709551616) else (0, 14)

set_option maxHeartbeats 400000 in
theorem times_any (mul : ∀ (x y : Nat) (_ : x < 18446744073709551616) (_ : y < 18446744073709551616) (w : World),
    Calls Tryz.prog 106 #[.int .u64 x, .int .u64 y] w fun e w' => e = .returned (.tuple #[.int .u64 ((x * y / 18446744073709551616 : Nat) : Int), .int .u64 ((x * y % 18446744073709551616 : Nat) : Int)]) ∧ w' = w)
    (a b : Int) (w : World) (h0 : 0 ≤ a) (h1 : a < 18446744073709551616) (h2 : 0 ≤ b) (h3 : b < 18446744073709551616) :
    Calls Tryz.prog 88 #[.int .u64 a, .int .u64 b] w fun e w' => e = .returned (.tuple #[.int .i64 (timesF a b).1, .int .i64 (timesF a b).2]) ∧ w = w' := by
  obtain ⟨x, rfl⟩ := Int.eq_ofNat_of_zero_le h0
  obtain ⟨y, rfl⟩ := Int.eq_ofNat_of_zero_le h2
  have hm := mul x y (by omega) (by omega)
  clear mul h0 h1 h2 h3
  have e1 : (x : Int) * y / 18446744073709551616 = ((x * y / 18446744073709551616 : Nat) : Int) := by simp
  have e2 : (x : Int) * y % 18446744073709551616 = ((x * y % 18446744073709551616 : Nat) : Int) := by simp
  have ht : timesF x y = if ((x * y / 18446744073709551616 : Nat) : Int) = 0 then ofF ((x * y % 18446744073709551616 : Nat) : Int) else (0, 14) := by rw [timesF, e1, e2]
  rw [ht]; clear ht e1 e2
  generalize x * y / 18446744073709551616 = p at *
  generalize x * y % 18446744073709551616 = q at *
  have HM := Lib.hid hm; clear hm
  go_enter Tryz.func88, Tryz.ntmps88
  go_wp2_with (first | (go_at_call 106; refine (HM.out w).mono ?_; rintro e w1 ⟨rfl, rfl⟩) | (go_at_call 90; refine (of_any _ _ (by omega)).mono ?_; rintro e w1 ⟨rfl, rfl⟩))
  all_goals (go_ret2; refine ⟨?_, rfl⟩; simp_all)

def askedF (k a b : Int) : Int × Int × Int :=
  if (k == 1) = true then ((timesF a b).1, 1, (timesF a b).2)
  else if (k == 2) = true then (if ((alignF a).2 == 0) = true then ((ofF b).1, (alignF a).1, (ofF b).2) else (0, (alignF a).1, (alignF a).2))
  else ((ofF a).1, 1, (ofF a).2)

theorem asked_any (mul : ∀ (x y : Nat) (_ : x < 18446744073709551616) (_ : y < 18446744073709551616) (w : World),
    Calls Tryz.prog 106 #[.int .u64 x, .int .u64 y] w fun e w' => e = .returned (.tuple #[.int .u64 ((x * y / 18446744073709551616 : Nat) : Int), .int .u64 ((x * y % 18446744073709551616 : Nat) : Int)]) ∧ w' = w)
    (k a b at_ fr n : Int) (p : Option Addr) (l c : Nat) (w : World) (h0 : 0 ≤ a) (h1 : a < 18446744073709551616) (h2 : 0 ≤ b) (h3 : b < 18446744073709551616) :
    Calls Tryz.prog 64 #[.agg #[.int .i64 k, .int .u64 a, .int .u64 b, .int .i64 at_, .int .i64 fr, .int .i64 n, .slice p l c]] w
      fun e w' => e = .returned (.tuple #[.int .i64 (askedF k a b).1, .int .i64 (askedF k a b).2.1, .int .i64 (askedF k a b).2.2]) ∧ Below w.heap.size w w' := by
  have HM := Lib.hid mul; clear mul
  go_enter Tryz.func64, Tryz.ntmps64
  go_wp2_with (first
    | (go_at_call 88; refine (times_any HM.out _ _ _ h0 h1 h2 h3).mono ?_; rintro e w1 ⟨rfl, rfl⟩)
    | (go_at_call 90; refine (of_any _ _ (by omega)).mono ?_; rintro e w1 ⟨rfl, rfl⟩)
    | (go_at_call 89; refine (align_any _ _ (by omega)).mono ?_; rintro e w1 ⟨rfl, rfl⟩))
  all_goals (go_ret3; exact ⟨by simp [askedF, *], (by repeat (first | exact Below.refl _ _ | assumption | refine Below.alloc ?_ (by first | omega | (simp <;> omega)) _ | refine Below.drew ?_ | refine Below.setCell ?_ (by first | omega | (simp <;> omega)) _ | refine Below.via (by assumption) (by first | omega | (simp <;> omega)) ?_))⟩)

def timelyB (a t e : Int) : Bool := decide (1 ≤ a ∧ a < t ∧ (e = 0 ∨ t ≤ e))

set_option maxHeartbeats 400000 in
theorem timely_any (v0 v1 v2 v3 v4 v5 v6 v7 v8 v9 v10 v11 v12 : Value) (a t e : Int) (w : World) :
    Calls Tryz.prog 35 #[.agg #[v0, v1, v2, v3, v4, v5, v6, v7, v8, v9, v10, v11, v12, .int .i64 a, .int .i64 t, .int .i64 e]] w
      fun r w' => r = .returned (.bool (timelyB a t e)) ∧ Below w.heap.size w w' := by
  go_enter Tryz.func35, Tryz.ntmps35
  go_wp2
  all_goals (go_ret; exact ⟨by simp [timelyB, *] <;> omega, (by repeat (first | exact Below.refl _ _ | assumption | refine Below.alloc ?_ (by first | omega | (simp <;> omega)) _ | refine Below.drew ?_ | refine Below.setCell ?_ (by first | omega | (simp <;> omega)) _ | refine Below.via (by assumption) (by first | omega | (simp <;> omega)) ?_))⟩)

set_option maxHeartbeats 400000 in
theorem new_no (n : Int) (w : World) (h : n < 0 ∨ 1048576 < n) :
    Calls Tryz.prog 7 #[.int .i64 n] w fun e w' => e = .returned (.tuple #[.pointer none, .int .i64 11]) ∧ w = w' := by
  go_enter Tryz.func7, Tryz.ntmps7
  have hmm := @run_makeMap Tryz.prog
  go_wp2
  all_goals (go_ret2; exact ⟨rfl, rfl⟩)

set_option maxHeartbeats 400000 in
theorem new_yes (n : Int) (w : World) (h : 0 ≤ n) (h1 : n ≤ 1048576) :
    Calls Tryz.prog 7 #[.int .i64 n] w fun e w' => e = .returned (.tuple #[.pointer (some ⟨w.heap.size + 1, 0, none⟩), .int .i64 0]) ∧
      w' = (w.alloc (.map #[] 0)).alloc (.cells #[.int .i64 n, .map (some w.heap.size)] 76) := by
  go_enter Tryz.func7, Tryz.ntmps7
  have hmm := @run_makeMap Tryz.prog
  go_wp2
  all_goals (go_ret2; exact ⟨rfl, rfl⟩)

end Go.Proofs.YtgcnbiccekaffaaGreat
