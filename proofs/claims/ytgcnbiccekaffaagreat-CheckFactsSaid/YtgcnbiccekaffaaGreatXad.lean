/- The leaf functions of the reference's model. -/
import Derived.Test.YtgcnbiccekaffaaGreatB
namespace Go.Proofs.YtgcnbiccekaffaaGreat
open Go.RowKit

set_option maxHeartbeats 400000 in
theorem rightR_any (k a b at_ fr n : Int) (p : Option Addr) (l c : Nat) (w : World) :
    Calls Tryz.prog 26 #[.agg #[.int .i64 k, .int .u64 a, .int .u64 b, .int .i64 at_, .int .i64 fr, .int .i64 n, .slice p l c]] w
      fun e w' => e = .returned (.bool (rightB k l)) ∧ Below w.heap.size w w' := by
  go_enter Tryz.func26, Tryz.ntmps26
  go_wp2
  all_goals (go_ret; exact ⟨by simp [rightB, *] <;> omega, (by repeat (first | exact Below.refl _ _ | assumption | refine Below.alloc ?_ (by first | omega | (simp <;> omega)) _ | refine Below.drew ?_ | refine Below.setCell ?_ (by first | omega | (simp <;> omega)) _ | refine Below.via (by assumption) (by first | omega | (simp <;> omega)) ?_))⟩)

set_option maxHeartbeats 400000 in
theorem bareR_any (e a n c x : Int) (p : Option Addr) (l k : Nat) (w : World) :
    Calls Tryz.prog 29 #[.agg #[.int .i64 e, .int .i64 a, .int .i64 n, .int .i64 c, .slice p l k], .int .i64 x] w
      fun r w' => r = .returned (.bool (bareB e a n c x l)) ∧ Below w.heap.size w w' := by
  go_enter Tryz.func29, Tryz.ntmps29
  go_wp2
  all_goals (go_ret; exact ⟨by simp [bareB, onlyB, *], (by repeat (first | exact Below.refl _ _ | assumption | refine Below.alloc ?_ (by first | omega | (simp <;> omega)) _ | refine Below.drew ?_ | refine Below.setCell ?_ (by first | omega | (simp <;> omega)) _ | refine Below.via (by assumption) (by first | omega | (simp <;> omega)) ?_))⟩)

def placedB (e c : Int) (l : Nat) : Bool := e == 0 && (c == 0 && (l : Int) == 0)

set_option maxHeartbeats 400000 in
theorem placedR_any (e a n c : Int) (p : Option Addr) (l k : Nat) (w : World) :
    Calls Tryz.prog 50 #[.agg #[.int .i64 e, .int .i64 a, .int .i64 n, .int .i64 c, .slice p l k]] w
      fun r w' => r = .returned (.bool (placedB e c l)) ∧ Below w.heap.size w w' := by
  go_enter Tryz.func50, Tryz.ntmps50
  go_wp2
  all_goals (go_ret; exact ⟨by simp [placedB, *], (by repeat (first | exact Below.refl _ _ | assumption | refine Below.alloc ?_ (by first | omega | (simp <;> omega)) _ | refine Below.drew ?_ | refine Below.setCell ?_ (by first | omega | (simp <;> omega)) _ | refine Below.via (by assumption) (by first | omega | (simp <;> omega)) ?_))⟩)

set_option maxHeartbeats 400000 in
theorem inR_any (N from_ n : Int) (w : World) (hN : 0 ≤ N) (hN2 : N ≤ 1099511627776) :
    Calls Tryz.prog 56 #[.int .i64 N, .int .i64 from_, .int .i64 n] w
      fun e w' => e = .returned (.bool (withinB from_ n N)) ∧ w = w' := by
  go_enter Tryz.func56, Tryz.ntmps56
  go_wp2
  all_goals (go_ret; exact ⟨by simp [withinB, *] <;> omega, rfl⟩)

end Go.Proofs.YtgcnbiccekaffaaGreat

/- What is asked for, as the reference reckons it. -/
namespace Go.Proofs.YtgcnbiccekaffaaGreat
open Go.RowKit

def timesR (a b : Int) : Int × Bool := if a * b ≤ 1099511627776 then (a * b, true) else (0, false)

theorem times_eq {a b : Int} (h0 : 0 ≤ a) (h2 : 0 ≤ b) : (timesF a b).2 = (if (timesR a b).2 = true then 0 else 14) ∧ ((timesR a b).2 = true → (timesF a b).1 = (timesR a b).1) := by
  have hm : 0 ≤ a * b := Int.mul_nonneg h0 h2
  unfold timesR timesF ofF
  by_cases h : a * b ≤ 1099511627776
  · rw [if_pos h]
    have e1 : a * b / 18446744073709551616 = 0 := by omega
    have e2 : a * b % 18446744073709551616 = a * b := by omega
    rw [if_pos e1, e2, if_neg (by omega)]
    simp
  · rw [if_neg h]
    by_cases e1 : a * b / 18446744073709551616 = 0
    · rw [if_pos e1, if_pos (by omega)]
      simp
    · rw [if_neg e1]
      simp

theorem big_mul {a b : Int} (h0 : 0 < a) (h1 : 0 < b) (h : 1099511627776 < a ∨ 1099511627776 < b ∨ 1099511627776 / b < a) : ¬ a * b ≤ 1099511627776 := by
  intro hh
  rcases h with h | h | h
  · have : a * 1 ≤ a * b := Int.mul_le_mul_of_nonneg_left (by omega) (by omega)
    omega
  · have : 1 * b ≤ a * b := Int.mul_le_mul_of_nonneg_right (by omega) (by omega)
    omega
  · have : a ≤ 1099511627776 / b := Int.le_ediv_of_mul_le h1 hh
    omega

theorem small_mul {a b : Int} (h1 : 0 < b) (h : ¬ 1099511627776 / b < a) : a * b ≤ 1099511627776 := by
  have h2 : a ≤ 1099511627776 / b := by omega
  calc a * b ≤ 1099511627776 / b * b := Int.mul_le_mul_of_nonneg_right h2 (by omega)
    _ ≤ 1099511627776 := Int.ediv_mul_le _ (by omega)

set_option maxHeartbeats 800000 in
theorem timesR_any (a b : Int) (w : World) (h0 : 0 ≤ a) (h1 : a < 18446744073709551616) (h2 : 0 ≤ b) (h3 : b < 18446744073709551616) :
    Calls Tryz.prog 75 #[.int .u64 a, .int .u64 b] w fun e w' => e = .returned (.tuple #[.int .i64 (timesR a b).1, .bool (timesR a b).2]) ∧ w = w' := by
  by_cases ha : a = 0
  · subst ha
    have hr : timesR 0 b = (0, true) := by simp [timesR]
    rw [hr]
    go_enter Tryz.func75, Tryz.ntmps75
    go_wp2
    go_ret2
    exact ⟨rfl, rfl⟩
  · by_cases hb : b = 0
    · subst hb
      have ha' : (a == 0) = false := by simpa using ha
      have hr : timesR a 0 = (0, true) := by simp [timesR]
      rw [hr]
      clear ha
      go_enter Tryz.func75, Tryz.ntmps75
      go_wp2
      go_ret2
      exact ⟨rfl, rfl⟩
    · have ha' : (a == 0) = false := by simpa using ha
      have hb' : (b == 0) = false := by simpa using hb
      have hap : 0 < a := by omega
      have hbp : 0 < b := by omega
      by_cases c1 : 1099511627776 < a
      · have hr : timesR a b = (0, false) := by rw [timesR, if_neg (big_mul hap hbp (.inl c1))]
        rw [hr]
        clear ha hb h1 h3
        go_enter Tryz.func75, Tryz.ntmps75
        go_wp2
        go_ret2
        exact ⟨rfl, rfl⟩
      · by_cases c2 : 1099511627776 < b
        · have hr : timesR a b = (0, false) := by rw [timesR, if_neg (big_mul hap hbp (.inr (.inl c2)))]
          rw [hr]
          clear ha hb h1 h3
          go_enter Tryz.func75, Tryz.ntmps75
          go_wp2
          go_ret2
          exact ⟨rfl, rfl⟩
        · by_cases c3 : 1099511627776 / b < a
          · have hr : timesR a b = (0, false) := by rw [timesR, if_neg (big_mul hap hbp (.inr (.inr c3)))]
            rw [hr]
            clear ha hb h1 h3
            go_enter Tryz.func75, Tryz.ntmps75
            go_wp2
            go_ret2
            exact ⟨rfl, rfl⟩
          · have hs := small_mul hbp c3
            have hm : 0 ≤ a * b := Int.mul_nonneg h0 h2
            have hr : timesR a b = (a * b, true) := by rw [timesR, if_pos hs]
            rw [hr]
            have hw1 : IntKind.u64.wrap (a * b) = a * b := by rw [IntKind.wrap_u64]; omega
            have hw2 : IntKind.i64.wrap (a * b) = a * b := by rw [IntKind.wrap_i64]; omega
            clear ha hb h1 h3 hs hm
            go_enter Tryz.func75, Tryz.ntmps75
            go_wp2
            go_ret2
            exact ⟨rfl, rfl⟩

def pows : List Int := [1, 2, 4, 8, 16, 32, 64, 128, 256, 512, 1024, 2048, 4096]
def powB (n : Int) : Bool := pows.contains n

theorem pows_drop : ∀ k, k < 13 → pows.drop k = (2 : Int) ^ k :: pows.drop (k + 1) ∧ 1 ≤ (2 : Int) ^ k ∧ (2 : Int) ^ k ≤ 4096 := by decide

set_option maxRecDepth 100000 in
set_option maxHeartbeats 800000 in
theorem alignR_any (n : Int) (w : World) : Calls Tryz.prog 74 #[.int .i64 n] w fun e w' => e = .returned (.bool (powB n)) ∧ w = w' := by
  generalize hr : powB n = r
  have HR := Lib.hid hr
  clear hr
  go_enter Tryz.func74, Tryz.ntmps74
  go_wp2
  go_loopw [3] (fun p wr => ∃ k : Nat, k ≤ 13 ∧ p = .int .i64 (2 ^ k) ∧ powB n = (pows.drop k).contains n ∧ w = wr) (fun p _ => (8192 - intOf p).toNat)
  case atStart => exact ⟨0, by omega, rfl, rfl, rfl⟩
  case round =>
    obtain ⟨k, hk, rfl, hp, rfl⟩ := hrel
    by_cases hk2 : k < 13
    · obtain ⟨e1, e2, e3⟩ := pows_drop k hk2
      have e4 : (2 : Int) ^ (k + 1) = 2 ^ k * 2 := Int.pow_succ 2 k
      have HP := Lib.hid hp
      have E1 := Lib.hid e1
      have E4 := Lib.hid e4
      clear hp e1 e4
      generalize (2 : Int) ^ k = p at *
      have hw : IntKind.i64.wrap (p * 2) = p * 2 := by rw [IntKind.wrap_i64]; omega
      by_cases hpn : (p == n) = true
      · have hr1 : r = true := by rw [← HR.out, HP.out, E1.out]; simp; left; simpa using Eq.symm (by simpa using hpn)
        subst hr1
        go_wp2
        go_ret
        exact ⟨rfl, rfl⟩
      · have hpn' : (p == n) = false := by simpa using hpn
        have hd : Hid (powB n = (pows.drop (k + 1)).contains n) := by
          show _ = _
          rw [HP.out, E1.out, List.contains_cons, Bool.beq_comm, hpn', Bool.false_or]
        clear hpn
        go_wp2
        go_roundw
        case rel => exact ⟨k + 1, by omega, by rw [E4.out], hd.out, (by first | rfl | trivial)⟩
        case measure => simp [intOf]; omega
    · obtain rfl : k = 13 := by omega
      have hr1 : r = false := by rw [← HR.out, hp]; rfl
      subst hr1
      have e : (2 : Int) ^ 13 = 8192 := by decide
      rw [e]
      clear e hp
      go_wp2
      go_ret
      exact ⟨rfl, rfl⟩

end Go.Proofs.YtgcnbiccekaffaaGreat

/- asked, as the reference has it. -/
namespace Go.Proofs.YtgcnbiccekaffaaGreat
open Go.RowKit

theorem ones_pow64 : ∀ i : Fin 65, ∀ j : Fin 64, 64 * i.val + j.val ≠ 0 → 64 * i.val + j.val ≤ 4096 → (decide (onesF ((64 * i.val + j.val : Nat) : Int) = 1) = powB ((64 * i.val + j.val : Nat) : Int)) := by decide +kernel

theorem ones_pow (m : Nat) (h0 : m ≠ 0) (h : m ≤ 4096) : decide (onesF (m : Int) = 1) = powB (m : Int) := by
  have e : 64 * (m / 64) + m % 64 = m := Nat.div_add_mod m 64
  have := ones_pow64 ⟨m / 64, by omega⟩ ⟨m % 64, by omega⟩ (by show 64 * (m / 64) + m % 64 ≠ 0; omega) (by show 64 * (m / 64) + m % 64 ≤ 4096; omega)
  simp only [e] at this
  exact this

def refuseA (a : Int) : Bool := decide (4096 < a) || (decide (0 < a) && !powB a)

theorem align_refuse {a : Int} (h : 0 ≤ a) : (alignF a).2 = (if refuseA a = true then 11 else 0) ∧ (refuseA a = false → (alignF a).1 = max1 a) := by
  unfold alignF refuseA
  by_cases h1 : 4096 < a
  · have e : max1 a = a := by unfold max1; rw [if_neg (by omega)]
    rw [e, if_pos h1]
    simp [h1]
  · by_cases h2 : a < 1
    · have e : max1 a = 1 := by unfold max1; rw [if_pos h2]
      have h3 : a = 0 := by omega
      subst h3
      rw [e]
      have e2 : onesF 1 = 1 := by decide +kernel
      rw [if_neg (by omega), if_pos e2]
      simp
    · have e : max1 a = a := by unfold max1; rw [if_neg h2]
      rw [e, if_neg h1]
      obtain ⟨m, rfl⟩ := Int.eq_ofNat_of_zero_le h
      have hp := ones_pow m (by omega) (by omega)
      have h0 : ¬ (4096 : Int) < m := h1
      have h00 : (0 : Int) < m := by omega
      by_cases ho : onesF (m : Int) = 1
      · rw [if_pos ho]
        rw [decide_eq_true ho] at hp
        rw [← hp]
        simp [h0]
      · rw [if_neg ho]
        rw [decide_eq_false ho] at hp
        rw [← hp, decide_eq_true h00]
        simp

end Go.Proofs.YtgcnbiccekaffaaGreat

/- asked, as the reference has it: the walk. -/
namespace Go.Proofs.YtgcnbiccekaffaaGreat
open Go.RowKit

def AskedPost (k a b : Int) (w : World) (e : Ending) (w' : World) : Prop :=
  ∃ x y, e = .returned (.tuple #[.int .i64 x, .int .i64 y, .int .i64 (askedF k a b).2.2]) ∧ ((askedF k a b).2.2 = 0 → x = (askedF k a b).1 ∧ y = (askedF k a b).2.1) ∧ Below w.heap.size w w'

theorem one_times {a : Int} (h0 : 0 ≤ a) : (ofF a).2 = (if (timesR a 1).2 = true then 0 else 14) ∧ ((timesR a 1).2 = true → (ofF a).1 = (timesR a 1).1) := by
  unfold ofF timesR
  rw [Int.mul_one]
  by_cases h : a ≤ 1099511627776
  · rw [if_pos h, if_neg (by omega)]; simp
  · rw [if_neg h, if_pos (by omega)]; simp

theorem asked_one {k a b : Int} (hk : k = 1) : askedF k a b = ((timesF a b).1, 1, (timesF a b).2) := by subst hk; rfl
theorem asked_other {k a b : Int} (h1 : k ≠ 1) (h2 : k ≠ 2) : askedF k a b = ((ofF a).1, 1, (ofF a).2) := by
  unfold askedF
  rw [if_neg (by simpa using h1), if_neg (by simpa using h2)]
theorem asked_two_no {k a b : Int} (hk : k = 2) (h0 : 0 ≤ a) (h : refuseA a = true) : (askedF k a b).2.2 = 11 := by
  subst hk
  have := (align_refuse h0).1
  rw [if_pos h] at this
  unfold askedF
  simp [this]
theorem asked_two {k a b : Int} (hk : k = 2) (h0 : 0 ≤ a) (h : refuseA a = false) : askedF k a b = ((ofF b).1, max1 a, (ofF b).2) := by
  subst hk
  obtain ⟨h1, h2⟩ := align_refuse h0
  rw [if_neg (by rw [h]; decide)] at h1
  have h3 := h2 h
  unfold askedF
  simp [h1, h3]

set_option maxRecDepth 100000 in
set_option maxHeartbeats 800000 in
theorem askedR_any (k a b at_ fr n : Int) (p : Option Addr) (l c : Nat) (w : World) (h0 : 0 ≤ a) (h1 : a < 18446744073709551616) (h2 : 0 ≤ b) (h3 : b < 18446744073709551616) :
    Calls Tryz.prog 49 #[.agg #[.int .i64 k, .int .u64 a, .int .u64 b, .int .i64 at_, .int .i64 fr, .int .i64 n, .slice p l c]] w (AskedPost k a b w) := by
  have ht1 := Lib.hid (fun W => timesR_any a b W h0 h1 h2 h3)
  have ht2 := Lib.hid (fun W => timesR_any a 1 W h0 h1 (by omega) (by omega))
  have ht3 := Lib.hid (fun W => timesR_any b 1 W h2 h3 (by omega) (by omega))
  by_cases hk1 : k = 1
  · obtain ⟨e1, e2⟩ := times_eq h0 h2
    have hask := asked_one (b := b) (a := a) hk1
    have hk1' : (k == 1) = true := by simpa using hk1
    have hk2' : (k == 2) = false := by subst hk1; rfl
    have HP : Hid (∀ W, Below w.heap.size w W → ∀ s : Bool, (timesR a b).2 = s → AskedPost k a b w (.returned (.tuple #[.int .i64 (if s = true then (timesR a b).1 else 0), .int .i64 (if s = true then 1 else 0), .int .i64 (if s = true then 0 else 14)])) W) := fun W hb s hs => by
      rw [AskedPost, hask]
      refine ⟨_, _, by rw [e1, hs], fun h => ?_, hb⟩
      cases s
      · rw [e1, hs] at h; simp at h
      · exact ⟨(e2 hs).symm, rfl⟩
    clear e1 e2 hask hk1 h0 h1 h2 h3 ht2 ht3
    generalize (timesR a b).1 = tn at *
    cases hs : (timesR a b).2
    all_goals
      have hp := HP.out
      have HQ := Lib.hid (fun W hb => hp W hb _ hs)
      clear hp HP
      go_enter Tryz.func49, Tryz.ntmps49
      go_wp2_with (go_at_call 75; refine (ht1.out _).mono ?_; rintro e W ⟨rfl, rfl⟩; rw [hs])
      go_ret3
      exact HQ.out _ (by repeat (first | exact Below.refl _ _ | assumption | refine Below.alloc ?_ (by first | omega | (simp <;> omega)) _ | refine Below.drew ?_ | refine Below.setCell ?_ (by first | omega | (simp <;> omega)) _ | refine Below.via (by assumption) (by first | omega | (simp <;> omega)) ?_))
  · have hk1' : (k == 1) = false := by simpa using hk1
    by_cases hk2 : k = 2
    · have hk2' : (k == 2) = true := by simpa using hk2
      cases hra : refuseA a
      · obtain ⟨e1, e2⟩ := one_times h2
        have hask := asked_two (b := b) hk2 h0 hra
        have HP : Hid (∀ W, Below w.heap.size w W → ∀ s : Bool, (timesR b 1).2 = s → AskedPost k a b w (.returned (.tuple #[.int .i64 (if s = true then (timesR b 1).1 else 0), .int .i64 (if s = true then max1 a else 0), .int .i64 (if s = true then 0 else 14)])) W) := fun W hb s hs => by
          rw [AskedPost, hask]
          refine ⟨_, _, by rw [e1, hs], fun h => ?_, hb⟩
          cases s
          · rw [e1, hs] at h; simp at h
          · exact ⟨(e2 hs).symm, rfl⟩
        have hra2 : ¬ 4096 < a ∧ (0 < a → powB a = true) := by
          unfold refuseA at hra
          rw [Bool.or_eq_false_iff] at hra
          refine ⟨of_decide_eq_false hra.1, fun h => ?_⟩
          have := hra.2
          rw [decide_eq_true h] at this
          simpa using this
        obtain ⟨q1, q2⟩ := hra2
        have hw : IntKind.i64.wrap a = a := by rw [IntKind.wrap_i64]; omega
        clear e1 e2 hask hk1 hk2 h1 h3 ht1 ht2 hra
        generalize (timesR b 1).1 = tn at *
        by_cases hap : 0 < a
        · have hpw := q2 hap
          have hm : Hid (max1 a = a) := by show _ = _; unfold max1; rw [if_neg (by omega)]
          have hnlt : ¬ a < 1 := by omega
          clear q2
          cases hs : (timesR b 1).2
          all_goals
            have hp := HP.out
            have HQ := Lib.hid (fun W hb => hp W hb _ hs)
            clear hp HP
            go_enter Tryz.func49, Tryz.ntmps49
            go_wp2_with (first
              | (go_at_call 74; refine (alignR_any _ _).mono ?_; rintro e W ⟨rfl, rfl⟩; rw [hpw])
              | (go_at_call 75; refine (ht3.out _).mono ?_; rintro e W ⟨rfl, rfl⟩; rw [hs]))
            have hq := HQ.out
            simp only [hm.out] at hq
            have HQ2 := Lib.hid hq
            clear hq HQ
            go_ret3
            exact HQ2.out _ (by repeat (first | exact Below.refl _ _ | assumption | refine Below.alloc ?_ (by first | omega | (simp <;> omega)) _ | refine Below.drew ?_ | refine Below.setCell ?_ (by first | omega | (simp <;> omega)) _ | refine Below.via (by assumption) (by first | omega | (simp <;> omega)) ?_))
        · obtain rfl : a = 0 := by omega
          clear q1 q2 hw hap
          have hm : Hid (max1 0 = 1) := rfl
          cases hs : (timesR b 1).2
          all_goals
            have hp := HP.out
            have HQ := Lib.hid (fun W hb => hp W hb _ hs)
            clear hp HP
            go_enter Tryz.func49, Tryz.ntmps49
            go_wp2_with (go_at_call 75; refine (ht3.out _).mono ?_; rintro e W ⟨rfl, rfl⟩; rw [hs])
            have hq := HQ.out
            simp only [hm.out] at hq
            have HQ2 := Lib.hid hq
            clear hq HQ
            go_ret3
            exact HQ2.out _ (by repeat (first | exact Below.refl _ _ | assumption | refine Below.alloc ?_ (by first | omega | (simp <;> omega)) _ | refine Below.drew ?_ | refine Below.setCell ?_ (by first | omega | (simp <;> omega)) _ | refine Below.via (by assumption) (by first | omega | (simp <;> omega)) ?_))
      · have hno := asked_two_no (b := b) hk2 h0 hra
        have HP : Hid (∀ W, Below w.heap.size w W → AskedPost k a b w (.returned (.tuple #[.int .i64 0, .int .i64 0, .int .i64 11])) W) := fun W hb => by
          rw [AskedPost, hno]
          exact ⟨_, _, rfl, fun h => (by cases h), hb⟩
        clear hno
        by_cases hbig : 4096 < a
        · clear hra h1 h2 h3 ht1 ht2 ht3 hk1 hk2
          go_enter Tryz.func49, Tryz.ntmps49
          go_wp2
          go_ret3
          exact HP.out _ (by repeat (first | exact Below.refl _ _ | assumption | refine Below.alloc ?_ (by first | omega | (simp <;> omega)) _ | refine Below.drew ?_ | refine Below.setCell ?_ (by first | omega | (simp <;> omega)) _ | refine Below.via (by assumption) (by first | omega | (simp <;> omega)) ?_))
        · have hap : 0 < a := by
            refine Int.not_le.1 fun h => ?_
            unfold refuseA at hra
            rw [decide_eq_false hbig, decide_eq_false (by omega)] at hra
            simp at hra
          have hpw : powB a = false := by
            unfold refuseA at hra
            rw [decide_eq_false hbig, decide_eq_true hap] at hra
            simpa using hra
          have hw : IntKind.i64.wrap a = a := by rw [IntKind.wrap_i64]; omega
          clear hra h1 h2 h3 ht1 ht2 ht3 hk1 hk2
          go_enter Tryz.func49, Tryz.ntmps49
          go_wp2_with (go_at_call 74; refine (alignR_any _ _).mono ?_; rintro e W ⟨rfl, rfl⟩; rw [hpw])
          go_ret3
          exact HP.out _ (by repeat (first | exact Below.refl _ _ | assumption | refine Below.alloc ?_ (by first | omega | (simp <;> omega)) _ | refine Below.drew ?_ | refine Below.setCell ?_ (by first | omega | (simp <;> omega)) _ | refine Below.via (by assumption) (by first | omega | (simp <;> omega)) ?_))
    · obtain ⟨e1, e2⟩ := one_times h0
      have hask := asked_other (b := b) (a := a) hk1 hk2
      have hk2' : (k == 2) = false := by simpa using hk2
      have HP : Hid (∀ W, Below w.heap.size w W → ∀ s : Bool, (timesR a 1).2 = s → AskedPost k a b w (.returned (.tuple #[.int .i64 (if s = true then (timesR a 1).1 else 0), .int .i64 (if s = true then 1 else 0), .int .i64 (if s = true then 0 else 14)])) W) := fun W hb s hs => by
        rw [AskedPost, hask]
        refine ⟨_, _, by rw [e1, hs], fun h => ?_, hb⟩
        cases s
        · rw [e1, hs] at h; simp at h
        · exact ⟨(e2 hs).symm, rfl⟩
      clear e1 e2 hask hk1 hk2 h0 h1 h2 h3 ht1 ht3
      generalize (timesR a 1).1 = tn at *
      cases hs : (timesR a 1).2
      all_goals
        have hp := HP.out
        have HQ := Lib.hid (fun W hb => hp W hb _ hs)
        clear hp HP
        go_enter Tryz.func49, Tryz.ntmps49
        go_wp2_with (go_at_call 75; refine (ht2.out _).mono ?_; rintro e W ⟨rfl, rfl⟩; rw [hs])
        go_ret3
        exact HQ.out _ (by repeat (first | exact Below.refl _ _ | assumption | refine Below.alloc ?_ (by first | omega | (simp <;> omega)) _ | refine Below.drew ?_ | refine Below.setCell ?_ (by first | omega | (simp <;> omega)) _ | refine Below.via (by assumption) (by first | omega | (simp <;> omega)) ?_))

end Go.Proofs.YtgcnbiccekaffaaGreat
