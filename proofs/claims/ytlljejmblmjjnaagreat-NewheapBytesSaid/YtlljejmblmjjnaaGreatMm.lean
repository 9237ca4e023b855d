/- Counts of slots: plain lists. -/
import Derived.Test.YtlljejmblmjjnaaGreatMi
namespace Go.Proofs.YtlljejmblmjjnaaGreat
set_option linter.unusedVariables false
set_option linter.unusedSimpArgs false

theorem len_of_mem {l m : List Nat} (hl : l.Nodup) (hm : m.Nodup) (h : ∀ a, a ∈ l ↔ a ∈ m) : l.length = m.length :=
  Nat.le_antisymm (nodup_sub hl fun a ha => (h a).1 ha) (nodup_sub hm fun a ha => (h a).2 ha)
/-- Does a slot of a class begin at word j? -/
def slotAt (cls j : Nat) : Bool := decide (8 * j % szB cls = 0) && decide (8 * j < szB cls * slB cls)
def takenAt (x : PS) (j : Nat) : Bool := slotAt x.cls j && decide (8 * j / szB x.cls ∉ x.L)
def cntS (cls m : Nat) : Nat := ((List.range m).filter (slotAt cls)).length
def cntT (x : PS) (m : Nat) : Nat := ((List.range m).filter (takenAt x)).length
theorem cntS_succ (cls m : Nat) : cntS cls (m + 1) = cntS cls m + if slotAt cls m then 1 else 0 := by
  unfold cntS
  rw [List.range_succ, List.filter_append, List.length_append, List.filter_cons]
  cases slotAt cls m <;> rfl
theorem cntT_succ (x : PS) (m : Nat) : cntT x (m + 1) = cntT x m + if takenAt x m then 1 else 0 := by
  unfold cntT
  rw [List.range_succ, List.filter_append, List.length_append, List.filter_cons]
  cases takenAt x m <;> rfl
theorem szB_8 {c : Nat} (h : c < 12) : szB c % 8 = 0 := by
  rcases szB_cases h with e | e | e | e | e | e | e | e | e | e | e | e <;> rw [e]
theorem cntS_all {c : Nat} (h : c < 12) : cntS c 128 = slB c := by
  have hh : c = 0 ∨ c = 1 ∨ c = 2 ∨ c = 3 ∨ c = 4 ∨ c = 5 ∨ c = 6 ∨ c = 7 ∨ c = 8 ∨ c = 9 ∨ c = 10 ∨ c = 11 := by omega
  rcases hh with rfl | rfl | rfl | rfl | rfl | rfl | rfl | rfl | rfl | rfl | rfl | rfl <;> decide +kernel
theorem slot_word {c k : Nat} (h : c < 12) : ∃ q, szB c = 8 * q ∧ 0 < q := by
  have h1 := szB_8 h
  have h2 := szB_pos h
  exact ⟨szB c / 8, by omega, by omega⟩
theorem cntT_all {pages : Nat} {x : PS} (h : x.Ok pages) : cntT x 128 + x.L.length = slB x.cls := by
  obtain ⟨q, hq, hq0⟩ := slot_word (k := 0) h.cls
  have hsl := slB_le h.cls
  have e1 : cntS x.cls 128 = cntT x 128 + ((List.range 128).filter fun j => slotAt x.cls j && decide (8 * j / szB x.cls ∈ x.L)).length := by
    have key : ∀ l : List Nat, (l.filter (slotAt x.cls)).length = (l.filter (takenAt x)).length + (l.filter fun j => slotAt x.cls j && decide (8 * j / szB x.cls ∈ x.L)).length := by
      intro l
      induction l with
      | nil => rfl
      | cons a l ih =>
        rw [List.filter_cons, List.filter_cons, List.filter_cons]
        unfold takenAt at *
        cases hs : slotAt x.cls a with
        | false => simpa using ih
        | true =>
          by_cases hm : 8 * a / szB x.cls ∈ x.L
          · simp only [hm, Bool.true_and, not_true, decide_true, decide_false, if_true, List.length_cons, Bool.false_eq_true, if_false]
            omega
          · simp only [hm, Bool.true_and, not_false_eq_true, decide_true, decide_false, if_true, List.length_cons, Bool.false_eq_true, if_false]
            omega
    exact key _
  have e2 : ((List.range 128).filter fun j => slotAt x.cls j && decide (8 * j / szB x.cls ∈ x.L)).length = (x.L.map fun k => k * q).length := by
    apply len_of_mem
    · exact List.nodup_range.sublist List.filter_sublist
    · rw [List.Nodup, List.pairwise_map]
      exact h.nodup.imp (fun hne e => hne (Nat.eq_of_mul_eq_mul_right hq0 e))
    · intro a
      simp only [List.mem_filter, List.mem_range, List.mem_map, Bool.and_eq_true, decide_eq_true_eq, slotAt]
      rw [hq]
      constructor
      · rintro ⟨h1, ⟨h2, h3⟩, h4⟩
        rw [Nat.mul_mod_mul_left] at h2
        rw [Nat.mul_div_mul_left _ _ (by decide)] at h4
        exact ⟨a / q, h4, Nat.div_mul_cancel (Nat.dvd_of_mod_eq_zero (by omega))⟩
      · rintro ⟨k, hk, rfl⟩
        have hkl := h.lt k hk
        have hfit := slot_fits h.cls hkl
        rw [hq] at hfit
        have e8 : k * (8 * q) = 8 * (k * q) := by rw [Nat.mul_left_comm]
        rw [e8] at hfit
        refine ⟨by omega, ⟨?_, ?_⟩, ?_⟩
        · rw [Nat.mul_mod_mul_left, Nat.mul_mod_left]
        · have : (k + 1) * q ≤ slB x.cls * q := Nat.mul_le_mul_right _ hkl
          have e9 : 8 * q * slB x.cls = 8 * (slB x.cls * q) := by rw [Nat.mul_assoc, Nat.mul_comm q]
          rw [e9]
          rw [Nat.succ_mul] at this
          omega
        · rw [Nat.mul_div_mul_left _ _ (by decide), Nat.mul_div_cancel _ hq0]
          exact hk
  have e3 := cntS_all h.cls
  rw [e1, e2, List.length_map] at e3
  exact e3
theorem findP_word {pages : Nat} {s : HP} (h : HInv pages s) {x : PS} (hx : x ∈ s.A) {j : Nat} (hj : j < 128) : (findP s.A ((256 * x.page + 8 * j : Nat) : Int)).isSome = slotAt x.cls j ∧ hasP s.A ((256 * x.page + 8 * j : Nat) : Int) = takenAt x j := by
  have hok := h.each x hx
  obtain ⟨q, hq, hq0⟩ := slot_word (k := 0) hok.cls
  have hn := h.near hx (at_ := ((256 * x.page + 8 * j : Nat) : Int)) (by omega) (by omega)
  have hd : ((256 * x.page + 8 * j : Nat) : Int) - ((x.S.base : Nat) : Int) = ((8 * j : Nat) : Int) := by show _ - ((256 * x.page : Nat) : Int) = _; omega
  have hs : slotF x.S ((256 * x.page + 8 * j : Nat) : Int) = if slotAt x.cls j then some (8 * j / szB x.cls) else none := by
    unfold slotF slotAt
    rw [hd]
    have hc1 : ((x.S.base : Nat) : Int) ≤ ((256 * x.page + 8 * j : Nat) : Int) := by show ((256 * x.page : Nat) : Int) ≤ _; omega
    have hc2 : ((256 * x.page + 8 * j : Nat) : Int) < ((x.S.base : Nat) : Int) + ((szB x.S.cls * slB x.S.cls : Nat) : Int) ↔ 8 * j < szB x.cls * slB x.cls := by show _ < ((256 * x.page : Nat) : Int) + ((szB x.cls * slB x.cls : Nat) : Int) ↔ _; omega
    have hc3 : ((8 * j : Nat) : Int) % ((szB x.S.cls : Nat) : Int) = 0 ↔ 8 * j % szB x.cls = 0 := by
      rw [show ((szB x.S.cls : Nat) : Int) = ((szB x.cls : Nat) : Int) from rfl, ← Int.natCast_emod]
      omega
    have hc4 : (((8 * j : Nat) : Int) / ((szB x.S.cls : Nat) : Int)).toNat = 8 * j / szB x.cls := by
      rw [show ((szB x.S.cls : Nat) : Int) = ((szB x.cls : Nat) : Int) from rfl, ← Int.natCast_ediv]
      rfl
    by_cases h1 : 8 * j % szB x.cls = 0
    · by_cases h2 : 8 * j < szB x.cls * slB x.cls
      · rw [if_pos ⟨hc1, hc2.2 h2, hc3.2 h1⟩, hc4]
        simp [h1, h2]
      · rw [if_neg (fun hh => h2 (hc2.1 hh.2.1))]
        simp [h2]
    · rw [if_neg (fun hh => h1 (hc3.1 hh.2.2))]
      simp [h1]
  have hf : findP s.A ((256 * x.page + 8 * j : Nat) : Int) = if slotAt x.cls j then some (x, 8 * j / szB x.cls) else none := by
    unfold findP
    rw [hn]
    simp only [hs]
    cases slotAt x.cls j <;> rfl
  unfold hasP takenAt
  rw [hf]
  cases slotAt x.cls j <;> simp

/-- Sums over slabs. -/
def sumL (l : List PS) : Nat := (l.map fun x => x.L.length).sum
def sumS (l : List PS) : Nat := (l.map fun x => slB x.cls).sum
def under (A : List PS) (c : Nat) : List PS := A.filter fun x => decide (x.cls < c)
theorem under_zero (A : List PS) : under A 0 = [] := by unfold under; rw [List.filter_eq_nil_iff]; intro a _; simp
theorem under_all {A : List PS} (h : ∀ x ∈ A, x.cls < 12) : under A 12 = A := by unfold under; rw [List.filter_eq_self]; intro a ha; simpa using h a ha
theorem under_succ (A : List PS) (c : Nat) : (under A (c + 1)).length = (under A c).length + (clsP A (c : Int)).length ∧ sumL (under A (c + 1)) = sumL (under A c) + sumL (clsP A (c : Int)) ∧ sumS (under A (c + 1)) = sumS (under A c) + sumS (clsP A (c : Int)) := by
  induction A with
  | nil => exact ⟨rfl, rfl, rfl⟩
  | cons x l ih =>
    unfold under clsP sumL sumS at *
    rw [List.filter_cons, List.filter_cons, List.filter_cons]
    rcases Nat.lt_trichotomy x.cls c with e | e | e
    · rw [if_pos (by simp; omega), if_pos (by simp; omega), if_neg (by simp; omega)]
      simp only [List.map_cons, List.sum_cons, List.length_cons]
      omega
    · rw [if_pos (by simp; omega), if_neg (by simp; omega), if_pos (by simp; omega)]
      simp only [List.map_cons, List.sum_cons, List.length_cons]
      omega
    · rw [if_neg (by simp; omega), if_neg (by simp; omega), if_neg (by simp; omega)]
      exact ih
theorem takenP_sum {pages : Nat} : ∀ {A : List PS}, (∀ x ∈ A, x.Ok pages) → (takenP A).length + sumL A = sumS A
  | [], _ => rfl
  | x :: A, h => by
    have ih := takenP_sum (A := A) (fun y hy => h y (List.mem_cons_of_mem _ hy))
    unfold takenP sumL sumS at *
    rw [List.flatMap_cons, List.length_append, List.length_map, List.map_cons, List.map_cons, List.sum_cons, List.sum_cons]
    have hok := h x List.mem_cons_self
    have h1 : (takenL x.S).length + x.L.length = slB x.cls := by
      have key : ∀ l : List Nat, (l.filter fun k => decide (k ∉ x.L)).length + (l.filter fun k => decide (k ∈ x.L)).length = l.length := by
        intro l
        induction l with
        | nil => rfl
        | cons a l ih =>
          rw [List.filter_cons, List.filter_cons]
          by_cases hm : a ∈ x.L
          · simp only [hm, not_true, decide_true, decide_false, if_true, List.length_cons, Bool.false_eq_true, if_false]
            omega
          · simp only [hm, not_false_eq_true, decide_true, decide_false, if_true, List.length_cons, Bool.false_eq_true, if_false]
            omega
      have k1 := key (List.range (slB x.cls))
      rw [List.length_range] at k1
      have k2 : ((List.range (slB x.cls)).filter fun k => decide (k ∈ x.L)).length = x.L.length := by
        apply len_of_mem
        · exact List.nodup_range.sublist List.filter_sublist
        · exact hok.nodup
        · intro a
          simp only [List.mem_filter, List.mem_range, decide_eq_true_eq]
          exact ⟨fun hh => hh.2, fun hh => ⟨hok.lt a hh, hh⟩⟩
      rw [k2] at k1
      exact k1
    omega

end Go.Proofs.YtlljejmblmjjnaaGreat
