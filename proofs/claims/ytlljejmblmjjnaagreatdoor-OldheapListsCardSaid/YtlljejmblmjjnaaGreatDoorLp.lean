/- Taken runs of pages, and how many pages are free: plain lists. -/
import Derived.Test.YtlljejmblmjjnaaGreatDoorDA
namespace Go.Proofs.YtlljejmblmjjnaaGreatDoor
set_option linter.unusedVariables false
set_option linter.unusedSimpArgs false

theorem freeN_append (a b : List Run) : freeN (a ++ b) = freeN a + freeN b := by
  unfold freeN
  rw [List.filter_append, List.map_append, List.sum_append]
theorem freeN_cons (r : Run) (l : List Run) : freeN (r :: l) = (if r.taken then 0 else r.n) + freeN l := by
  unfold freeN
  cases h : r.taken <;> simp [h]
theorem list_at {α : Type} {l : List α} {k : Nat} {r : α} (hk : l[k]? = some r) : l = l.take k ++ r :: l.drop (k + 1) := by
  obtain ⟨h, rfl⟩ := List.getElem?_eq_some_iff.1 hk
  simp
theorem freeN_at {l : List Run} {k : Nat} {r : Run} (hk : l[k]? = some r) : freeN l = freeN (l.take k) + ((if r.taken then 0 else r.n) + freeN (l.drop (k + 1))) := by
  conv => lhs; rw [list_at hk]
  rw [freeN_append, freeN_cons]
theorem freeN_nz (l : List Run) : freeN (l.filter fun x => x.n != 0) = freeN l := by
  induction l with
  | nil => rfl
  | cons r l ih =>
    rw [List.filter_cons]
    by_cases h : r.n = 0
    · rw [if_neg (by simp [h]), ih, freeN_cons, h]
      simp
    · rw [if_pos (by simp [h]), freeN_cons, freeN_cons, ih]
theorem free_take {l : List Run} {k n al : Nat} {r : Run} (hk : l[k]? = some r) (ht : r.taken = false) (hn : 0 < n) (ha : 0 < al) (hf : r.first al + n ≤ r.stop) : freeN (takeR l k r n al) + n = freeN l := by
  have h1 := r.first_ge ha
  have h2 : freeN (partsR r n al) + n = r.n := by
    unfold partsR
    rw [freeN_nz, freeN_cons, freeN_cons, freeN_cons]
    simp [freeN]
    unfold Run.stop at *
    omega
  unfold takeR
  rw [freeN_append, freeN_append, freeN_at hk, ht]
  simp
  omega

theorem giveTo_cases (l : List Run) (k : Nat) (r : Run) : (giveTo l k = k + 1 ∧ giveN l k r = r.n) ∨ ∃ p, l[k + 1]? = some p ∧ p.taken = false ∧ giveTo l k = k + 2 ∧ giveN l k r = r.n + p.n := by
  unfold giveTo giveN
  cases h : l[k + 1]? with
  | none => exact .inl ⟨rfl, rfl⟩
  | some p =>
    cases hp : p.taken with
    | true => left; simp [hp]
    | false => right; exact ⟨p, rfl, hp, by simp [hp], by simp [hp]⟩
theorem giveFrom_cases (l : List Run) (k : Nat) (r : Run) : (giveFrom l k = k ∧ giveRun l k r = ⟨r.page, giveN l k r, false⟩) ∨
    ∃ j p, k = j + 1 ∧ l[j]? = some p ∧ p.taken = false ∧ giveFrom l k = j ∧ giveRun l k r = ⟨p.page, giveN l k r + p.n, false⟩ := by
  cases k with
  | zero => exact .inl ⟨rfl, rfl⟩
  | succ j =>
    unfold giveFrom giveRun
    cases h : l[j]? with
    | none => left; simp [h]
    | some p =>
      cases hp : p.taken with
      | true => left; simp [h, hp]
      | false => right; exact ⟨j, p, rfl, h, hp, by simp [h, hp], by simp [h, hp]⟩
theorem drop_at {α : Type} {l : List α} {k : Nat} {p : α} (h : l[k]? = some p) : l.drop k = p :: l.drop (k + 1) := by
  obtain ⟨h1, rfl⟩ := List.getElem?_eq_some_iff.1 h
  exact List.drop_eq_getElem_cons h1
theorem take_at {α : Type} {l : List α} {k : Nat} {p : α} (h : l[k]? = some p) : l.take (k + 1) = l.take k ++ [p] := by
  obtain ⟨h1, rfl⟩ := List.getElem?_eq_some_iff.1 h
  rw [List.take_succ_eq_append_getElem h1]
theorem giveTo_free (l : List Run) (k : Nat) (r : Run) : giveN l k r + freeN (l.drop (giveTo l k)) = r.n + freeN (l.drop (k + 1)) := by
  rcases giveTo_cases l k r with ⟨h1, h2⟩ | ⟨p, h1, h2, h3, h4⟩
  · rw [h1, h2]
  · rw [h3, h4, drop_at h1, freeN_cons, h2, show k + 1 + 1 = k + 2 from rfl]
    simp
    omega
theorem giveFrom_free (l : List Run) (k : Nat) (r : Run) : freeN (l.take (giveFrom l k)) + (giveRun l k r).n = freeN (l.take k) + giveN l k r ∧ (giveRun l k r).taken = false := by
  rcases giveFrom_cases l k r with ⟨h1, h2⟩ | ⟨j, p, rfl, h1, h2, h3, h4⟩
  · rw [h1, h2]; exact ⟨rfl, rfl⟩
  · rw [h3, h4, take_at h1, freeN_append, freeN_cons, h2]
    refine ⟨?_, rfl⟩
    simp [freeN]
    omega
theorem free_give {l : List Run} {k : Nat} {r : Run} (hk : l[k]? = some r) (ht : r.taken = true) : freeN (giveR l k r) = freeN l + r.n := by
  have h1 := giveTo_free l k r
  obtain ⟨h2, h3⟩ := giveFrom_free l k r
  unfold giveR
  rw [freeN_append, freeN_append, freeN_cons, h3, freeN_at hk, ht]
  simp [freeN] at *
  omega

/-- The taken runs. -/
def tkR (l : List Run) : List Run := l.filter (·.taken)
theorem tkR_append (a b : List Run) : tkR (a ++ b) = tkR a ++ tkR b := List.filter_append ..
theorem tkR_mem {l : List Run} {x : Run} : x ∈ tkR l ↔ x ∈ l ∧ x.taken = true := List.mem_filter
theorem tkR_at {l : List Run} {k : Nat} {r : Run} (hk : l[k]? = some r) : tkR l = tkR (l.take k) ++ ((if r.taken then [r] else []) ++ tkR (l.drop (k + 1))) := by
  conv => lhs; rw [list_at hk]
  rw [tkR_append]
  unfold tkR
  rw [List.filter_cons]
  cases r.taken <;> simp
theorem tkR_nz (l : List Run) (h : ∀ r ∈ l, r.taken = true → r.n ≠ 0) : tkR (l.filter fun x => x.n != 0) = tkR l := by
  unfold tkR
  rw [List.filter_filter]
  apply List.filter_congr
  intro x hx
  cases ht : x.taken with
  | false => simp
  | true => simp [h x hx ht]
theorem tk_take {l : List Run} {k n al : Nat} {r : Run} (hk : l[k]? = some r) (ht : r.taken = false) (hn : 0 < n) :
    tkR (takeR l k r n al) = tkR (l.take k) ++ ⟨r.first al, n, true⟩ :: tkR (l.drop (k + 1)) ∧ tkR l = tkR (l.take k) ++ tkR (l.drop (k + 1)) := by
  refine ⟨?_, by rw [tkR_at hk, ht]; simp⟩
  have h2 : tkR (partsR r n al) = [⟨r.first al, n, true⟩] := by
    unfold partsR
    rw [tkR_nz]
    · rfl
    · intro x hx hxt
      simp only [List.mem_cons, List.mem_nil_iff, or_false] at hx
      rcases hx with rfl | rfl | rfl
      · cases hxt
      · show n ≠ 0; omega
      · cases hxt
  unfold takeR
  rw [tkR_append, tkR_append, h2]
  simp
theorem tk_give {l : List Run} {k : Nat} {r : Run} (hk : l[k]? = some r) (ht : r.taken = true) :
    tkR (giveR l k r) = tkR (l.take k) ++ tkR (l.drop (k + 1)) ∧ tkR l = tkR (l.take k) ++ r :: tkR (l.drop (k + 1)) := by
  refine ⟨?_, by rw [tkR_at hk, ht]; simp⟩
  have h1 : tkR (l.drop (giveTo l k)) = tkR (l.drop (k + 1)) := by
    rcases giveTo_cases l k r with ⟨h1, -⟩ | ⟨p, h1, h2, h3, -⟩
    · rw [h1]
    · rw [h3, drop_at h1]
      unfold tkR
      rw [List.filter_cons, h2]
      simp
  have h2 : tkR (l.take (giveFrom l k)) = tkR (l.take k) := by
    rcases giveFrom_cases l k r with ⟨h1, -⟩ | ⟨j, p, rfl, h1, h2, h3, -⟩
    · rw [h1]
    · rw [h3, take_at h1, tkR_append]
      unfold tkR
      simp [h2]
  have h3 := (giveFrom_free l k r).2
  unfold giveR
  rw [tkR_append, tkR_append, h1, h2]
  unfold tkR
  simp [h3]

/-- Runs in a row lie apart. -/
theorem Tile.apart : ∀ {l : List Run} {a z : Nat}, Tile a l z → l.Pairwise fun x y => x.stop ≤ y.page
  | [], _, _, _ => List.Pairwise.nil
  | r :: l, a, z, h => List.Pairwise.cons (fun y hy => (h.2.2.bounds y hy).1) h.2.2.apart
theorem Tile.uniq {l : List Run} {a z : Nat} (h : Tile a l z) {x y : Run} (hx : x ∈ l) (hy : y ∈ l) {k : Nat} (h1 : x.page ≤ k) (h2 : k < x.stop) (h3 : y.page ≤ k) (h4 : k < y.stop) : x = y := by
  obtain ⟨i, hi, rfl⟩ := List.mem_iff_getElem.1 hx
  obtain ⟨j, hj, rfl⟩ := List.mem_iff_getElem.1 hy
  have hp := List.pairwise_iff_getElem.1 h.apart
  rcases Nat.lt_trichotomy i j with hij | rfl | hij
  · have := hp i j hi hj hij; omega
  · rfl
  · have := hp j i hj hi hij; omega
theorem Tile.same_page {l : List Run} {a z : Nat} (h : Tile a l z) {x y : Run} (hx : x ∈ l) (hy : y ∈ l) (hp : x.page = y.page) : x = y := by
  have h1 := (h.bounds x hx).2.1
  have h2 := (h.bounds y hy).2.1
  exact h.uniq hx hy (k := x.page) (Nat.le_refl _) (by unfold Run.stop; omega) (by omega) (by unfold Run.stop; omega)
theorem Run.first_mod (r : Run) (al : Nat) : r.first al % al = 0 := by
  unfold Run.first
  rw [Nat.mul_mod_left]
/-- A taken run stays, or is the new one. -/
theorem take_mem {l : List Run} {k n al : Nat} {r : Run} (hk : l[k]? = some r) (ht : r.taken = false) (hn : 0 < n) (x : Run) : (x ∈ takeR l k r n al ∧ x.taken = true) ↔ (x ∈ l ∧ x.taken = true) ∨ x = ⟨r.first al, n, true⟩ := by
  obtain ⟨h1, h2⟩ := tk_take (al := al) hk ht hn
  rw [← tkR_mem, ← tkR_mem, h1, h2]
  simp only [List.mem_append, List.mem_cons]
  constructor
  · rintro (h | h | h)
    · exact .inl (.inl h)
    · exact .inr h
    · exact .inl (.inr h)
  · rintro ((h | h) | h)
    · exact .inl h
    · exact .inr (.inr h)
    · exact .inr (.inl h)
theorem give_mem {l : List Run} {a z k : Nat} {r : Run} (hT : Tile a l z) (hk : l[k]? = some r) (ht : r.taken = true) (x : Run) : (x ∈ giveR l k r ∧ x.taken = true) ↔ (x ∈ l ∧ x.taken = true) ∧ x ≠ r := by
  obtain ⟨h1, h2⟩ := tk_give hk ht
  rw [← tkR_mem, ← tkR_mem, h1, h2]
  have hp := hT.apart
  rw [list_at hk, List.pairwise_append] at hp
  obtain ⟨-, hp2, hp3⟩ := hp
  have hr := (hT.bounds r (List.mem_of_getElem? hk)).2.1
  have e1 : r ∉ tkR (l.take k) := fun hh => by
    have := hp3 r (tkR_mem.1 hh).1 r List.mem_cons_self
    unfold Run.stop at this; omega
  have e2 : r ∉ tkR (l.drop (k + 1)) := fun hh => by
    have := (List.pairwise_cons.1 hp2).1 r (tkR_mem.1 hh).1
    unfold Run.stop at this; omega
  simp only [List.mem_append, List.mem_cons]
  constructor
  · rintro (h | h)
    · exact ⟨.inl h, fun e => e1 (e ▸ h)⟩
    · exact ⟨.inr (.inr h), fun e => e2 (e ▸ h)⟩
  · rintro ⟨h | h | h, h4⟩
    · exact .inl h
    · exact absurd h h4
    · exact .inr h

end Go.Proofs.YtlljejmblmjjnaaGreatDoor
