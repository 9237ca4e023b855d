/- Runs of pages: plain numbers and lists. -/
import Derived.Test.YtlljejmblmjjnaaGreatDoorNA
import Derived.Laws.Tables
import Derived.Deep.Cut
namespace Go.Proofs.YtlljejmblmjjnaaGreatDoor
set_option linter.unusedVariables false
set_option linter.unusedSimpArgs false

/-- Pages side by side. -/
structure Run where
  page : Nat
  n : Nat
  taken : Bool
def Run.stop (r : Run) : Nat := r.page + r.n
def Run.first (r : Run) (al : Nat) : Nat := (r.page + (al - 1)) / al * al
def Run.holds (r : Run) (n al : Nat) : Bool := !r.taken && decide (r.first al + n ≤ r.stop)
theorem Run.first_ge (r : Run) {al : Nat} (h : 0 < al) : r.page ≤ r.first al := by
  unfold Run.first
  have h1 := Nat.div_add_mod (r.page + (al - 1)) al
  have h2 := Nat.mod_lt (r.page + (al - 1)) h
  rw [Nat.mul_comm] at h1
  generalize (r.page + (al - 1)) / al * al = x at *
  omega

/-- Runs that lie side by side, from one page to another. -/
def Tile : Nat → List Run → Nat → Prop
  | a, [], z => a = z
  | a, r :: l, z => r.page = a ∧ 0 < r.n ∧ Tile r.stop l z

theorem Tile.le : ∀ {l : List Run} {a z : Nat}, Tile a l z → a ≤ z
  | [], _, _, h => Nat.le_of_eq h
  | r :: l, a, z, h => by have h1 := h.1; have h2 := Tile.le h.2.2; unfold Run.stop at h2; omega
theorem Tile.append : ∀ {l m : List Run} {a b z : Nat}, Tile a l b → Tile b m z → Tile a (l ++ m) z
  | [], m, a, b, z, h, k => by cases (h : a = b); exact k
  | r :: l, m, a, b, z, h, k => ⟨h.1, h.2.1, Tile.append h.2.2 k⟩
theorem Tile.split : ∀ {l : List Run} {a z : Nat} (k : Nat) (_ : k < l.length), Tile a l z → ∃ (r : Run), l[k]? = some r ∧ Tile a (l.take k) r.page ∧ 0 < r.n ∧ Tile r.stop (l.drop (k + 1)) z
  | r :: l, a, z, 0, _, h => ⟨r, rfl, h.1.symm, h.2.1, h.2.2⟩
  | r :: l, a, z, k + 1, hk, h => by
    obtain ⟨x, h1, h2, h3, h4⟩ := Tile.split (l := l) k (by simpa using hk) h.2.2
    exact ⟨x, by simpa using h1, ⟨h.1, h.2.1, h2⟩, h3, by simpa using h4⟩
theorem Tile.bounds : ∀ {l : List Run} {a z : Nat}, Tile a l z → ∀ r ∈ l, a ≤ r.page ∧ 0 < r.n ∧ r.stop ≤ z
  | [], _, _, _, r, hr => by simp at hr
  | x :: l, a, z, h, r, hr => by
    have h1 := h.1
    rcases List.mem_cons.1 hr with rfl | hr
    · exact ⟨Nat.le_of_eq h1.symm, h.2.1, Tile.le h.2.2⟩
    · have h3 := Tile.bounds h.2.2 r hr
      have h4 := h.2.1
      unfold Run.stop at h3 ⊢
      omega
theorem Tile.length_le : ∀ {l : List Run} {a z : Nat}, Tile a l z → a + l.length ≤ z
  | [], _, _, h => by simpa using Nat.le_of_eq h
  | r :: l, a, z, h => by
    have h1 := Tile.length_le h.2.2
    have h2 := h.1
    have h3 := h.2.1
    unfold Run.stop at h1
    simp only [List.length_cons]
    omega

/-- The run that has a page. -/
def idxR (p : Nat) : List Run → Nat
  | [] => 0
  | r :: l => if p < r.stop then 0 else idxR p l + 1
theorem idxR_spec : ∀ {l : List Run} {a z p : Nat}, Tile a l z → a ≤ p → p < z → idxR p l < l.length ∧ ∃ r, l[idxR p l]? = some r ∧ r.page ≤ p ∧ p < r.stop
  | [], a, z, p, h, h1, h2 => by cases (h : a = z); omega
  | r :: l, a, z, p, h, h1, h2 => by
    unfold idxR
    by_cases hp : p < r.stop
    · rw [if_pos hp]
      exact ⟨by simp, r, rfl, by have := h.1; omega, hp⟩
    · rw [if_neg hp]
      obtain ⟨g1, x, g2, g3, g4⟩ := idxR_spec h.2.2 (by omega) h2
      exact ⟨by simpa using g1, x, by simpa using g2, g3, g4⟩

def lessB (r : Run) : Option (Nat × Nat) → Bool | none => true | some p => decide (r.n < p.2)
/-- The best run: its place, and how many pages it has. -/
def placeF (n al : Nat) : List Run → Nat → Option (Nat × Nat) → Option (Nat × Nat)
  | [], _, b => b
  | r :: l, k, b => placeF n al l (k + 1) (if r.holds n al && lessB r b then some (k, r.n) else b)
def placeR (n al : Nat) (l : List Run) : Option Nat := (placeF n al l 0 none).map Prod.fst

theorem placeF_spec (n al : Nat) (all : List Run) : ∀ (l : List Run) (k : Nat) (b : Option (Nat × Nat)), all.drop k = l → (∀ j m, b = some (j, m) → j < k ∧ ∃ r, all[j]? = some r ∧ r.n = m ∧ r.holds n al = true) →
    ∀ j m, placeF n al l k b = some (j, m) → ∃ r, all[j]? = some r ∧ r.n = m ∧ r.holds n al = true
  | [], k, b, _, hb, j, m, h => (hb j m h).2
  | r :: l, k, b, he, hb, j, m, h => by
    have hk : all[k]? = some r := by rw [← List.head?_drop, he]; rfl
    refine placeF_spec n al all l (k + 1) _ (by rw [← List.tail_drop, he]; rfl) ?_ j m h
    intro j' m' hh
    by_cases hc : (r.holds n al && lessB r b) = true
    · rw [if_pos hc] at hh
      simp only [Option.some.injEq, Prod.mk.injEq] at hh
      obtain ⟨rfl, rfl⟩ := hh
      rw [Bool.and_eq_true] at hc
      exact ⟨by omega, r, hk, rfl, hc.1⟩
    · rw [if_neg hc] at hh
      obtain ⟨h1, h2⟩ := hb j' m' hh
      exact ⟨by omega, h2⟩
theorem placeR_spec {n al : Nat} {l : List Run} {k : Nat} (h : placeR n al l = some k) : k < l.length ∧ ∃ r, l[k]? = some r ∧ r.holds n al = true := by
  unfold placeR at h
  cases hp : placeF n al l 0 none with
  | none => rw [hp] at h; cases h
  | some p =>
    rw [hp] at h
    obtain ⟨j, m⟩ := p
    simp only [Option.map_some, Option.some.injEq] at h
    subst h
    obtain ⟨r, h1, -, h3⟩ := placeF_spec n al l l 0 none rfl (by simp) j m hp
    exact ⟨(List.getElem?_eq_some_iff.1 h1).1, r, h1, h3⟩
theorem placeF_some (n al : Nat) : ∀ (l : List Run) (k : Nat) (p : Nat × Nat), ∃ q, placeF n al l k (some p) = some q
  | [], _, p => ⟨p, rfl⟩
  | r :: l, k, p => by
    unfold placeF
    split
    · exact placeF_some n al l _ _
    · exact placeF_some n al l _ _
theorem placeF_none (n al : Nat) : ∀ (l : List Run) (k : Nat), placeF n al l k none = none → ∀ r ∈ l, r.holds n al = false
  | [], _, _, r, hr => by simp at hr
  | x :: l, k, h, r, hr => by
    unfold placeF at h
    cases hx : x.holds n al
    · rw [hx] at h
      rcases List.mem_cons.1 hr with rfl | hr
      · exact hx
      · exact placeF_none n al l (k + 1) h r hr
    · rw [hx] at h
      obtain ⟨q, hq⟩ := placeF_some n al l (k + 1) (k, x.n)
      simp [hq, lessB] at h
theorem placeR_none {n al : Nat} {l : List Run} (h : placeR n al l = none) : ∀ r ∈ l, r.holds n al = false :=
  placeF_none n al l 0 (by unfold placeR at h; cases hp : placeF n al l 0 none with | none => rfl | some p => rw [hp] at h; cases h)

/-- A run of which pages are taken. -/
def partsR (r : Run) (n al : Nat) : List Run :=
  [⟨r.page, r.first al - r.page, false⟩, ⟨r.first al, n, true⟩, ⟨r.first al + n, r.stop - (r.first al + n), false⟩].filter fun x => x.n != 0
def takeR (l : List Run) (k : Nat) (r : Run) (n al : Nat) : List Run := l.take k ++ partsR r n al ++ l.drop (k + 1)
theorem parts_tile {r : Run} {n al : Nat} (hn : 0 < n) (ha : 0 < al) (h : r.first al + n ≤ r.stop) : Tile r.page (partsR r n al) r.stop := by
  have h1 := r.first_ge ha
  unfold partsR
  by_cases h2 : r.first al - r.page = 0
  · by_cases h3 : r.stop - (r.first al + n) = 0
    · simp only [List.filter_cons, h2, h3, bne_self_eq_false, Bool.false_eq_true, if_false, List.filter_nil]
      rw [if_pos (by simp; omega)]
      exact ⟨by show r.first al = _; omega, hn, by show _ + _ = _; simp only []; omega⟩
    · simp only [List.filter_cons, h2, bne_self_eq_false, Bool.false_eq_true, if_false, List.filter_nil]
      rw [if_pos (by simp; omega), if_pos (by simp; omega)]
      exact ⟨by show r.first al = _; omega, hn, rfl, by show 0 < _; simp only []; omega, by show _ + _ = _; simp only []; omega⟩
  · by_cases h3 : r.stop - (r.first al + n) = 0
    · simp only [List.filter_cons, h3, bne_self_eq_false, Bool.false_eq_true, if_false, List.filter_nil]
      rw [if_pos (by simp; omega), if_pos (by simp; omega)]
      exact ⟨rfl, by show 0 < _; simp only []; omega, by show _ = _ + _; simp only []; omega, hn, by show _ + _ = _; simp only []; omega⟩
    · simp only [List.filter_cons, List.filter_nil]
      rw [if_pos (by simp; omega), if_pos (by simp; omega), if_pos (by simp; omega)]
      exact ⟨rfl, by show 0 < _; simp only []; omega, by show _ = _ + _; simp only []; omega, hn, rfl, by show 0 < _; simp only []; omega, by show _ + _ = _; simp only []; omega⟩
theorem take_tile {l : List Run} {a z k : Nat} {r : Run} {n al : Nat} (h : Tile a l z) (hk : l[k]? = some r) (hn : 0 < n) (ha : 0 < al) (hf : r.first al + n ≤ r.stop) : Tile a (takeR l k r n al) z := by
  obtain ⟨x, h1, h2, h3, h4⟩ := h.split k (List.getElem?_eq_some_iff.1 hk).1
  rw [hk] at h1
  cases h1
  exact (h2.append (parts_tile hn ha hf)).append h4

/-- A span given back: from where, to where, and the run that it comes to. -/
def giveFrom (l : List Run) (k : Nat) : Nat := match k with | 0 => 0 | j + 1 => match l[j]? with | some p => if p.taken then j + 1 else j | none => j + 1
def giveTo (l : List Run) (k : Nat) : Nat := match l[k + 1]? with | some p => if p.taken then k + 1 else k + 2 | none => k + 1
def giveN (l : List Run) (k : Nat) (r : Run) : Nat := match l[k + 1]? with | some p => if p.taken then r.n else r.n + p.n | none => r.n
def giveRun (l : List Run) (k : Nat) (r : Run) : Run :=
  match k with
  | 0 => ⟨r.page, giveN l k r, false⟩
  | j + 1 => match l[j]? with | some p => if p.taken then ⟨r.page, giveN l (j + 1) r, false⟩ else ⟨p.page, giveN l (j + 1) r + p.n, false⟩ | none => ⟨r.page, giveN l (j + 1) r, false⟩
theorem giveTo_tile {l : List Run} {a z k : Nat} {r : Run} (h : Tile a l z) (hk : l[k]? = some r) :
    ∃ m, Tile m (l.drop (giveTo l k)) z ∧ m = r.page + giveN l k r := by
  obtain ⟨x, h1, h2, h3, h4⟩ := h.split k (List.getElem?_eq_some_iff.1 hk).1
  rw [hk] at h1
  cases h1
  unfold giveTo giveN
  cases hp : l[k + 1]? with
  | none => exact ⟨_, h4, rfl⟩
  | some p =>
    by_cases ht : p.taken = true
    · simp only [ht, if_true]
      exact ⟨_, h4, rfl⟩
    · simp only [ht, if_false, Bool.false_eq_true]
      have e : l.drop (k + 1) = p :: l.drop (k + 2) := by
        obtain ⟨hlt, rfl⟩ := List.getElem?_eq_some_iff.1 hp
        exact List.drop_eq_getElem_cons hlt
      rw [e] at h4
      refine ⟨_, h4.2.2, ?_⟩
      have := h4.1
      unfold Run.stop at *
      omega
def giveR (l : List Run) (k : Nat) (r : Run) : List Run := l.take (giveFrom l k) ++ [giveRun l k r] ++ l.drop (giveTo l k)
theorem give_tile {l : List Run} {a z k : Nat} {r : Run} (h : Tile a l z) (hk : l[k]? = some r) : Tile a (giveR l k r) z := by
  obtain ⟨m, g1, g2⟩ := giveTo_tile h hk
  obtain ⟨x, h1, h2, h3, h4⟩ := h.split k (List.getElem?_eq_some_iff.1 hk).1
  obtain rfl : r = x := by rw [hk] at h1; exact Option.some.inj h1
  clear h1
  unfold giveR giveRun giveFrom
  have hn : 0 < giveN l k r := by
    unfold giveN
    cases l[k + 1]? with
    | none => exact h3
    | some p => by_cases ht : p.taken = true <;> simp only [ht, if_true, if_false, Bool.false_eq_true] <;> omega
  have base : Tile a (l.take k ++ [⟨r.page, giveN l k r, false⟩] ++ l.drop (giveTo l k)) z :=
    (h2.append (m := [⟨r.page, giveN l k r, false⟩]) (z := m) ⟨rfl, hn, g2.symm⟩).append g1
  match k, h2, base, hk, hn, g1, g2 with
  | 0, _, base, _, _, _, _ => exact base
  | j + 1, h2, base, hk, hn, g1, g2 =>
    cases hp : l[j]? with
    | none => simp only [hp]; exact base
    | some p =>
      by_cases ht : p.taken = true
      · simp only [hp, ht, if_true]; exact base
      · simp only [hp, ht, if_false, Bool.false_eq_true]
        obtain ⟨y, e1, e2, e3, e4⟩ := h.split j (List.getElem?_eq_some_iff.1 hp).1
        rw [hp] at e1
        cases e1
        have hxp : r.page = p.stop := by
          have e : l.drop (j + 1) = r :: l.drop (j + 2) := by
            obtain ⟨hlt, rfl⟩ := List.getElem?_eq_some_iff.1 hk
            exact List.drop_eq_getElem_cons hlt
          rw [e] at e4
          exact e4.1
        refine (e2.append (m := [⟨p.page, giveN l (j + 1) r + p.n, false⟩]) (z := m) ⟨rfl, by show 0 < giveN l (j + 1) r + p.n; omega, ?_⟩).append g1
        show p.page + (giveN l (j + 1) r + p.n) = m
        unfold Run.stop at hxp
        omega

end Go.Proofs.YtlljejmblmjjnaaGreatDoor

/- spans: readers. -/
namespace Go.Proofs.YtlljejmblmjjnaaGreatDoor
set_option linter.unusedVariables false
set_option linter.unusedSimpArgs false
open Go.RowKit Go.ChangeMaps

def runV (r : Run) : List Value := [.int .i64 r.page, .int .i64 r.n, .bool r.taken]
def runsV (l : List Run) : List Value := l.flatMap runV
theorem runsV_length (l : List Run) : (runsV l).length = l.length * 3 := by
  induction l with
  | nil => rfl
  | cons x l ih => simp only [runsV, List.flatMap_cons, List.length_append, List.length_cons, runV] at *; simp at *; omega
theorem runsV_append (a b : List Run) : runsV (a ++ b) = runsV a ++ runsV b := by simp [runsV]
theorem runsV_get {l : List Run} {k : Nat} (h : k < l.length) : (runsV l)[k * 3]? = some (.int .i64 (l[k].page : Int)) ∧ (runsV l)[k * 3 + 1]? = some (.int .i64 (l[k].n : Int)) ∧ (runsV l)[k * 3 + 2]? = some (.bool l[k].taken) := by
  induction l generalizing k with
  | nil => simp at h
  | cons r l ih =>
    cases k with
    | zero => simp [runsV, runV]
    | succ k =>
      obtain ⟨h1, h2, h3⟩ := ih (k := k) (by simpa using h)
      have e : runsV (r :: l) = runV r ++ runsV l := rfl
      have hl : (runV r).length = 3 := rfl
      rw [e]
      refine ⟨?_, ?_, ?_⟩
      · rw [List.getElem?_append_right (by omega), hl, show (k + 1) * 3 - 3 = k * 3 by omega]; simpa using h1
      · rw [List.getElem?_append_right (by omega), hl, show (k + 1) * 3 + 1 - 3 = k * 3 + 1 by omega]; simpa using h2
      · rw [List.getElem?_append_right (by omega), hl, show (k + 1) * 3 + 2 - 3 = k * 3 + 2 by omega]; simpa using h3

/-- Runs in memory. -/
structure SpansAt (w : World) (sp : Nat) (v : Value) (pages : Nat) (l : List Run) : Prop where
  obj : w.heap[sp]? = some (.cells #[.int .i64 pages, v] 169 (0, 0))
  row : w.ownsRow 0 108 3 v l.length (runsV l)
  tile : Tile 0 l pages
  most : pages ≤ 4096

theorem own_block {w : World} {base n size : Nat} {e : TypeId} {v : Value} {xs : List Value} (h : w.ownsRow base e size v n xs) (hn : 0 < n) :
    ∃ g cap cur, v = .slice (some ⟨g, 0, none⟩) n cap ∧ base ≤ g ∧ w.heap[g]? = some (.cells cur e (0, 0)) ∧ n ≤ cap ∧ cap ≤ maxLen ∧ cur.size = cap * size ∧ cur.toList.take (n * size) = xs := by
  rcases h.2 with ⟨-, h0⟩ | ⟨g, cap, cur, rfl, hb, hg, h1, h2, h3, h4⟩
  · omega
  · exact ⟨g, cap, cur, rfl, hb, hg, h1, h2, h3, h4⟩
theorem own_cells {w : World} {base n size : Nat} {e : TypeId} {v : Value} {xs : List Value} (h : w.ownsRow base e size v n xs) (hn : 0 < n) :
    ∃ g cap, v = .slice (some ⟨g, 0, none⟩) n cap ∧ base ≤ g ∧ n ≤ cap ∧ v.ownBlock = some g ∧ g < w.heap.size ∧ ∀ i, i < n * size → w.cell? ⟨g, i, none⟩ = xs[i]? := by
  obtain ⟨g, cap, cur, rfl, hb, hg, h1, h2, h3, h4⟩ := own_block h hn
  refine ⟨g, cap, rfl, hb, h1, rfl, lt_of_block hg, fun i hi => ?_⟩
  rw [cell_of_block hg, ← h4, List.getElem?_take_of_lt hi, Array.getElem?_toList]

theorem SpansAt.lt {w : World} {sp pages : Nat} {v : Value} {l : List Run} (h : SpansAt w sp v pages l) : sp < w.heap.size ∧ ∀ g, v.ownBlock = some g → g < w.heap.size ∧ g ≠ sp := by
  refine ⟨lt_of_block h.obj, fun g hg => ⟨(h.row.lt g hg).2, ?_⟩⟩
  rintro rfl
  rcases h.row.2 with ⟨rfl, -⟩ | ⟨g2, cap, cur, rfl, hb, hg2, -⟩
  · cases hg
  · cases hg
    rw [h.obj] at hg2
    simp at hg2
theorem SpansAt.turned {F : Nat → Prop} {w w' : World} {sp pages : Nat} {v : Value} {l : List Run} (h : SpansAt w sp v pages l) (t : Turned F w w') (hs : ¬ F sp) (hv : ∀ g, v.ownBlock = some g → ¬ F g) : SpansAt w' sp v pages l := by
  refine ⟨(t.block _ (lt_of_block h.obj) hs).trans h.obj, ⟨h.row.1, ?_⟩, h.tile, h.most⟩
  rcases h.row.2 with h0 | ⟨g, cap, cur, rfl, hb, hg, h1⟩
  · exact .inl h0
  · exact .inr ⟨g, cap, cur, rfl, hb, (t.block _ (lt_of_block hg) (hv g rfl)).trans hg, h1⟩
theorem SpansAt.below {w w' : World} {sp pages : Nat} {v : Value} {l : List Run} (h : SpansAt w sp v pages l) (hb : Below w.heap.size w w') : SpansAt w' sp v pages l :=
  h.turned (Turned.of_below (F := fun _ => False) hb (Nat.le_refl _)) (fun h => h) (fun _ _ h => h)

theorem andNot_i64 (x y r : Nat) (hx : x < 2 ^ 63) (hy : y < 2 ^ 63) (hr : r < 2 ^ 63) (h : ∀ j, j < 63 → r.testBit j = (x.testBit j && !y.testBit j)) : bits .andNot .i64 (x : Int) (y : Int) = r := by
  have e : (BitVec.ofNat 64 x &&& ~~~(BitVec.ofNat 64 y)).toNat = r := by
    apply Nat.eq_of_testBit_eq
    intro j
    rw [BitVec.testBit_toNat, BitVec.getLsbD_and, BitVec.getLsbD_not, BitVec.getLsbD_ofNat, BitVec.getLsbD_ofNat]
    by_cases hj : j < 63
    · rw [h j hj]
      have h64 : j < 64 := by omega
      simp [h64]
    · have h1 : r.testBit j = false := Nat.testBit_lt_two_pow (Nat.lt_of_lt_of_le hr (Nat.pow_le_pow_right (by decide) (by omega)))
      have h2 : x.testBit j = false := Nat.testBit_lt_two_pow (Nat.lt_of_lt_of_le hx (Nat.pow_le_pow_right (by decide) (by omega)))
      rw [h1, h2]
      simp
  show IntKind.i64.wrap ((BitVec.ofInt 64 (x : Int) &&& ~~~(BitVec.ofInt 64 (y : Int))).toNat : Int) = r
  rw [ofInt_nat, ofInt_nat, e, IntKind.wrap_i64]
  omega
theorem andNot_low_i64 (x i : Nat) (hx : x < 2 ^ 63) (hi : i < 63) : bits .andNot .i64 (x : Int) ((2 ^ i - 1 : Nat) : Int) = ((x / 2 ^ i * 2 ^ i : Nat) : Int) := by
  have hp : 2 ^ i < 2 ^ 63 := Nat.pow_lt_pow_right (by decide) hi
  have hle : x / 2 ^ i * 2 ^ i ≤ x := Nat.div_mul_le_self _ _
  refine andNot_i64 x (2 ^ i - 1) _ hx (by omega) (by omega) fun j _ => ?_
  rw [Nat.testBit_two_pow_sub_one, Nat.mul_comm, Nat.testBit_two_pow_mul, Nat.testBit_div_two_pow]
  by_cases h : i ≤ j
  · have : ¬ j < i := by omega
    simp [h, this]
  · have : j < i := by omega
    simp [h, this]

/-- A power of two. -/
def Pow2 (al : Nat) : Prop := ∃ i, i ≤ 12 ∧ al = 2 ^ i

set_option maxHeartbeats 400000 in
theorem runFirst_any (r : Run) (al : Nat) (ha : Pow2 al) (hr : r.page ≤ 4096) (w : World) :
    Calls Tryz.prog 122 #[.agg #[.int .i64 r.page, .int .i64 r.n, .bool r.taken], .int .i64 al] w fun e w' => e = .returned (.int .i64 (r.first al : Nat)) ∧ Below w.heap.size w w' := by
  obtain ⟨i, hi, rfl⟩ := ha
  have hp : 2 ^ i ≤ 2 ^ 12 := Nat.pow_le_pow_right (by decide) hi
  have hp1 : 1 ≤ 2 ^ i := Nat.one_le_two_pow
  have e1 : ((r.page : Int) + ((2 ^ i : Nat) : Int)) - 1 = ((r.page + (2 ^ i - 1) : Nat) : Int) := by omega
  have e2 : ((2 ^ i : Nat) : Int) - 1 = ((2 ^ i - 1 : Nat) : Int) := by omega
  have hv := andNot_low_i64 (r.page + (2 ^ i - 1)) i (by omega) (by omega)
  have hv2 : bits .andNot .i64 ((r.page : Int) + ((2 ^ i : Nat) : Int) - 1) (((2 ^ i : Nat) : Int) - 1) = ((r.first (2 ^ i) : Nat) : Int) := by rw [e1, e2, hv]; rfl
  generalize r.first (2 ^ i) = f at *
  clear hv e1 e2
  generalize 2 ^ i = a at *
  go_enter Tryz.func122, Tryz.ntmps122
  go_wp2
  go_ret
  exact ⟨rfl, (by repeat (first | exact Below.refl _ _ | assumption | refine Below.alloc ?_ (by first | omega | (simp <;> omega)) _ | refine Below.drew ?_ | refine Below.setCell ?_ (by first | omega | (simp <;> omega)) _ | refine Below.via (by assumption) (by first | omega | (simp <;> omega)) ?_))⟩

set_option maxHeartbeats 400000 in
theorem runEnd_any (r : Run) (hr : r.stop ≤ 4096) (w : World) :
    Calls Tryz.prog 123 #[.agg #[.int .i64 r.page, .int .i64 r.n, .bool r.taken]] w fun e w' => e = .returned (.int .i64 (r.stop : Nat)) ∧ Below w.heap.size w w' := by
  have hs : (r.page : Int) + (r.n : Int) = ((r.stop : Nat) : Int) := by unfold Run.stop; omega
  have hb : r.page ≤ 4096 ∧ r.n ≤ 4096 := by unfold Run.stop at hr; omega
  generalize r.stop = s at *
  go_enter Tryz.func123, Tryz.ntmps123
  go_wp2
  go_ret
  exact ⟨rfl, (by repeat (first | exact Below.refl _ _ | assumption | refine Below.alloc ?_ (by first | omega | (simp <;> omega)) _ | refine Below.drew ?_ | refine Below.setCell ?_ (by first | omega | (simp <;> omega)) _ | refine Below.via (by assumption) (by first | omega | (simp <;> omega)) ?_))⟩

set_option maxRecDepth 4000 in
set_option maxHeartbeats 1000000 in
theorem runHolds_any (r : Run) (n al : Nat) (ha : Pow2 al) (hr : r.stop ≤ 4096) (hn : n < 2 ^ 62) (w : World) :
    Calls Tryz.prog 149 #[.agg #[.int .i64 r.page, .int .i64 r.n, .bool r.taken], .int .i64 n, .int .i64 al] w fun e w' => e = .returned (.bool (r.holds n al)) ∧ Below w.heap.size w w' := by
  have hb : r.page ≤ 4096 := by unfold Run.stop at hr; omega
  have HE := Lib.hid (fun w => runEnd_any r hr w)
  have HF := Lib.hid (fun w => runFirst_any r al ha hb w)
  have hfl : r.first al ≤ 8192 := by
    obtain ⟨i, hi, rfl⟩ := ha
    have hp : 2 ^ i ≤ 2 ^ 12 := Nat.pow_le_pow_right (by decide) hi
    unfold Run.first
    have := Nat.div_mul_le_self (r.page + (2 ^ i - 1)) (2 ^ i)
    omega
  cases ht : r.taken with
  | true =>
    rw [show r.holds n al = false by unfold Run.holds; rw [ht]; rfl]
    rw [ht] at HE HF
    go_enter Tryz.func149, Tryz.ntmps149
    go_wp2
    (refine wp_region_quiet_ext (by kernel_rfl) (by kernel_rfl) ?_; (repeat (first | go_big_quiet_step ((fail)) | quiet_step ((fail)))); refine wpQuiet_nil ?_; intro w1 hw1; obtain hb := below_of_ext hw1; clear hw1; obtain ⟨hc, hf⟩ := bcell hb; have hz := hb.size; (try simp at hz))
    have HB := Lib.hid (show Below w.heap.size w w1 from Below.via hb (by simp) (by repeat (first | exact Below.refl _ _ | assumption | refine Below.alloc ?_ (by first | omega | (simp <;> omega)) _ | refine Below.drew ?_ | refine Below.setCell ?_ (by first | omega | (simp <;> omega)) _ | refine Below.via (by assumption) (by first | omega | (simp <;> omega)) ?_)))
    clear hb hc hf
    go_wp2
    go_ret
    exact ⟨rfl, HB.out⟩
  | false =>
    have hh : r.holds n al = decide ((n : Int) ≤ (r.stop : Int) - (r.first al : Int)) := by
      unfold Run.holds
      rw [ht]
      simp only [Bool.not_false, Bool.true_and]
      apply decide_eq_decide.2
      omega
    rw [hh]
    rw [ht] at HE HF
    have hw : IntKind.i64.wrap ((r.stop : Int) - (r.first al : Int)) = (r.stop : Int) - (r.first al : Int) := by rw [IntKind.wrap_i64]; omega
    clear hh
    generalize r.stop = s at *
    generalize r.first al = f at *
    go_enter Tryz.func149, Tryz.ntmps149
    go_wp2
    (refine wp_region_quiet_ext (by kernel_rfl) (by kernel_rfl) ?_; (repeat (first | go_big_quiet_step (((first | (go_at_call 123; exact Calls.ext_of (HE.out _)) | (go_at_call 122; exact Calls.ext_of (HF.out _))))) | quiet_step (((first | (go_at_call 123; exact Calls.ext_of (HE.out _)) | (go_at_call 122; exact Calls.ext_of (HF.out _))))))); refine wpQuiet_nil ?_; intro w1 hw1; obtain hb := below_of_ext hw1; clear hw1; obtain ⟨hc, hf⟩ := bcell hb; have hz := hb.size; (try simp at hz))
    have HB := Lib.hid (show Below w.heap.size w w1 from Below.via hb (by simp) (by repeat (first | exact Below.refl _ _ | assumption | refine Below.alloc ?_ (by first | omega | (simp <;> omega)) _ | refine Below.drew ?_ | refine Below.setCell ?_ (by first | omega | (simp <;> omega)) _ | refine Below.via (by assumption) (by first | omega | (simp <;> omega)) ?_)))
    clear hb hc hf
    go_wp2
    go_ret
    exact ⟨rfl, HB.out⟩

end Go.Proofs.YtlljejmblmjjnaaGreatDoor

/- spans: place, right, Can, Free, New. -/
namespace Go.Proofs.YtlljejmblmjjnaaGreatDoor
set_option linter.unusedVariables false
set_option linter.unusedSimpArgs false
open Go.RowKit Go.ChangeMaps

/-- A row of runs, cell by cell. -/
theorem SpansAt.open {w : World} {sp pages : Nat} {v : Value} {l : List Run} (h : SpansAt w sp v pages l) :
    ∃ p cap, v = .slice p l.length cap ∧ l.length ≤ cap ∧ ∀ k (hk : k < l.length), ∃ g, p = some ⟨g, 0, none⟩ ∧ g < w.heap.size ∧ w.cell? ⟨g, k * 3, none⟩ = some (.int .i64 (l[k].page : Int)) ∧ w.cell? ⟨g, k * 3 + 1, none⟩ = some (.int .i64 (l[k].n : Int)) ∧ w.cell? ⟨g, k * 3 + 2, none⟩ = some (.bool l[k].taken) := by
  rcases h.row.2 with ⟨rfl, h0⟩ | ⟨g, cap, cur, rfl, hb, hg, h1, h2, h3, h4⟩
  · exact ⟨none, 0, by rw [h0], by omega, fun k hk => by omega⟩
  · refine ⟨_, cap, rfl, h1, fun k hk => ⟨g, rfl, lt_of_block hg, ?_, ?_, ?_⟩⟩
    · rw [cell_of_block hg, ← Array.getElem?_toList, ← List.getElem?_take_of_lt (show k * 3 < l.length * 3 by omega), h4]; exact (runsV_get hk).1
    · rw [cell_of_block hg, ← Array.getElem?_toList, ← List.getElem?_take_of_lt (show k * 3 + 1 < l.length * 3 by omega), h4]; exact (runsV_get hk).2.1
    · rw [cell_of_block hg, ← Array.getElem?_toList, ← List.getElem?_take_of_lt (show k * 3 + 2 < l.length * 3 by omega), h4]; exact (runsV_get hk).2.2

def bestI : Option (Nat × Nat) → Int | none => -1 | some p => p.1
def placeI (o : Option Nat) : Int := match o with | none => -1 | some k => k

def PlaceR (w wr : World) (n al : Nat) (l : List Run) (k : Nat) (b : Value) : Prop :=
  ∃ o, b = .int .i64 (bestI o) ∧ placeF n al (l.drop k) k o = placeF n al l 0 none ∧ (∀ j m, o = some (j, m) → j < k ∧ ∃ hj : j < l.length, l[j].n = m) ∧ Below w.heap.size w wr

set_option maxRecDepth 100000 in
set_option maxHeartbeats 2000000 in
theorem place_yes (sp pages n al : Nat) (v : Value) (l : List Run) (w : World) (h : SpansAt w sp v pages l) (ha : Pow2 al) (hn : n < 2 ^ 62) :
    Calls Tryz.prog 121 #[.pointer (some ⟨sp, 0, none⟩), .int .i64 n, .int .i64 al] w fun e w' => e = .returned (.int .i64 (placeI (placeR n al l))) ∧ Below w.heap.size w w' := by
  have c1 : w.cell? ⟨sp, 1, none⟩ = some v := by rw [cell_of_block h.obj]; rfl
  have hll := h.tile.length_le
  have hm := h.most
  obtain ⟨p, cap, rfl, hcap, hcell⟩ := h.open
  have HC := Lib.hid hcell
  have HT := Lib.hid (fun k (hk : k < l.length) => h.tile.bounds l[k] (List.getElem_mem hk))
  have HH := Lib.hid (fun (r : Run) (hr : r.stop ≤ 4096) w => runHolds_any r n al ha hr hn w)
  have hsl := cell_lt c1
  clear h hcell
  go_enter Tryz.func121, Tryz.ntmps121
  go_wp2
  go_loopw [7, 15] (fun b i wr => ∃ k : Nat, k ≤ l.length ∧ i = .int .i64 k ∧ PlaceR w wr n al l k b) (fun _ i _ => l.length - (intOf i).toNat)
  case atStart => exact ⟨0, Nat.zero_le _, rfl, none, rfl, rfl, fun j m hj => (by cases hj), Below.refl _ _⟩
  case round =>
    obtain ⟨k, hk, rfl, o, rfl, hpl, ho, hb⟩ := hrel
    have hszr := hb.size
    have HB := Lib.hid hb
    by_cases hlt : k < l.length
    · obtain ⟨g, rfl, hg, y0, y1, y2⟩ := HC.out k hlt
      obtain ⟨t1, t2, t3⟩ := HT.out k hlt
      have hHold := Lib.hid (HH.out l[k] (by omega))
      have x0 := cell_past hb hg y0
      have x1 := cell_past hb hg y1
      have x2 := cell_past hb hg y2
      have s1 := cell_past hb hsl c1
      have hd : l.drop k = l[k] :: l.drop (k + 1) := List.drop_eq_getElem_cons hlt
      rw [hd] at hpl
      have hi1 : (0 : Int) ≤ (k : Int) ∧ (k : Int) < l.length := by omega
      have hkw : IntKind.i64.wrap ((k : Int) + 1) = (k : Int) + 1 := by rw [IntKind.wrap_i64]; omega
      have hgr : g ≠ wr.heap.size := by omega
      cases hh : l[k].holds n al with
      | false =>
        rw [hh] at hHold
        have HREL := Lib.hid (show ∀ wq, Below w.heap.size w wq → PlaceR w wq n al l (k + 1) (.int .i64 (bestI o)) from fun wq hbq => ⟨o, rfl, by
          rw [← hpl]
          show _ = placeF n al _ (k + 1) (if (l[k].holds n al && lessB l[k] o) = true then some (k, l[k].n) else o)
          rw [hh]; rfl, fun j m hj => ⟨by have := (ho j m hj).1; omega, (ho j m hj).2⟩, hbq⟩)
        clear hpl ho hb hd hh t1 t2 t3 y0 y1 y2
        generalize hp0 : l[k].page = p0 at *
        generalize hp1 : l[k].n = p1 at *
        generalize hp2 : l[k].taken = p2 at *
        clear hp0 hp1 hp2
        go_wp2
        (refine wp_region_quiet_ext (by kernel_rfl) (by kernel_rfl) ?_; (repeat (first | go_big_quiet_step (((go_at_call 149; exact Calls.ext_of (hHold.out _)))) | quiet_step (((go_at_call 149; exact Calls.ext_of (hHold.out _)))))); refine wpQuiet_nil ?_; intro w1 hw1; obtain hb := below_of_ext hw1; clear hw1; obtain ⟨hc, hf⟩ := bcell hb; have hz := hb.size; (try simp at hz))
        have HB1 := Lib.hid (show Below w.heap.size w w1 from Below.via hb (by simp; omega) (HB.out.alloc hszr _))
        clear hb hc hf
        go_wp2
        go_roundw
        case rel => exact ⟨k + 1, by omega, by go_num, HREL.out _ HB1.out⟩
        case measure => first | (simp [intOf]; done) | (simp [intOf]; omega)
      | true =>
        rw [hh] at hHold
        cases ho2 : o with
        | none =>
          subst ho2
          have HREL := Lib.hid (show ∀ wq, Below w.heap.size w wq → PlaceR w wq n al l (k + 1) (.int .i64 (k : Int)) from fun wq hbq => ⟨some (k, l[k].n), rfl, by
            rw [← hpl]
            show _ = placeF n al _ (k + 1) (if (l[k].holds n al && lessB l[k] none) = true then some (k, l[k].n) else none)
            rw [hh]; rfl, fun j m hj => (by cases hj; exact ⟨by omega, hlt, rfl⟩), hbq⟩)
          rw [show bestI none = -1 from rfl]
          clear hpl ho hb hd hh t1 t2 t3 y0 y1 y2
          generalize hp0 : l[k].page = p0 at *
          generalize hp1 : l[k].n = p1 at *
          generalize hp2 : l[k].taken = p2 at *
          clear hp0 hp1 hp2
          go_wp2
          (refine wp_region_quiet_ext (by kernel_rfl) (by kernel_rfl) ?_; (repeat (first | go_big_quiet_step (((go_at_call 149; exact Calls.ext_of (hHold.out _)))) | quiet_step (((go_at_call 149; exact Calls.ext_of (hHold.out _)))))); refine wpQuiet_nil ?_; intro w1 hw1; obtain hb := below_of_ext hw1; clear hw1; obtain ⟨hc, hf⟩ := bcell hb; have hz := hb.size; (try simp at hz))
          have HB1 := Lib.hid (show Below w.heap.size w w1 from Below.via hb (by simp; omega) (HB.out.alloc hszr _))
          clear hb hc hf
          go_wp2
          go_roundw
          case rel => exact ⟨k + 1, by omega, by go_num, HREL.out _ HB1.out⟩
          case measure => first | (simp [intOf]; done) | (simp [intOf]; omega)
        | some jm =>
          obtain ⟨j, m⟩ := jm
          subst ho2
          obtain ⟨hjk, hjl, hjm⟩ := ho j m rfl
          obtain ⟨g2, hg2, hg2l, -, y1j, -⟩ := HC.out j hjl
          cases hg2
          have x1j := cell_past hb hg y1j
          have tj := HT.out j hjl
          have hj1 : ((j : Int) == -1) = false := by simp
          have hji : (0 : Int) ≤ (j : Int) ∧ (j : Int) < l.length := by omega
          rw [hjm] at x1j
          rw [show bestI (some (j, m)) = (j : Int) from rfl]
          by_cases hless : l[k].n < m
          · have HREL := Lib.hid (show ∀ wq, Below w.heap.size w wq → PlaceR w wq n al l (k + 1) (.int .i64 (k : Int)) from fun wq hbq => ⟨some (k, l[k].n), rfl, by
              rw [← hpl]
              show _ = placeF n al _ (k + 1) (if (l[k].holds n al && lessB l[k] (some (j, m))) = true then some (k, l[k].n) else some (j, m))
              rw [hh, show lessB l[k] (some (j, m)) = true from decide_eq_true hless]; rfl, fun j2 m2 hj => (by cases hj; exact ⟨by omega, hlt, rfl⟩), hbq⟩)
            have hl2 : decide ((l[k].n : Int) < (m : Int)) = true := decide_eq_true (by omega)
            have hl3 : decide (l[k].n < m) = true := decide_eq_true hless
            clear hjm y1j tj hless
            clear hpl ho hb hd hh t1 t2 t3 y0 y1 y2
            generalize hp0 : l[k].page = p0 at *
            generalize hp1 : l[k].n = p1 at *
            generalize hp2 : l[k].taken = p2 at *
            clear hp0 hp1 hp2
            have s1a := (World.cell?_alloc_past (w := wr) (Obj.cells #[.int .i64 (p0 : Int), .int .i64 (p1 : Int), .bool p2] 108) _ _ (cell_lt s1)).trans s1
            have x1a := (World.cell?_alloc_past (w := wr) (Obj.cells #[.int .i64 (p0 : Int), .int .i64 (p1 : Int), .bool p2] 108) _ _ (cell_lt x1j)).trans x1j
            go_wp2
            (refine wp_region_quiet_ext (by kernel_rfl) (by kernel_rfl) ?_; (repeat (first | go_big_quiet_step (((go_at_call 149; exact Calls.ext_of (hHold.out _)))) | quiet_step (((go_at_call 149; exact Calls.ext_of (hHold.out _)))))); refine wpQuiet_nil ?_; intro w1 hw1; obtain hb := below_of_ext hw1; clear hw1; obtain ⟨hc, hf⟩ := bcell hb; have hz := hb.size; (try simp at hz))
            have HB1 := Lib.hid (show Below w.heap.size w w1 from Below.via hb (by simp; omega) (HB.out.alloc hszr _))
            clear hb hc hf
            go_wp2
            go_roundw
            case rel => exact ⟨k + 1, by omega, by go_num, HREL.out _ HB1.out⟩
            case measure => first | (simp [intOf]; done) | (simp [intOf]; omega)
          · have HREL := Lib.hid (show ∀ wq, Below w.heap.size w wq → PlaceR w wq n al l (k + 1) (.int .i64 (j : Int)) from fun wq hbq => ⟨some (j, m), rfl, by
              rw [← hpl]
              show _ = placeF n al _ (k + 1) (if (l[k].holds n al && lessB l[k] (some (j, m))) = true then some (k, l[k].n) else some (j, m))
              rw [hh, show lessB l[k] (some (j, m)) = false from decide_eq_false hless]; rfl, fun j2 m2 hj => (by cases hj; exact ⟨by omega, hjl, hjm⟩), hbq⟩)
            have hl2 : decide ((l[k].n : Int) < (m : Int)) = false := decide_eq_false (by omega)
            have hl3 : decide (l[k].n < m) = false := decide_eq_false hless
            clear hjm y1j tj hless
            clear hpl ho hb hd hh t1 t2 t3 y0 y1 y2
            generalize hp0 : l[k].page = p0 at *
            generalize hp1 : l[k].n = p1 at *
            generalize hp2 : l[k].taken = p2 at *
            clear hp0 hp1 hp2
            have s1a := (World.cell?_alloc_past (w := wr) (Obj.cells #[.int .i64 (p0 : Int), .int .i64 (p1 : Int), .bool p2] 108) _ _ (cell_lt s1)).trans s1
            have x1a := (World.cell?_alloc_past (w := wr) (Obj.cells #[.int .i64 (p0 : Int), .int .i64 (p1 : Int), .bool p2] 108) _ _ (cell_lt x1j)).trans x1j
            go_wp2
            (refine wp_region_quiet_ext (by kernel_rfl) (by kernel_rfl) ?_; (repeat (first | go_big_quiet_step (((go_at_call 149; exact Calls.ext_of (hHold.out _)))) | quiet_step (((go_at_call 149; exact Calls.ext_of (hHold.out _)))))); refine wpQuiet_nil ?_; intro w1 hw1; obtain hb := below_of_ext hw1; clear hw1; obtain ⟨hc, hf⟩ := bcell hb; have hz := hb.size; (try simp at hz))
            have HB1 := Lib.hid (show Below w.heap.size w w1 from Below.via hb (by simp; omega) (HB.out.alloc hszr _))
            clear hb hc hf
            go_wp2
            go_roundw
            case rel => exact ⟨k + 1, by omega, by go_num, HREL.out _ HB1.out⟩
            case measure => first | (simp [intOf]; done) | (simp [intOf]; omega)
    · obtain rfl : k = l.length := by omega
      rw [List.drop_length] at hpl
      have hres : bestI o = placeI (placeR n al l) := by
        unfold placeR
        rw [← hpl]
        show _ = placeI ((some o).bind fun x => x.map Prod.fst)
        cases o <;> rfl
      rw [hres]
      clear hpl ho hres
      go_wp2
      go_ret
      exact ⟨rfl, HB.out⟩

end Go.Proofs.YtlljejmblmjjnaaGreatDoor

/- spans: right, Can, Free, New, index, Find. -/
namespace Go.Proofs.YtlljejmblmjjnaaGreatDoor
set_option linter.unusedVariables false
set_option linter.unusedSimpArgs false
open Go.RowKit Go.ChangeMaps

set_option maxHeartbeats 400000 in
theorem power_yes (al : Nat) (ha : Pow2 al) (w : World) : Calls Tryz.prog 148 #[.int .i64 al] w fun e w' => e = .returned (.bool true) ∧ w = w' := by
  obtain ⟨i, hi, rfl⟩ := ha
  have hp : 2 ^ i ≤ 2 ^ 12 := Nat.pow_le_pow_right (by decide) hi
  have hp1 : 1 ≤ 2 ^ i := Nat.one_le_two_pow
  have hb : bits .and .i64 ((2 ^ i : Nat) : Int) (((2 ^ i : Nat) : Int) - 1) = 0 := by
    have := bits_mask .i64 63 (by decide) wraps_i64 i (by omega) ((2 ^ i : Nat) : Int) (Int.natCast_nonneg _) (by omega)
    have e : ((2 ^ i : Nat) : Int) = (2 : Int) ^ i := by simp
    rw [e] at this ⊢
    rw [this, Int.emod_self]
  generalize 2 ^ i = al at *
  go_enter Tryz.func148, Tryz.ntmps148
  go_wp2
  go_ret
  exact ⟨rfl, rfl⟩

set_option maxHeartbeats 400000 in
theorem spRight_yes (n al : Nat) (hn : 1 ≤ n) (ha : Pow2 al) (w : World) : Calls Tryz.prog 120 #[.int .i64 n, .int .i64 al] w fun e w' => e = .returned (.bool true) ∧ w = w' := by
  have HP := Lib.hid (fun w => power_yes al ha w)
  have hal : al ≤ 4096 := by
    obtain ⟨i, hi, rfl⟩ := ha
    exact Nat.pow_le_pow_right (n := 2) (by decide) hi
  have h1 : (1 : Int) ≤ (n : Int) := by omega
  have h2 : (al : Int) ≤ 4096 := by omega
  go_enter Tryz.func120, Tryz.ntmps120
  go_wp2_with (fail)
  refine (HP.out _).mono ?_
  rintro e w1 ⟨rfl, rfl⟩
  go_wp2
  go_ret
  exact ⟨rfl, rfl⟩

/-- Free pages. -/
def freeN (l : List Run) : Nat := ((l.filter fun r => !r.taken).map Run.n).sum
theorem freeN_succ (l : List Run) (k : Nat) (h : k < l.length) : freeN (l.take (k + 1)) = freeN (l.take k) + if l[k].taken then 0 else l[k].n := by
  unfold freeN
  rw [List.take_succ_eq_append_getElem h, List.filter_append]
  cases ht : l[k].taken <;> simp [ht]
theorem Tile.sum_le : ∀ {l : List Run} {a z : Nat}, Tile a l z → a + freeN l ≤ z
  | [], _, _, h => by simp [freeN]; exact Nat.le_of_eq h
  | r :: l, a, z, h => by
    have := Tile.sum_le h.2.2
    have h1 := h.1
    unfold Run.stop at this
    unfold freeN at *
    rw [List.filter_cons]
    cases r.taken <;> simp <;> omega

set_option maxRecDepth 100000 in
set_option maxHeartbeats 2000000 in
theorem spFree_any (sp pages : Nat) (v : Value) (l : List Run) (w : World) (h : SpansAt w sp v pages l) :
    Calls Tryz.prog 61 #[.pointer (some ⟨sp, 0, none⟩)] w fun e w' => e = .returned (.int .i64 (freeN l : Nat)) ∧ Below w.heap.size w w' := by
  have c1 : w.cell? ⟨sp, 1, none⟩ = some v := by rw [cell_of_block h.obj]; rfl
  have hll := h.tile.length_le
  have hm := h.most
  obtain ⟨p, cap, rfl, hcap, hcell⟩ := h.open
  have HC := Lib.hid hcell
  have HT := Lib.hid (fun k (hk : k < l.length) => h.tile.bounds l[k] (List.getElem_mem hk))
  have HS := Lib.hid (show ∀ k, k ≤ l.length → freeN (l.take k) ≤ 4096 from fun k hk => by
    have h1 : freeN (l.take k) ≤ freeN l := by
      have e : freeN l = freeN (l.take k) + freeN (l.drop k) := by
        unfold freeN
        rw [← List.sum_append, ← List.map_append, ← List.filter_append, List.take_append_drop]
      omega
    have := h.tile.sum_le
    omega)
  have hsl := cell_lt c1
  clear h hcell
  go_enter Tryz.func61, Tryz.ntmps61
  go_wp2
  go_loopw [3, 11] (fun b i wr => ∃ k : Nat, k ≤ l.length ∧ i = .int .i64 k ∧ b = .int .i64 (freeN (l.take k) : Nat) ∧ Below w.heap.size w wr) (fun _ i _ => l.length - (intOf i).toNat)
  case atStart => exact ⟨0, Nat.zero_le _, rfl, rfl, Below.refl _ _⟩
  case round =>
    obtain ⟨k, hk, rfl, rfl, hb⟩ := hrel
    have hszr := hb.size
    have HB := Lib.hid hb
    have hfs := HS.out k hk
    by_cases hlt : k < l.length
    · obtain ⟨g, rfl, hg, y0, y1, y2⟩ := HC.out k hlt
      obtain ⟨t1, t2, t3⟩ := HT.out k hlt
      have x0 := cell_past hb hg y0
      have x1 := cell_past hb hg y1
      have x2 := cell_past hb hg y2
      have hi1 : (0 : Int) ≤ (k : Int) ∧ (k : Int) < l.length := by omega
      have hkw : IntKind.i64.wrap ((k : Int) + 1) = (k : Int) + 1 := by rw [IntKind.wrap_i64]; omega
      have hsucc := freeN_succ l k hlt
      have hnb : l[k].n ≤ 4096 := by unfold Run.stop at t3; omega
      cases ht : l[k].taken with
      | true =>
        rw [ht] at x2 hsucc
        have HSU := Lib.hid (show freeN (l.take (k + 1)) = freeN (l.take k) from hsucc)
        clear hb t1 t2 t3 y0 y1 y2 hsucc ht hnb
        generalize freeN (l.take k) = f at *
        go_wp2
        go_roundw
        case rel => exact ⟨k + 1, by omega, by go_num, by rw [HSU.out], HB.out.alloc hszr _⟩
        case measure => first | (simp [intOf]; done) | (simp [intOf]; omega)
      | false =>
        rw [ht] at x2 hsucc
        have HSU := Lib.hid (show freeN (l.take (k + 1)) = freeN (l.take k) + l[k].n from hsucc)
        clear hb t1 t2 t3 y0 y1 y2 hsucc ht
        generalize freeN (l.take k) = f at *
        generalize l[k].n = p1 at *
        go_wp2
        go_roundw
        case rel => exact ⟨k + 1, by omega, by go_num, by rw [HSU.out]; go_num, HB.out.alloc hszr _⟩
        case measure => first | (simp [intOf]; done) | (simp [intOf]; omega)
    · obtain rfl : k = l.length := by omega
      rw [List.take_length] at *
      go_wp2
      go_ret
      exact ⟨rfl, HB.out⟩

set_option maxHeartbeats 400000 in
theorem idxCmp_any (r : Run) (p : Nat) (hr : r.page ≤ 4096) (hp : p ≤ 4096) (w : World) :
    Calls Tryz.prog 145 #[.agg #[.int .i64 r.page, .int .i64 r.n, .bool r.taken], .int .i64 p] w fun e w' => e = .returned (.int .i64 ((r.page : Int) - (p : Int))) ∧ Below w.heap.size w w' := by
  have hw : IntKind.i64.wrap ((r.page : Int) - (p : Int)) = (r.page : Int) - (p : Int) := by rw [IntKind.wrap_i64]; omega
  go_enter Tryz.func145, Tryz.ntmps145
  go_wp2
  go_ret
  exact ⟨rfl, (by repeat (first | exact Below.refl _ _ | assumption | refine Below.alloc ?_ (by first | omega | (simp <;> omega)) _ | refine Below.drew ?_ | refine Below.setCell ?_ (by first | omega | (simp <;> omega)) _ | refine Below.via (by assumption) (by first | omega | (simp <;> omega)) ?_))⟩

def BsfI (w wr : World) (lb n : Nat) (i j : Value) : Prop :=
  ∃ a b : Nat, i = .int .i64 a ∧ j = .int .i64 b ∧ a ≤ lb ∧ lb ≤ b ∧ b ≤ n ∧ Below w.heap.size w wr
def numOf : Value → Nat | .int _ x => x.toNat | _ => 0

set_option maxRecDepth 100000 in
set_option maxHeartbeats 2000000 in
theorem bsf_yes (sp pages lb p : Nat) (v : Value) (l : List Run) (w : World) (h : SpansAt w sp v pages l) (hp : p ≤ 4096) (hlb : lb ≤ l.length) (hspec : ∀ k (hk : k < l.length), l[k].page < p ↔ k < lb) (fnd : Bool) (hf : fnd = decide (∃ hk : lb < l.length, l[lb].page = p)) :
    Calls Tryz.prog 144 #[v, .int .i64 p, .func (.func 145) #[] #[]] w fun e w' => e = .returned (.tuple #[.int .i64 lb, .bool fnd]) ∧ Below w.heap.size w w' := by
  have hll := h.tile.length_le
  have hm := h.most
  obtain ⟨q, cap, rfl, hcap, hcell⟩ := h.open
  have HC := Lib.hid hcell
  have HT := Lib.hid (fun k (hk : k < l.length) => h.tile.bounds l[k] (List.getElem_mem hk))
  have HSP := Lib.hid hspec
  have HFN := Lib.hid hf
  have HCM := Lib.hid (fun (r : Run) (hr : r.page ≤ 4096) w => idxCmp_any r p hr hp w)
  clear h hcell hspec hf
  go_enter Tryz.func144, Tryz.ntmps144
  go_wp2
  go_loopw [9, 10] (fun i j wr => BsfI w wr lb l.length i j) (fun i j _ => numOf j - numOf i)
  case atStart => exact ⟨0, l.length, rfl, rfl, Nat.zero_le _, hlb, Nat.le_refl _, Below.refl _ _⟩
  case round =>
    obtain ⟨a, b, rfl, rfl, h1, h2, h3, hb⟩ := hrel
    have HB := Lib.hid hb
    have hszr := hb.size
    by_cases hab : a < b
    · obtain ⟨m, hmm⟩ : ∃ m, m = (a + b) / 2 := ⟨_, rfl⟩
      have hml : m < l.length := by omega
      obtain ⟨g, rfl, hg, y0, y1, y2⟩ := HC.out m hml
      obtain ⟨t1, t2, t3⟩ := HT.out m hml
      have hpg : l[m].page ≤ 4096 := by unfold Run.stop at t3; omega
      have hCM := Lib.hid (HCM.out l[m] hpg)
      have x0 := cell_past hb hg y0
      have x1 := cell_past hb hg y1
      have x2 := cell_past hb hg y2
      have hsp := HSP.out m hml
      have hu1 : IntKind.u64.wrap ((a : Int) + (b : Int)) = (a : Int) + (b : Int) := wraps_u64 _ (by omega) (by omega)
      have hu2 : ((a : Int) + (b : Int)) / 2 = (m : Int) := by omega
      have hu3 : IntKind.i64.wrap (m : Int) = (m : Int) := by rw [IntKind.wrap_i64]; omega
      have hi1 : (0 : Int) ≤ (m : Int) ∧ (m : Int) < l.length := by omega
      have ham : a ≤ m ∧ m < b := by omega
      by_cases hlt : m < lb
      · have hneg : ((l[m].page : Int) - (p : Int)) < 0 := by have := hsp.2 hlt; omega
        have hneg2 : decide (((l[m].page : Int) - (p : Int)) < 0) = true := decide_eq_true hneg
        clear hsp hmm t1 t2 t3 y0 y1 y2 hb
        generalize l[m].page = p0 at *
        generalize l[m].n = p1 at *
        generalize l[m].taken = p2 at *
        generalize (p0 : Int) - (p : Int) = df at *
        go_wp2_with (fail)
        refine (hCM.out _).mono ?_
        rintro e w2 ⟨rfl, hb2⟩
        have HB2 := Lib.hid (Below.via hb2 hszr HB.out)
        clear hb2
        go_wp2
        go_roundw
        case rel => exact ⟨m + 1, b, by go_num, rfl, hlt, h2, h3, HB2.out⟩
        case measure => simp [numOf]; omega
      · have hneg : ¬ ((l[m].page : Int) - (p : Int)) < 0 := by have : ¬ l[m].page < p := fun hh => hlt (hsp.1 hh); omega
        have hneg2 : decide (((l[m].page : Int) - (p : Int)) < 0) = false := decide_eq_false hneg
        clear hsp hmm t1 t2 t3 y0 y1 y2 hb
        generalize l[m].page = p0 at *
        generalize l[m].n = p1 at *
        generalize l[m].taken = p2 at *
        generalize (p0 : Int) - (p : Int) = df at *
        go_wp2_with (fail)
        refine (hCM.out _).mono ?_
        rintro e w2 ⟨rfl, hb2⟩
        have HB2 := Lib.hid (Below.via hb2 hszr HB.out)
        clear hb2
        go_wp2
        go_roundw
        case rel => exact ⟨a, m, rfl, rfl, h1, by omega, by omega, HB2.out⟩
        case measure => simp [numOf]; omega
    · obtain rfl : a = lb := by omega
      by_cases hll2 : a < l.length
      · obtain ⟨g, rfl, hg, y0, y1, y2⟩ := HC.out a hll2
        obtain ⟨t1, t2, t3⟩ := HT.out a hll2
        have hpg : l[a].page ≤ 4096 := by unfold Run.stop at t3; omega
        have hCM := Lib.hid (HCM.out l[a] hpg)
        have x0 := cell_past hb hg y0
        have x1 := cell_past hb hg y1
        have x2 := cell_past hb hg y2
        have hi1 : (0 : Int) ≤ (a : Int) ∧ (a : Int) < l.length := by omega
        have hfv : fnd = ((l[a].page : Int) - (p : Int) == 0) := by
          rw [HFN.out]
          by_cases he : l[a].page = p
          · rw [decide_eq_true ⟨hll2, he⟩, he]; simp
          · have h0 : ¬ (l[a].page : Int) - (p : Int) = 0 := by omega
            rw [decide_eq_false (fun hh => he hh.2)]; symm; simpa using h0
        have HFV := Lib.hid hfv
        clear t1 t2 t3 y0 y1 y2 hb hfv HFN
        generalize l[a].page = p0 at *
        generalize l[a].n = p1 at *
        generalize l[a].taken = p2 at *
        generalize (p0 : Int) - (p : Int) = df at *
        go_wp2_with (fail)
        refine (hCM.out _).mono ?_
        rintro e w2 ⟨rfl, hb2⟩
        have HB2 := Lib.hid (Below.via hb2 hszr HB.out)
        clear hb2
        go_wp2
        go_ret2
        exact ⟨by rw [HFV.out]; first | rfl | simp, HB2.out⟩
      · have hfv : fnd = false := by rw [HFN.out]; exact decide_eq_false (fun hh => hll2 hh.1)
        have HFV := Lib.hid hfv
        clear hb hfv HFN
        go_wp2
        go_ret2
        exact ⟨by rw [HFV.out]; rfl, HB.out⟩

theorem idxR_lb {l : List Run} {a z p : Nat} (h : Tile a l z) (h1 : a ≤ p) (h2 : p < z) : ∃ lb, lb ≤ l.length ∧ (∀ k (hk : k < l.length), l[k].page < p ↔ k < lb) ∧
    ((∃ hk : lb < l.length, l[lb].page = p) ∧ idxR p l = lb ∨ (¬ ∃ hk : lb < l.length, l[lb].page = p) ∧ idxR p l + 1 = lb) := by
  induction l generalizing a with
  | nil => cases (h : a = z); omega
  | cons r l ih =>
    obtain ⟨e1, e2, e3⟩ := h
    unfold idxR
    have hge : ∀ k (hk : k < l.length), r.stop ≤ l[k].page := fun k hk => (e3.bounds _ (List.getElem_mem hk)).1
    by_cases hp : p < r.stop
    · rw [if_pos hp]
      by_cases he : r.page = p
      · refine ⟨0, Nat.zero_le _, fun k hk => ?_, .inl ⟨⟨by simp, he⟩, rfl⟩⟩
        cases k with
        | zero => simp [he]
        | succ k => have := hge k (by simpa using hk); simp; omega
      · refine ⟨1, by simp, fun k hk => ?_, .inr ⟨?_, rfl⟩⟩
        · cases k with
          | zero => simp; omega
          | succ k => have := hge k (by simpa using hk); simp; omega
        · rintro ⟨hk, h3⟩
          have := hge 0 (by simpa using hk)
          simp at h3
          omega
    · rw [if_neg hp]
      obtain ⟨lb, g1, g2, g3⟩ := ih e3 (by omega)
      refine ⟨lb + 1, by simpa using g1, fun k hk => ?_, ?_⟩
      · cases k with
        | zero => unfold Run.stop at hp; simp; omega
        | succ k => have := g2 k (by simpa using hk); simpa using this
      · rcases g3 with ⟨⟨hk, h3⟩, h4⟩ | ⟨h3, h4⟩
        · exact .inl ⟨⟨by simpa using hk, by simpa using h3⟩, by omega⟩
        · refine .inr ⟨fun ⟨hk, h5⟩ => h3 ⟨by simpa using hk, by simpa using h5⟩, by omega⟩

set_option maxHeartbeats 400000 in
theorem index_yes (sp pages p : Nat) (v : Value) (l : List Run) (w : World) (h : SpansAt w sp v pages l) (hp : p < pages) :
    Calls Tryz.prog 111 #[.pointer (some ⟨sp, 0, none⟩), .int .i64 p] w fun e w' => e = .returned (.int .i64 (idxR p l : Nat)) ∧ Below w.heap.size w w' := by
  have c1 : w.cell? ⟨sp, 1, none⟩ = some v := by rw [cell_of_block h.obj]; rfl
  obtain ⟨lb, g1, g2, g3⟩ := idxR_lb h.tile (Nat.zero_le p) hp
  have hm := h.most
  have hll := h.tile.length_le
  rcases g3 with ⟨g3, g4⟩ | ⟨g3, g4⟩
  · have HB := Lib.hid (bsf_yes sp pages lb p v l w h (by omega) g1 g2 true (decide_eq_true g3).symm)
    rw [g4]
    clear h g2 g3 g4
    go_enter Tryz.func111, Tryz.ntmps111
    go_wp2_with (fail)
    refine HB.out.mono ?_
    rintro e w1 ⟨rfl, hb⟩
    have HB1 := Lib.hid hb
    clear hb
    go_wp2
    go_ret
    exact ⟨rfl, HB1.out⟩
  · have HB := Lib.hid (bsf_yes sp pages lb p v l w h (by omega) g1 g2 false (decide_eq_false g3).symm)
    have e1 : ((idxR p l : Nat) : Int) = (lb : Int) - 1 := by omega
    rw [e1]
    have hlb : lb ≤ 4096 := by omega
    have hlb1 : 1 ≤ lb := by omega
    clear h g2 g3 g4 e1
    go_enter Tryz.func111, Tryz.ntmps111
    go_wp2_with (fail)
    refine HB.out.mono ?_
    rintro e w1 ⟨rfl, hb⟩
    have HB1 := Lib.hid hb
    clear hb
    go_wp2
    go_ret
    exact ⟨rfl, HB1.out⟩

end Go.Proofs.YtlljejmblmjjnaaGreatDoor

/- spans: Find, New. -/
namespace Go.Proofs.YtlljejmblmjjnaaGreatDoor
set_option linter.unusedVariables false
set_option linter.unusedSimpArgs false
open Go.RowKit Go.ChangeMaps

def findR (pages : Nat) (l : List Run) (p : Int) : Option Run := if 0 ≤ p ∧ p < pages then l[idxR p.toNat l]? else none
def findV (o : Option Run) : Value := match o with | some r => .tuple #[.agg #[.int .i64 r.page, .int .i64 r.n, .bool r.taken], .bool true] | none => .tuple #[.agg #[.int .i64 0, .int .i64 0, .bool false], .bool false]

set_option maxRecDepth 100000 in
set_option maxHeartbeats 1000000 in
theorem find_any (sp pages : Nat) (p : Int) (v : Value) (l : List Run) (w : World) (h : SpansAt w sp v pages l) :
    Calls Tryz.prog 65 #[.pointer (some ⟨sp, 0, none⟩), .int .i64 p] w fun e w' => e = .returned (findV (findR pages l p)) ∧ Below w.heap.size w w' := by
  have c0 : w.cell? ⟨sp, 0, none⟩ = some (.int .i64 pages) := by rw [cell_of_block h.obj]; rfl
  have c1 : w.cell? ⟨sp, 1, none⟩ = some v := by rw [cell_of_block h.obj]; rfl
  have hm := h.most
  by_cases hp : 0 ≤ p ∧ p < pages
  · obtain ⟨k, rfl⟩ := Int.eq_ofNat_of_zero_le hp.1
    have hkp : k < pages := by omega
    obtain ⟨i1, r, i2, -, -⟩ := idxR_spec h.tile (Nat.zero_le k) hkp
    have hres : findR pages l (k : Int) = some r := by unfold findR; rw [if_pos hp, Int.toNat_natCast]; exact i2
    rw [hres]
    have hll := h.tile.length_le
    have HI := Lib.hid (fun (W : World) (hb : Below w.heap.size w W) => index_yes sp pages k v l W (h.below hb) hkp)
    obtain ⟨q, cap, rfl, hcap, hcell⟩ := h.open
    obtain ⟨g, rfl, hg, y0, y1, y2⟩ := hcell _ i1
    have he : l[idxR k l] = r := (List.getElem?_eq_some_iff.1 i2).2
    rw [he] at y0 y1 y2
    have h1 : ¬ (k : Int) < 0 := by omega
    have h2 : ¬ (pages : Int) ≤ (k : Int) := by omega
    have h3 : ¬ pages ≤ k := by omega
    have hsl := cell_lt c0
    clear h hcell hres i2 he hp hcap
    generalize idxR k l = ix at *
    have hi1 : (0 : Int) ≤ (ix : Int) ∧ (ix : Int) < l.length := by omega
    generalize hp0 : r.page = p0 at *
    generalize hp1 : r.n = p1 at *
    generalize hp2 : r.taken = p2 at *
    have HP0 := Lib.hid hp0
    have HP1 := Lib.hid hp1
    have HP2 := Lib.hid hp2
    clear hp0 hp1 hp2
    go_enter Tryz.func65, Tryz.ntmps65
    go_upto_region 3 with (fail)
    obtain ⟨W1, hW1⟩ : ∃ W1, W1 = w.alloc (.cells #[.int .i64 0, .int .i64 0, .bool false] 108) := ⟨_, rfl⟩
    have hb1 : Below w.heap.size w W1 := by rw [hW1]; exact (by repeat (first | exact Below.refl _ _ | assumption | refine Below.alloc ?_ (by first | omega | (simp <;> omega)) _ | refine Below.drew ?_ | refine Below.setCell ?_ (by first | omega | (simp <;> omega)) _ | refine Below.via (by assumption) (by first | omega | (simp <;> omega)) ?_))
    have hblk : W1.heap[w.heap.size]? = some (.cells #[.int .i64 0, .int .i64 0, .bool false] 108 (0, 0)) := by rw [hW1]; exact heap_alloc_new _ _
    rw [← hW1]
    clear hW1
    have d1 := cell_past hb1 hsl c1
    have z0 := cell_past hb1 hg y0
    have z1 := cell_past hb1 hg y1
    have z2 := cell_past hb1 hg y2
    have hl1 := lt_of_block hblk
    (refine wp_region_quiet_tail_ext 9 (by kernel_rfl) (by kernel_rfl) ?_; simp only [List.take_succ_cons, List.take_zero, List.drop_succ_cons, List.drop_zero])
    ((repeat (first | go_big_quiet_step ((go_at_call 111; exact Calls.ext_of (HI.out _ (Below.via (below_ext _ _) (by omega) hb1)))) | quiet_step ((go_at_call 111; exact Calls.ext_of (HI.out _ (Below.via (below_ext _ _) (by omega) hb1)))))); refine wpQuiet_nil ?_; intro w3 hw3; obtain hb3 := below_of_ext hw3; clear hw3; have hz3 := hb3.size; (try simp at hz3))
    have HB3 := Lib.hid (Below.via hb3 (by omega) hb1)
    have hblk3 := (hb3.block _ hl1).trans hblk
    have g0 := cell_of_block hblk3 0
    have g1 := cell_of_block hblk3 1
    have g2 := cell_of_block hblk3 2
    have f0 := frozen_of_block hblk3 0
    have f1 := frozen_of_block hblk3 1
    have f2 := frozen_of_block hblk3 2
    have HBLK := Lib.hid hblk3
    clear hb3 hblk3 hblk hb1 c0 c1 y0 y1 y2 d1 z0 z1 z2
    go_wp2
    have hgf : (((w3.setCell ⟨w.heap.size, 0, none⟩ (.int .i64 p0)).setCell ⟨w.heap.size, 1, none⟩ (.int .i64 p1)).setCell ⟨w.heap.size, 2, none⟩ (.bool p2)).heap[w.heap.size]? = some (.cells #[.int .i64 p0, .int .i64 p1, .bool p2] 108 (0, 0)) := by
      rw [heap_setCell_eq (heap_setCell_eq (heap_setCell_eq HBLK.out _) _) _]
      rfl
    have q0 := cell_of_block hgf 0
    have q1 := cell_of_block hgf 1
    have q2 := cell_of_block hgf 2
    refine bodyPost_ret (v := .tuple #[.agg #[.int .i64 p0, .int .i64 p1, .bool p2], .bool true]) (by simp [results, Tryz.results65, go_sem, q0, q1, q2]) rfl ⟨by rw [← HP0.out, ← HP1.out, ← HP2.out]; rfl, ?_⟩
    exact ((HB3.out.setCell (Nat.le_refl _) _).setCell (Nat.le_refl _) _).setCell (Nat.le_refl _) _
  · have hres : findR pages l p = none := by unfold findR; rw [if_neg hp]
    rw [hres]
    clear h hres
    have hsl := cell_lt c0
    by_cases h1 : p < 0
    · clear hp
      go_enter Tryz.func65, Tryz.ntmps65
      go_wp2
      exact bodyPost_ret (v := .tuple #[.agg #[.int .i64 0, .int .i64 0, .bool false], .bool false]) (by simp [results, Tryz.results65, go_sem]) rfl ⟨rfl, (by repeat (first | exact Below.refl _ _ | assumption | refine Below.alloc ?_ (by first | omega | (simp <;> omega)) _ | refine Below.drew ?_ | refine Below.setCell ?_ (by first | omega | (simp <;> omega)) _ | refine Below.via (by assumption) (by first | omega | (simp <;> omega)) ?_))⟩
    · have h2 : (pages : Int) ≤ p := by omega
      clear hp
      go_enter Tryz.func65, Tryz.ntmps65
      go_wp2
      exact bodyPost_ret (v := .tuple #[.agg #[.int .i64 0, .int .i64 0, .bool false], .bool false]) (by simp [results, Tryz.results65, go_sem]) rfl ⟨rfl, (by repeat (first | exact Below.refl _ _ | assumption | refine Below.alloc ?_ (by first | omega | (simp <;> omega)) _ | refine Below.drew ?_ | refine Below.setCell ?_ (by first | omega | (simp <;> omega)) _ | refine Below.via (by assumption) (by first | omega | (simp <;> omega)) ?_))⟩

def initR (pages : Nat) : List Run := if pages = 0 then [] else [⟨0, pages, false⟩]
def SpNewPost (w : World) (pages : Nat) (e : Ending) (w' : World) : Prop :=
  ∃ sp v, e = .returned (.tuple #[.pointer (some ⟨sp, 0, none⟩), .int .i64 0]) ∧ SpansAt w' sp v pages (initR pages) ∧ Below w.heap.size w w' ∧ w.heap.size ≤ sp ∧ ∀ g, v.ownBlock = some g → w.heap.size ≤ g

set_option maxHeartbeats 400000 in
theorem spNew_no (n : Int) (h : n < 0) (w : World) : Calls Tryz.prog 72 #[.int .i64 n] w fun e w' => e = .returned (.tuple #[.pointer none, .int .i64 11]) ∧ w = w' := by
  go_enter Tryz.func72, Tryz.ntmps72
  go_wp2
  go_ret2
  exact ⟨rfl, rfl⟩

set_option maxHeartbeats 400000 in
theorem spNew_yes (pages : Nat) (h : pages ≤ 4096) (w : World) : Calls Tryz.prog 72 #[.int .i64 pages] w (SpNewPost w pages) := by
  have h1 : ¬ (pages : Int) < 0 := by omega
  have h2 : ¬ (4096 : Int) < (pages : Int) := by omega
  have h2' : ¬ 4096 < pages := by omega
  by_cases h0 : pages = 0
  · subst h0
    go_enter Tryz.func72, Tryz.ntmps72
    go_wp2
    go_ret2
    refine ⟨w.heap.size, .slice none 0 0, rfl, ⟨heap_alloc_new _ _, World.ownsRow_nil _ _ _ _, rfl, by decide⟩, (by repeat (first | exact Below.refl _ _ | assumption | refine Below.alloc ?_ (by first | omega | (simp <;> omega)) _ | refine Below.drew ?_ | refine Below.setCell ?_ (by first | omega | (simp <;> omega)) _ | refine Below.via (by assumption) (by first | omega | (simp <;> omega)) ?_)), Nat.le_refl _, fun g hg => (by cases hg)⟩
  · have h3 : (0 : Int) < (pages : Int) := by omega
    have h3' : 0 < pages := by omega
    go_enter Tryz.func72, Tryz.ntmps72
    go_wp2
    go_ret2
    have hir : initR pages = [⟨0, pages, false⟩] := by unfold initR; rw [if_neg h0]
    refine ⟨w.heap.size, .slice (some ⟨w.heap.size + 1, 0, none⟩) 1 1, rfl, ⟨?_, ⟨?_, .inr ⟨w.heap.size + 1, 1, #[.int .i64 0, .int .i64 pages, .bool false], ?_, Nat.zero_le _, ?_, ?_, by decide, rfl, ?_⟩⟩, ?_, h⟩, (by repeat (first | exact Below.refl _ _ | assumption | refine Below.alloc ?_ (by first | omega | (simp <;> omega)) _ | refine Below.drew ?_ | refine Below.setCell ?_ (by first | omega | (simp <;> omega)) _ | refine Below.via (by assumption) (by first | omega | (simp <;> omega)) ?_)), Nat.le_refl _, fun g hg => (by cases hg; exact Nat.le_succ _)⟩
    · exact heap_alloc2_old _ _ _
    · rw [runsV_length]
    · rw [hir]; rfl
    · exact heap_alloc2_new _ _ _
    · rw [hir]; exact Nat.le_refl 1
    · rw [hir]; rfl
    · rw [hir]; exact ⟨rfl, h3', by show 0 + pages = pages; omega⟩

end Go.Proofs.YtlljejmblmjjnaaGreatDoor
