/- Taken runs of pages, and how many pages are free: plain lists. -/
import Derived.Test.YtlljejmblmjjnaaGreatDA
import Derived.Test.YtlljejmblmjjnaaGreatBA
namespace Go.Proofs.YtlljejmblmjjnaaGreat
set_option linter.unusedVariables false
set_option linter.unusedSimpArgs false

theorem freeN_append (a b : List Run) : freeN (a ++ b) = freeN a + freeN b := by
  unfold freeN
  rw [List.filter_append, List.map_append, List.sum_append]
theorem freeN_cons (r : Run) (l : List Run) : freeN (r :: l) = (if r.taken then 0 else r.n) + freeN l := by
  unfold freeN
  cases h : r.taken <;> simp [h]
theorem list_at {α : Type} {l : List α} {k : Nat} {r : α} (hk : l[k]? = some r) : l = l.take k ++ r :: l.drop (k + 1) := by
  obtain ⟨h, rfl⟩ := List.getElem?_eq_some_iff.1 hk
  simp
theorem freeN_at {l : List Run} {k : Nat} {r : Run} (hk : l[k]? = some r) : freeN l = freeN (l.take k) + ((if r.taken then 0 else r.n) + freeN (l.drop (k + 1))) := by
  conv => lhs; rw [list_at hk]
  rw [freeN_append, freeN_cons]
theorem freeN_nz (l : List Run) : freeN (l.filter fun x => x.n != 0) = freeN l := by
  induction l with
  | nil => rfl
  | cons r l ih =>
    rw [List.filter_cons]
    by_cases h : r.n = 0
    · rw [if_neg (by simp [h]), ih, freeN_cons, h]
      simp
    · rw [if_pos (by simp [h]), freeN_cons, freeN_cons, ih]
theorem free_take {l : List Run} {k n al : Nat} {r : Run} (hk : l[k]? = some r) (ht : r.taken = false) (hn : 0 < n) (ha : 0 < al) (hf : r.first al + n ≤ r.stop) : freeN (takeR l k r n al) + n = freeN l := by
  have h1 := r.first_ge ha
  have h2 : freeN (partsR r n al) + n = r.n := by
    unfold partsR
    rw [freeN_nz, freeN_cons, freeN_cons, freeN_cons]
    simp [freeN]
    unfold Run.stop at *
    omega
  unfold takeR
  rw [freeN_append, freeN_append, freeN_at hk, ht]
  simp
  omega

theorem giveTo_cases (l : List Run) (k : Nat) (r : Run) : (giveTo l k = k + 1 ∧ giveN l k r = r.n) ∨ ∃ p, l[k + 1]? = some p ∧ p.taken = false ∧ giveTo l k = k + 2 ∧ giveN l k r = r.n + p.n := by
  unfold giveTo giveN
  cases h : l[k + 1]? with
  | none => exact .inl ⟨rfl, rfl⟩
  | some p =>
    cases hp : p.taken with
    | true => left; simp [hp]
    | false => right; exact ⟨p, rfl, hp, by simp [hp], by simp [hp]⟩
theorem giveFrom_cases (l : List Run) (k : Nat) (r : Run) : (giveFrom l k = k ∧ giveRun l k r = ⟨r.page, giveN l k r, false⟩) ∨
    ∃ j p, k = j + 1 ∧ l[j]? = some p ∧ p.taken = false ∧ giveFrom l k = j ∧ giveRun l k r = ⟨p.page, giveN l k r + p.n, false⟩ := by
  cases k with
  | zero => exact .inl ⟨rfl, rfl⟩
  | succ j =>
    unfold giveFrom giveRun
    cases h : l[j]? with
    | none => left; simp [h]
    | some p =>
      cases hp : p.taken with
      | true => left; simp [h, hp]
      | false => right; exact ⟨j, p, rfl, h, hp, by simp [h, hp], by simp [h, hp]⟩
theorem drop_at {α : Type} {l : List α} {k : Nat} {p : α} (h : l[k]? = some p) : l.drop k = p :: l.drop (k + 1) := by
  obtain ⟨h1, rfl⟩ := List.getElem?_eq_some_iff.1 h
  exact List.drop_eq_getElem_cons h1
theorem take_at {α : Type} {l : List α} {k : Nat} {p : α} (h : l[k]? = some p) : l.take (k + 1) = l.take k ++ [p] := by
  obtain ⟨h1, rfl⟩ := List.getElem?_eq_some_iff.1 h
  rw [List.take_succ_eq_append_getElem h1]
theorem giveTo_free (l : List Run) (k : Nat) (r : Run) : giveN l k r + freeN (l.drop (giveTo l k)) = r.n + freeN (l.drop (k + 1)) := by
  rcases giveTo_cases l k r with ⟨h1, h2⟩ | ⟨p, h1, h2, h3, h4⟩
  · rw [h1, h2]
  · rw [h3, h4, drop_at h1, freeN_cons, h2, show k + 1 + 1 = k + 2 from rfl]
    simp
    omega
theorem giveFrom_free (l : List Run) (k : Nat) (r : Run) : freeN (l.take (giveFrom l k)) + (giveRun l k r).n = freeN (l.take k) + giveN l k r ∧ (giveRun l k r).taken = false := by
  rcases giveFrom_cases l k r with ⟨h1, h2⟩ | ⟨j, p, rfl, h1, h2, h3, h4⟩
  · rw [h1, h2]; exact ⟨rfl, rfl⟩
  · rw [h3, h4, take_at h1, freeN_append, freeN_cons, h2]
    refine ⟨?_, rfl⟩
    simp [freeN]
    omega
theorem free_give {l : List Run} {k : Nat} {r : Run} (hk : l[k]? = some r) (ht : r.taken = true) : freeN (giveR l k r) = freeN l + r.n := by
  have h1 := giveTo_free l k r
  obtain ⟨h2, h3⟩ := giveFrom_free l k r
  unfold giveR
  rw [freeN_append, freeN_append, freeN_cons, h3, freeN_at hk, ht]
  simp [freeN] at *
  omega

/-- The taken runs. -/
def tkR (l : List Run) : List Run := l.filter (·.taken)
theorem tkR_append (a b : List Run) : tkR (a ++ b) = tkR a ++ tkR b := List.filter_append ..
theorem tkR_mem {l : List Run} {x : Run} : x ∈ tkR l ↔ x ∈ l ∧ x.taken = true := List.mem_filter
theorem tkR_at {l : List Run} {k : Nat} {r : Run} (hk : l[k]? = some r) : tkR l = tkR (l.take k) ++ ((if r.taken then [r] else []) ++ tkR (l.drop (k + 1))) := by
  conv => lhs; rw [list_at hk]
  rw [tkR_append]
  unfold tkR
  rw [List.filter_cons]
  cases r.taken <;> simp
theorem tkR_nz (l : List Run) (h : ∀ r ∈ l, r.taken = true → r.n ≠ 0) : tkR (l.filter fun x => x.n != 0) = tkR l := by
  unfold tkR
  rw [List.filter_filter]
  apply List.filter_congr
  intro x hx
  cases ht : x.taken with
  | false => simp
  | true => simp [h x hx ht]
theorem tk_take {l : List Run} {k n al : Nat} {r : Run} (hk : l[k]? = some r) (ht : r.taken = false) (hn : 0 < n) :
    tkR (takeR l k r n al) = tkR (l.take k) ++ ⟨r.first al, n, true⟩ :: tkR (l.drop (k + 1)) ∧ tkR l = tkR (l.take k) ++ tkR (l.drop (k + 1)) := by
  refine ⟨?_, by rw [tkR_at hk, ht]; simp⟩
  have h2 : tkR (partsR r n al) = [⟨r.first al, n, true⟩] := by
    unfold partsR
    rw [tkR_nz]
    · rfl
    · intro x hx hxt
      simp only [List.mem_cons, List.mem_nil_iff, or_false] at hx
      rcases hx with rfl | rfl | rfl
      · cases hxt
      · show n ≠ 0; omega
      · cases hxt
  unfold takeR
  rw [tkR_append, tkR_append, h2]
  simp
theorem tk_give {l : List Run} {k : Nat} {r : Run} (hk : l[k]? = some r) (ht : r.taken = true) :
    tkR (giveR l k r) = tkR (l.take k) ++ tkR (l.drop (k + 1)) ∧ tkR l = tkR (l.take k) ++ r :: tkR (l.drop (k + 1)) := by
  refine ⟨?_, by rw [tkR_at hk, ht]; simp⟩
  have h1 : tkR (l.drop (giveTo l k)) = tkR (l.drop (k + 1)) := by
    rcases giveTo_cases l k r with ⟨h1, -⟩ | ⟨p, h1, h2, h3, -⟩
    · rw [h1]
    · rw [h3, drop_at h1]
      unfold tkR
      rw [List.filter_cons, h2]
      simp
  have h2 : tkR (l.take (giveFrom l k)) = tkR (l.take k) := by
    rcases giveFrom_cases l k r with ⟨h1, -⟩ | ⟨j, p, rfl, h1, h2, h3, -⟩
    · rw [h1]
    · rw [h3, take_at h1, tkR_append]
      unfold tkR
      simp [h2]
  have h3 := (giveFrom_free l k r).2
  unfold giveR
  rw [tkR_append, tkR_append, h1, h2]
  unfold tkR
  simp [h3]

/-- Runs in a row lie apart. -/
theorem Tile.apart : ∀ {l : List Run} {a z : Nat}, Tile a l z → l.Pairwise fun x y => x.stop ≤ y.page
  | [], _, _, _ => List.Pairwise.nil
  | r :: l, a, z, h => List.Pairwise.cons (fun y hy => (h.2.2.bounds y hy).1) h.2.2.apart
theorem Tile.uniq {l : List Run} {a z : Nat} (h : Tile a l z) {x y : Run} (hx : x ∈ l) (hy : y ∈ l) {k : Nat} (h1 : x.page ≤ k) (h2 : k < x.stop) (h3 : y.page ≤ k) (h4 : k < y.stop) : x = y := by
  obtain ⟨i, hi, rfl⟩ := List.mem_iff_getElem.1 hx
  obtain ⟨j, hj, rfl⟩ := List.mem_iff_getElem.1 hy
  have hp := List.pairwise_iff_getElem.1 h.apart
  rcases Nat.lt_trichotomy i j with hij | rfl | hij
  · have := hp i j hi hj hij; omega
  · rfl
  · have := hp j i hj hi hij; omega
theorem Tile.same_page {l : List Run} {a z : Nat} (h : Tile a l z) {x y : Run} (hx : x ∈ l) (hy : y ∈ l) (hp : x.page = y.page) : x = y := by
  have h1 := (h.bounds x hx).2.1
  have h2 := (h.bounds y hy).2.1
  exact h.uniq hx hy (k := x.page) (Nat.le_refl _) (by unfold Run.stop; omega) (by omega) (by unfold Run.stop; omega)
theorem Run.first_mod (r : Run) (al : Nat) : r.first al % al = 0 := by
  unfold Run.first
  rw [Nat.mul_mod_left]
/-- A taken run stays, or is the new one. -/
theorem take_mem {l : List Run} {k n al : Nat} {r : Run} (hk : l[k]? = some r) (ht : r.taken = false) (hn : 0 < n) (x : Run) : (x ∈ takeR l k r n al ∧ x.taken = true) ↔ (x ∈ l ∧ x.taken = true) ∨ x = ⟨r.first al, n, true⟩ := by
  obtain ⟨h1, h2⟩ := tk_take (al := al) hk ht hn
  rw [← tkR_mem, ← tkR_mem, h1, h2]
  simp only [List.mem_append, List.mem_cons]
  constructor
  · rintro (h | h | h)
    · exact .inl (.inl h)
    · exact .inr h
    · exact .inl (.inr h)
  · rintro ((h | h) | h)
    · exact .inl h
    · exact .inr (.inr h)
    · exact .inr (.inl h)
theorem give_mem {l : List Run} {a z k : Nat} {r : Run} (hT : Tile a l z) (hk : l[k]? = some r) (ht : r.taken = true) (x : Run) : (x ∈ giveR l k r ∧ x.taken = true) ↔ (x ∈ l ∧ x.taken = true) ∧ x ≠ r := by
  obtain ⟨h1, h2⟩ := tk_give hk ht
  rw [← tkR_mem, ← tkR_mem, h1, h2]
  have hp := hT.apart
  rw [list_at hk, List.pairwise_append] at hp
  obtain ⟨-, hp2, hp3⟩ := hp
  have hr := (hT.bounds r (List.mem_of_getElem? hk)).2.1
  have e1 : r ∉ tkR (l.take k) := fun hh => by
    have := hp3 r (tkR_mem.1 hh).1 r List.mem_cons_self
    unfold Run.stop at this; omega
  have e2 : r ∉ tkR (l.drop (k + 1)) := fun hh => by
    have := (List.pairwise_cons.1 hp2).1 r (tkR_mem.1 hh).1
    unfold Run.stop at this; omega
  simp only [List.mem_append, List.mem_cons]
  constructor
  · rintro (h | h)
    · exact ⟨.inl h, fun e => e1 (e ▸ h)⟩
    · exact ⟨.inr (.inr h), fun e => e2 (e ▸ h)⟩
  · rintro ⟨h | h | h, h4⟩
    · exact .inl h
    · exact absurd h h4
    · exact .inr h

end Go.Proofs.YtlljejmblmjjnaaGreat

/- The heap of slabs: plain lists. -/
namespace Go.Proofs.YtlljejmblmjjnaaGreat
set_option linter.unusedVariables false
set_option linter.unusedSimpArgs false

/-- A slab of the heap. -/
structure PS where
  page : Nat
  cls : Nat
  L : List Nat
  sealed : Bool
def PS.S (x : PS) : SM := ⟨256 * x.page, x.cls, x.L⟩
def PS.ready (x : PS) : Bool := !x.sealed && decide (0 < x.L.length)
def PS.empty (x : PS) : Bool := decide (x.L.length = slB x.cls)
def PS.covers (x : PS) (k : Nat) : Prop := x.page ≤ k ∧ k < x.page + 4
def PS.addr (x : PS) (k : Nat) : Nat := 256 * x.page + k * szB x.cls
def headN : List Nat → Nat | [] => 0 | x :: _ => x

def clsP (A : List PS) (cls : Int) : List PS := A.filter fun x => (x.cls : Int) == cls
def readyP (A : List PS) (cls : Int) (but : Option Nat) : List PS := (clsP A cls).filter fun x => !(but == some x.page) && x.ready
def minP : PS → List PS → PS
  | m, [] => m
  | m, x :: l => minP (if x.L.length < m.L.length then x else m) l
def bestP (A : List PS) (cls : Int) (but : Option Nat) : Option PS := match readyP A cls but with | [] => none | m :: l => some (minP m l)
def insP (x : PS) : List PS → List PS
  | [] => [x]
  | y :: l => if x.page < y.page then x :: y :: l else y :: insP x l
def updP (A : List PS) (x : PS) : List PS := A.map fun y => if y.page = x.page then x else y
def delP (A : List PS) (p : Nat) : List PS := A.filter fun y => y.page != p
def getP (A : List PS) (p : Int) : Option PS := A.find? fun x => (x.page : Int) == p
def nearP (A : List PS) (at_ : Int) : Option PS := A.find? fun x => decide ((256 * x.page : Nat) ≤ at_ ∧ at_ < (256 * x.page + 1024 : Nat))
def freshP (f cls : Nat) : PS := ⟨f, cls, freeFrom [] (slB cls) 0, false⟩

/-- A heap: the runs of pages, the slabs by their pages. -/
structure HP where
  l : List Run
  A : List PS
def takeP (s : HP) (cls : Int) : (Int × Int) × HP :=
  if 0 ≤ cls ∧ cls < 12 then
    match bestP s.A cls none with
    | some x => (((x.addr (headN x.L) : Nat), 0), ⟨s.l, updP s.A { x with L := x.L.tail }⟩)
    | none =>
      match placeR 4 4 s.l with
      | none => ((-1, 13), s)
      | some k => match s.l[k]? with
        | none => ((-1, 13), s)
        | some r => (((256 * r.first 4 : Nat), 0), ⟨takeR s.l k r 4 4, insP { freshP (r.first 4) cls.toNat with L := (freeFrom [] (slB cls.toNat) 0).tail } s.A⟩)
  else ((-1, 11), s)
def closeP (s : HP) (x : PS) : HP := ⟨giveR s.l (idxR x.page s.l) ⟨x.page, 4, true⟩, delP s.A x.page⟩
def giveP (s : HP) (at_ : Int) : Int × HP :=
  match nearP s.A at_ with
  | none => (12, s)
  | some x => match slotF x.S at_ with
    | none => (12, s)
    | some k => if k ∈ x.L then (19, s) else
      if ({ x with L := k :: x.L } : PS).empty && (x.sealed || (bestP s.A x.cls (some x.page)).isSome) then (0, closeP s x) else (0, ⟨s.l, updP s.A { x with L := k :: x.L }⟩)
def sealP (s : HP) (p : Int) : Int × HP :=
  match getP s.A p with
  | none => (16, s)
  | some x => if x.sealed then (20, s) else if x.empty then (0, closeP s x) else (0, ⟨s.l, updP s.A { x with sealed := true }⟩)
def unsealP (s : HP) (p : Int) : Int × HP :=
  match getP s.A p with
  | none => (16, s)
  | some x => if x.sealed then (0, ⟨s.l, updP s.A { x with sealed := false }⟩) else (20, s)
def someL : Nat → HP → Int → List Int → (List Int × Int) × HP
  | 0, s, _, out => ((out, 0), s)
  | n + 1, s, cls, out =>
    if (takeP s cls).1.2 = 0 then someL n (takeP s cls).2 cls (out ++ [(takeP s cls).1.1])
    else if out = [] then (([], (takeP s cls).1.2), (takeP s cls).2) else ((out, 0), (takeP s cls).2)
def someP (s : HP) (cls n : Int) : (List Int × Int) × HP := if 0 ≤ cls ∧ cls < 12 ∧ 1 ≤ n then someL n.toNat s cls [] else (([], 11), s)
def takenP (A : List PS) : List Int := A.flatMap fun x => (takenL x.S).map fun k => ((x.addr k : Nat) : Int)
def rowsP (A : List PS) (cls : Int) : List PS := clsP A cls

/-- What always holds. -/
structure PS.Ok (pages : Nat) (x : PS) : Prop where
  al : x.page % 4 = 0
  fits : x.page + 4 ≤ pages
  cls : x.cls < 12
  nodup : x.L.Nodup
  lt : ∀ s ∈ x.L, s < slB x.cls
structure HInv (pages : Nat) (s : HP) : Prop where
  tile : Tile 0 s.l pages
  srt : s.A.Pairwise fun x y => x.page < y.page
  each : ∀ x ∈ s.A, x.Ok pages
  tk : ∀ x ∈ s.A, (⟨x.page, 4, true⟩ : Run) ∈ s.l

theorem PS.Ok.len {pages : Nat} {x : PS} (h : x.Ok pages) : x.L.length ≤ slB x.cls := nodup_le _ _ h.nodup h.lt
theorem HInv.uniq {pages : Nat} {s : HP} (h : HInv pages s) {x y : PS} (hx : x ∈ s.A) (hy : y ∈ s.A) {k : Nat} (h1 : x.covers k) (h2 : y.covers k) : x = y := by
  have e1 := h.tile.uniq (h.tk x hx) (h.tk y hy) (k := k) h1.1 h1.2 h2.1 h2.2
  have e2 : x.page = y.page := congrArg Run.page e1
  obtain ⟨i, hi, rfl⟩ := List.mem_iff_getElem.1 hx
  obtain ⟨j, hj, rfl⟩ := List.mem_iff_getElem.1 hy
  have hp := List.pairwise_iff_getElem.1 h.srt
  rcases Nat.lt_trichotomy i j with hij | rfl | hij
  · have := hp i j hi hj hij; omega
  · rfl
  · have := hp j i hj hi hij; omega
theorem HInv.same {pages : Nat} {s : HP} (h : HInv pages s) {x y : PS} (hx : x ∈ s.A) (hy : y ∈ s.A) (hp : x.page = y.page) : x = y :=
  h.uniq hx hy (k := x.page) ⟨Nat.le_refl _, by omega⟩ ⟨by omega, by omega⟩
theorem getP_mem {A : List PS} {p : Int} {x : PS} (h : getP A p = some x) : x ∈ A ∧ (x.page : Int) = p :=
  ⟨List.mem_of_find?_eq_some h, by have := List.find?_some h; simpa using this⟩
theorem HInv.get {pages : Nat} {s : HP} (h : HInv pages s) {x : PS} (hx : x ∈ s.A) : getP s.A x.page = some x := by
  cases hg : getP s.A x.page with
  | none =>
    unfold getP at hg
    rw [List.find?_eq_none] at hg
    exact absurd (by simp) (hg x hx)
  | some y =>
    obtain ⟨h1, h2⟩ := getP_mem hg
    rw [h.same h1 hx (by omega)]
theorem nearP_mem {A : List PS} {at_ : Int} {x : PS} (h : nearP A at_ = some x) : x ∈ A ∧ ((256 * x.page : Nat) : Int) ≤ at_ ∧ at_ < (256 * x.page + 1024 : Nat) :=
  ⟨List.mem_of_find?_eq_some h, by have := List.find?_some h; simpa using this⟩
theorem HInv.near {pages : Nat} {s : HP} (h : HInv pages s) {x : PS} (hx : x ∈ s.A) {at_ : Int} (h1 : ((256 * x.page : Nat) : Int) ≤ at_) (h2 : at_ < (256 * x.page + 1024 : Nat)) : nearP s.A at_ = some x := by
  cases hg : nearP s.A at_ with
  | none =>
    unfold nearP at hg
    rw [List.find?_eq_none] at hg
    exact absurd (by simpa using ⟨by simpa using h1, by simpa using h2⟩) (hg x hx)
  | some y =>
    obtain ⟨h3, h4, h5⟩ := nearP_mem hg
    have hz : ∃ z : Nat, (z : Int) = at_ := ⟨at_.toNat, by omega⟩
    obtain ⟨z, rfl⟩ := hz
    rw [h.uniq h3 hx (k := z / 256) ⟨by omega, by omega⟩ ⟨by omega, by omega⟩]

theorem minP_mem : ∀ (l : List PS) (m : PS), minP m l = m ∨ minP m l ∈ l
  | [], m => .inl rfl
  | x :: l, m => by
    unfold minP
    rcases minP_mem l (if x.L.length < m.L.length then x else m) with h | h
    · rw [h]
      split
      · exact .inr List.mem_cons_self
      · exact .inl rfl
    · exact .inr (List.mem_cons_of_mem _ h)
theorem bestP_mem {A : List PS} {cls : Int} {but : Option Nat} {x : PS} (h : bestP A cls but = some x) : x ∈ A ∧ (x.cls : Int) = cls ∧ but ≠ some x.page ∧ x.sealed = false ∧ 0 < x.L.length := by
  have hm : x ∈ readyP A cls but := by
    unfold bestP at h
    split at h
    · cases h
    · next m l e =>
      rw [e]
      cases h
      rcases minP_mem l m with hh | hh
      · rw [hh]; exact List.mem_cons_self
      · exact List.mem_cons_of_mem _ hh
  unfold readyP clsP at hm
  rw [List.mem_filter, List.mem_filter] at hm
  obtain ⟨⟨h1, h2⟩, h3⟩ := hm
  rw [Bool.and_eq_true] at h3
  obtain ⟨h4, h5⟩ := h3
  unfold PS.ready at h5
  rw [Bool.and_eq_true] at h5
  refine ⟨h1, by simpa using h2, by simpa using h4, by simpa using h5.1, by simpa using h5.2⟩

theorem insP_mem {x y : PS} : ∀ {A : List PS}, y ∈ insP x A ↔ y = x ∨ y ∈ A
  | [] => by simp [insP]
  | z :: l => by
    unfold insP
    split
    · simp
    · rw [List.mem_cons, insP_mem, List.mem_cons]
      constructor
      · rintro (h | h | h)
        · exact .inr (.inl h)
        · exact .inl h
        · exact .inr (.inr h)
      · rintro (h | h | h)
        · exact .inr (.inl h)
        · exact .inl h
        · exact .inr (.inr h)
theorem insP_perm (x : PS) : ∀ A : List PS, (insP x A).Perm (x :: A)
  | [] => .refl _
  | z :: l => by
    unfold insP
    split
    · exact .refl _
    · exact ((insP_perm x l).cons z).trans (.swap _ _ _)
theorem insP_srt {x : PS} : ∀ {A : List PS}, A.Pairwise (fun x y => x.page < y.page) → (∀ y ∈ A, y.page ≠ x.page) → (insP x A).Pairwise fun x y => x.page < y.page
  | [], _, _ => by simp [insP]
  | z :: l, h, hn => by
    obtain ⟨h1, h2⟩ := List.pairwise_cons.1 h
    unfold insP
    split
    · next hlt => exact List.Pairwise.cons (fun y hy => by rcases List.mem_cons.1 hy with rfl | hy; exact hlt; have := h1 y hy; omega) h
    · next hge =>
      have := hn z List.mem_cons_self
      refine List.Pairwise.cons (fun y hy => ?_) (insP_srt h2 fun y hy => hn y (List.mem_cons_of_mem _ hy))
      rcases insP_mem.1 hy with rfl | hy
      · omega
      · exact h1 y hy
theorem updP_mem {A : List PS} {x y : PS} (hx : ∃ z ∈ A, z.page = x.page) : y ∈ updP A x ↔ y = x ∨ (y ∈ A ∧ y.page ≠ x.page) := by
  unfold updP
  rw [List.mem_map]
  constructor
  · rintro ⟨z, hz, rfl⟩
    split
    · exact .inl rfl
    · next h => exact .inr ⟨hz, h⟩
  · rintro (rfl | ⟨h1, h2⟩)
    · obtain ⟨z, hz, hp⟩ := hx
      exact ⟨z, hz, if_pos hp⟩
    · exact ⟨y, h1, if_neg h2⟩
theorem updP_srt {A : List PS} {x : PS} (h : A.Pairwise fun x y => x.page < y.page) : (updP A x).Pairwise fun x y => x.page < y.page := by
  unfold updP
  rw [List.pairwise_map]
  refine h.imp ?_
  intro a b hab
  split <;> split <;> simp_all <;> omega
theorem updP_pages (A : List PS) (x : PS) : (updP A x).map (·.page) = A.map (·.page) := by
  unfold updP
  rw [List.map_map]
  apply List.map_congr_left
  intro y _
  simp only [Function.comp]
  split
  · next h => exact h.symm
  · rfl
theorem delP_mem {A : List PS} {p : Nat} {y : PS} : y ∈ delP A p ↔ y ∈ A ∧ y.page ≠ p := by
  unfold delP
  rw [List.mem_filter]
  simp
theorem updP_length (A : List PS) (x : PS) : (updP A x).length = A.length := List.length_map _
theorem insP_length (x : PS) (A : List PS) : (insP x A).length = A.length + 1 := (insP_perm x A).length_eq.trans (List.length_cons)
theorem delP_perm {pages : Nat} {s : HP} (h : HInv pages s) {x : PS} (hx : x ∈ s.A) : s.A.Perm (x :: delP s.A x.page) := by
  obtain ⟨i, hi, rfl⟩ := List.mem_iff_getElem.1 hx
  have hp := List.pairwise_iff_getElem.1 h.srt
  have e : delP s.A (s.A[i]).page = s.A.take i ++ s.A.drop (i + 1) := by
    have e0 : s.A = s.A.take i ++ s.A[i] :: s.A.drop (i + 1) := by simp
    have hsrt := h.srt
    generalize s.A[i] = x at *
    rw [e0] at hsrt
    obtain ⟨-, q2, q3⟩ := List.pairwise_append.1 hsrt
    conv => lhs; rw [e0]
    unfold delP
    rw [List.filter_append, List.filter_cons, if_neg (by simp), List.filter_eq_self.2, List.filter_eq_self.2]
    · intro a ha
      have := (List.pairwise_cons.1 q2).1 a ha
      simp; omega
    · intro a ha
      have := q3 a ha x List.mem_cons_self
      simp; omega
  rw [e]
  conv => lhs; rw [show s.A = s.A.take i ++ s.A[i] :: s.A.drop (i + 1) by simp]
  exact List.perm_middle

end Go.Proofs.YtlljejmblmjjnaaGreat

/- The heap of slabs: what its operations keep. -/
namespace Go.Proofs.YtlljejmblmjjnaaGreat
set_option linter.unusedVariables false
set_option linter.unusedSimpArgs false

theorem idxR_of {l : List Run} {z : Nat} (hT : Tile 0 l z) {r : Run} (hr : r ∈ l) : l[idxR r.page l]? = some r := by
  have hb := hT.bounds r hr
  obtain ⟨h1, r', h2, h3, h4⟩ := idxR_spec (p := r.page) hT (Nat.zero_le _) (by unfold Run.stop at hb; omega)
  rw [h2]
  have e := hT.uniq (List.mem_of_getElem? h2) hr h3 h4 (Nat.le_refl _) (by unfold Run.stop; omega)
  rw [e]

theorem HInv.upd {pages : Nat} {s : HP} (h : HInv pages s) {x y : PS} (hx : x ∈ s.A) (hp : y.page = x.page) (hy : y.Ok pages) : HInv pages ⟨s.l, updP s.A y⟩ := by
  have hz : ∃ z ∈ s.A, z.page = y.page := ⟨x, hx, hp.symm⟩
  refine ⟨h.tile, updP_srt h.srt, fun u hu => ?_, fun u hu => ?_⟩
  · rcases (updP_mem hz).1 hu with rfl | ⟨h1, -⟩
    · exact hy
    · exact h.each u h1
  · rcases (updP_mem hz).1 hu with rfl | ⟨h1, -⟩
    · rw [hp]; exact h.tk x hx
    · exact h.tk u h1
theorem HInv.close {pages : Nat} {s : HP} (h : HInv pages s) {x : PS} (hx : x ∈ s.A) : HInv pages (closeP s x) := by
  have hk := idxR_of h.tile (h.tk x hx)
  refine ⟨give_tile h.tile hk, h.srt.filter _, fun u hu => h.each u (delP_mem.1 hu).1, fun u hu => ?_⟩
  obtain ⟨h1, h2⟩ := delP_mem.1 hu
  exact ((give_mem h.tile hk rfl _).2 ⟨⟨h.tk u h1, rfl⟩, fun e => h2 (congrArg Run.page e)⟩).1
theorem HInv.open {pages : Nat} {s : HP} (h : HInv pages s) {k : Nat} {r : Run} {y : PS} (hp : placeR 4 4 s.l = some k) (hr : s.l[k]? = some r) (hf : y.page = r.first 4) (hy : y.Ok pages) :
    HInv pages ⟨takeR s.l k r 4 4, insP y s.A⟩ ∧ ∀ x ∈ s.A, x.page ≠ y.page := by
  obtain ⟨-, r', hr', hh⟩ := placeR_spec hp
  obtain rfl : r' = r := by rw [hr] at hr'; exact (Option.some.inj hr').symm
  unfold Run.holds at hh
  rw [Bool.and_eq_true] at hh
  have ht : r'.taken = false := by simpa using hh.1
  have hfit := of_decide_eq_true hh.2
  have hge := r'.first_ge (al := 4) (by decide)
  have hne : ∀ x ∈ s.A, x.page ≠ y.page := by
    intro x hx e
    have := h.tile.uniq (h.tk x hx) (List.mem_of_getElem? hr) (k := x.page) (Nat.le_refl _) (show x.page < x.page + 4 by omega) (by omega) (by omega)
    rw [← this] at ht
    cases ht
  refine ⟨⟨take_tile h.tile hr (by decide) (by decide) hfit, insP_srt h.srt hne, fun u hu => ?_, fun u hu => ?_⟩, hne⟩
  · rcases insP_mem.1 hu with rfl | h1
    · exact hy
    · exact h.each u h1
  · rcases insP_mem.1 hu with rfl | h1
    · rw [hf]; exact ((take_mem hr ht (by decide) _).2 (.inr rfl)).1
    · exact ((take_mem hr ht (by decide) _).2 (.inl ⟨h.tk u h1, rfl⟩)).1
theorem placeR_free {n al k : Nat} {l : List Run} {r : Run} (hp : placeR n al l = some k) (hr : l[k]? = some r) : r.taken = false ∧ r.first al + n ≤ r.stop := by
  obtain ⟨-, r', hr', hh⟩ := placeR_spec hp
  obtain rfl : r' = r := by rw [hr] at hr'; exact (Option.some.inj hr').symm
  unfold Run.holds at hh
  rw [Bool.and_eq_true] at hh
  exact ⟨by simpa using hh.1, of_decide_eq_true hh.2⟩

theorem freeFrom_range : ∀ (m k : Nat), freeFrom [] m k = List.range' k m
  | 0, _ => rfl
  | m + 1, k => by unfold freeFrom; rw [if_neg (by simp), freeFrom_range m (k + 1), List.range'_succ]
theorem fresh_L (cls : Nat) : freeFrom [] (slB cls) 0 = List.range (slB cls) := by rw [freeFrom_range, List.range_eq_range']
theorem fresh_ok {pages f cls : Nat} (h1 : f % 4 = 0) (h2 : f + 4 ≤ pages) (h3 : cls < 12) : (freshP f cls).Ok pages :=
  ⟨h1, h2, h3, by show (freeFrom [] (slB cls) 0).Nodup; rw [fresh_L]; exact List.nodup_range, fun s hs => by
    have hs' : s ∈ freeFrom [] (slB cls) 0 := hs
    rw [fresh_L] at hs'
    exact List.mem_range.1 hs'⟩
theorem PS.Ok.tail {pages : Nat} {x : PS} (h : x.Ok pages) : ({ x with L := x.L.tail } : PS).Ok pages :=
  ⟨h.al, h.fits, h.cls, h.nodup.sublist (List.tail_sublist _), fun s hs => h.lt s ((List.tail_sublist _).subset hs)⟩
theorem PS.Ok.push {pages : Nat} {x : PS} (h : x.Ok pages) {k : Nat} (hk : k < slB x.cls) (hn : k ∉ x.L) : ({ x with L := k :: x.L } : PS).Ok pages :=
  ⟨h.al, h.fits, h.cls, List.nodup_cons.2 ⟨hn, h.nodup⟩, fun s hs => by rcases List.mem_cons.1 hs with rfl | hs; exact hk; exact h.lt s hs⟩
theorem PS.Ok.mark {pages : Nat} {x : PS} (h : x.Ok pages) (b : Bool) : ({ x with sealed := b } : PS).Ok pages := ⟨h.al, h.fits, h.cls, h.nodup, h.lt⟩

/-- At most one slab of a class has no taken slot, and it isn't sealed. -/
structure HOne (A : List PS) : Prop where
  one : ∀ x ∈ A, ∀ y ∈ A, x.empty = true → y.empty = true → x.cls = y.cls → x.page = y.page
  opn : ∀ x ∈ A, x.empty = true → x.sealed = false
theorem HOne.upd {A : List PS} {x y : PS} (h : HOne A) (hx : x ∈ A) (hp : y.page = x.page) (h1 : y.empty = true → y.sealed = false ∧ ∀ z ∈ A, z.page ≠ y.page → z.cls = y.cls → z.empty = false) : HOne (updP A y) := by
  have hz : ∃ z ∈ A, z.page = y.page := ⟨x, hx, hp.symm⟩
  refine ⟨fun u hu v hv e1 e2 hc => ?_, fun u hu e => ?_⟩
  · rcases (updP_mem hz).1 hu with rfl | ⟨a1, a2⟩ <;> rcases (updP_mem hz).1 hv with rfl | ⟨b1, b2⟩
    · rfl
    · have := (h1 e1).2 v b1 b2 hc.symm; rw [e2] at this; cases this
    · have := (h1 e2).2 u a1 a2 hc; rw [e1] at this; cases this
    · exact h.one u a1 v b1 e1 e2 hc
  · rcases (updP_mem hz).1 hu with rfl | ⟨a1, -⟩
    · exact (h1 e).1
    · exact h.opn u a1 e
theorem HOne.del {A : List PS} (h : HOne A) (p : Nat) : HOne (delP A p) :=
  ⟨fun u hu v hv => h.one u (delP_mem.1 hu).1 v (delP_mem.1 hv).1, fun u hu => h.opn u (delP_mem.1 hu).1⟩
theorem HOne.ins {A : List PS} {y : PS} (h : HOne A) (hy : y.empty = false) : HOne (insP y A) := by
  refine ⟨fun u hu v hv e1 e2 hc => ?_, fun u hu e => ?_⟩
  · rcases insP_mem.1 hu with rfl | a1
    · rw [hy] at e1; cases e1
    · rcases insP_mem.1 hv with rfl | b1
      · rw [hy] at e2; cases e2
      · exact h.one u a1 v b1 e1 e2 hc
  · rcases insP_mem.1 hu with rfl | a1
    · rw [hy] at e; cases e
    · exact h.opn u a1 e

/-- What is taken. -/
def Tkn (A : List PS) (a : Int) : Prop := ∃ x ∈ A, ∃ k, k < slB x.cls ∧ k ∉ x.L ∧ a = (x.addr k : Nat)
theorem takenL_mem {S : SM} {k : Nat} : k ∈ takenL S ↔ k < slB S.cls ∧ k ∉ S.L := by
  unfold takenL
  rw [List.mem_filter, List.mem_range]
  simp
theorem takenP_mem {A : List PS} {a : Int} : a ∈ takenP A ↔ Tkn A a := by
  unfold takenP Tkn
  simp only [List.mem_flatMap, List.mem_map, takenL_mem]
  constructor
  · rintro ⟨x, hx, k, ⟨h1, h2⟩, rfl⟩; exact ⟨x, hx, k, h1, h2, rfl⟩
  · rintro ⟨x, hx, k, h1, h2, rfl⟩; exact ⟨x, hx, k, ⟨h1, h2⟩, rfl⟩
theorem slot_in {cls k : Nat} (hc : cls < 12) (hk : k < slB cls) : k * szB cls + szB cls ≤ 1024 := slot_fits hc hk
theorem PS.Ok.addr_in {pages : Nat} {x : PS} (h : x.Ok pages) {k : Nat} (hk : k < slB x.cls) : 256 * x.page ≤ x.addr k ∧ x.addr k + szB x.cls ≤ 256 * x.page + 1024 := by
  have := slot_fits h.cls hk
  unfold PS.addr
  omega
theorem PS.Ok.addr_inj {pages : Nat} {x : PS} (h : x.Ok pages) {i j : Nat} (e : x.addr i = x.addr j) : i = j := by
  have := szB_pos h.cls
  unfold PS.addr at e
  have e' : i * szB x.cls = j * szB x.cls := by omega
  exact Nat.eq_of_mul_eq_mul_right (by omega) e'
theorem slotF_addr {pages : Nat} {x : PS} (h : x.Ok pages) {k : Nat} (hk : k < slB x.cls) : slotF x.S (x.addr k : Nat) = some k := slotF_at (S := x.S) h.cls hk
/-- An address lies in a slot of one slab alone. -/
theorem HInv.tkn_uniq {pages : Nat} {s : HP} (h : HInv pages s) {x y : PS} (hx : x ∈ s.A) (hy : y ∈ s.A) {i j : Nat} (hi : i < slB x.cls) (hj : j < slB y.cls) (e : x.addr i = y.addr j) : x = y ∧ i = j := by
  have a1 := (h.each x hx).addr_in hi
  have a2 := (h.each y hy).addr_in hj
  have p1 := szB_pos (h.each x hx).cls
  have p2 := szB_pos (h.each y hy).cls
  have e1 : x = y := h.uniq hx hy (k := x.addr i / 256) ⟨by omega, by omega⟩ ⟨by omega, by omega⟩
  subst e1
  exact ⟨rfl, (h.each x hx).addr_inj e⟩
theorem HInv.tkn_iff {pages : Nat} {s : HP} (h : HInv pages s) {x : PS} (hx : x ∈ s.A) {k : Nat} (hk : k < slB x.cls) : Tkn s.A (x.addr k : Nat) ↔ k ∉ x.L := by
  constructor
  · rintro ⟨y, hy, j, h1, h2, e⟩
    obtain ⟨rfl, rfl⟩ := h.tkn_uniq hx hy hk h1 (by exact_mod_cast e)
    exact h2
  · exact fun h1 => ⟨x, hx, k, hk, h1, rfl⟩
theorem tkn_upd {pages : Nat} {s : HP} (h : HInv pages s) {x y : PS} (hx : x ∈ s.A) (hp : y.page = x.page) (hc : y.cls = x.cls) (a : Int) :
    Tkn (updP s.A y) a ↔ (∃ k, k < slB x.cls ∧ k ∉ y.L ∧ a = (x.addr k : Nat)) ∨ ∃ z ∈ s.A, z ≠ x ∧ ∃ k, k < slB z.cls ∧ k ∉ z.L ∧ a = (z.addr k : Nat) := by
  have hz : ∃ z ∈ s.A, z.page = y.page := ⟨x, hx, hp.symm⟩
  have ha : ∀ k, y.addr k = x.addr k := fun k => by unfold PS.addr; rw [hp, hc]
  constructor
  · rintro ⟨z, hzm, k, h1, h2, rfl⟩
    rcases (updP_mem hz).1 hzm with rfl | ⟨b1, b2⟩
    · exact .inl ⟨k, by rw [← hc]; exact h1, h2, by rw [ha]⟩
    · exact .inr ⟨z, b1, fun e => b2 (by rw [e, hp]), k, h1, h2, rfl⟩
  · rintro (⟨k, h1, h2, rfl⟩ | ⟨z, b1, b2, k, h1, h2, rfl⟩)
    · exact ⟨y, (updP_mem hz).2 (.inl rfl), k, by rw [hc]; exact h1, h2, by rw [ha]⟩
    · exact ⟨z, (updP_mem hz).2 (.inr ⟨b1, fun e => b2 (h.same b1 hx (by omega))⟩), k, h1, h2, rfl⟩
theorem tkn_split {pages : Nat} {s : HP} (h : HInv pages s) {x : PS} (hx : x ∈ s.A) (a : Int) :
    Tkn s.A a ↔ (∃ k, k < slB x.cls ∧ k ∉ x.L ∧ a = (x.addr k : Nat)) ∨ ∃ z ∈ s.A, z ≠ x ∧ ∃ k, k < slB z.cls ∧ k ∉ z.L ∧ a = (z.addr k : Nat) := by
  constructor
  · rintro ⟨z, hz, k, h1, h2, rfl⟩
    by_cases e : z = x
    · subst e; exact .inl ⟨k, h1, h2, rfl⟩
    · exact .inr ⟨z, hz, e, k, h1, h2, rfl⟩
  · rintro (⟨k, h1, h2, rfl⟩ | ⟨z, b1, b2, k, h1, h2, rfl⟩)
    · exact ⟨x, hx, k, h1, h2, rfl⟩
    · exact ⟨z, b1, k, h1, h2, rfl⟩
theorem tkn_pop {pages : Nat} {s : HP} (h : HInv pages s) {x : PS} (hx : x ∈ s.A) {j : Nat} {l : List Nat} (e : x.L = j :: l) (a : Int) :
    Tkn (updP s.A { x with L := l }) a ↔ Tkn s.A a ∨ a = (x.addr j : Nat) := by
  have hn := (h.each x hx).nodup
  have hl := (h.each x hx).lt j (by rw [e]; exact List.mem_cons_self)
  rw [e, List.nodup_cons] at hn
  rw [tkn_upd (y := { x with L := l }) h hx rfl rfl, tkn_split h hx]
  constructor
  · rintro (⟨k, h1, h2, rfl⟩ | hh)
    · by_cases hk : k = j
      · subst hk; exact .inr rfl
      · exact .inl (.inl ⟨k, h1, by rw [e]; simp only [List.mem_cons, not_or]; exact ⟨hk, h2⟩, rfl⟩)
    · exact .inl (.inr hh)
  · rintro ((⟨k, h1, h2, rfl⟩ | hh) | rfl)
    · exact .inl ⟨k, h1, fun hm => h2 (by rw [e]; exact List.mem_cons_of_mem _ hm), rfl⟩
    · exact .inr hh
    · exact .inl ⟨j, hl, hn.1, rfl⟩
theorem tkn_push {pages : Nat} {s : HP} (h : HInv pages s) {x : PS} (hx : x ∈ s.A) {j : Nat} (hj : j < slB x.cls) (hn : j ∉ x.L) (a : Int) :
    Tkn (updP s.A { x with L := j :: x.L }) a ↔ Tkn s.A a ∧ a ≠ (x.addr j : Nat) := by
  rw [tkn_upd (y := { x with L := j :: x.L }) h hx rfl rfl, tkn_split h hx]
  constructor
  · rintro (⟨k, h1, h2, rfl⟩ | ⟨z, b1, b2, k, h1, h2, rfl⟩)
    · simp only [List.mem_cons, not_or] at h2
      exact ⟨.inl ⟨k, h1, h2.2, rfl⟩, fun e => h2.1 ((h.each x hx).addr_inj (by exact_mod_cast e))⟩
    · exact ⟨.inr ⟨z, b1, b2, k, h1, h2, rfl⟩, fun e => b2 (h.tkn_uniq b1 hx h1 hj (by exact_mod_cast e)).1⟩
  · rintro ⟨⟨k, h1, h2, rfl⟩ | hh, h3⟩
    · exact .inl ⟨k, h1, by simp only [List.mem_cons, not_or]; exact ⟨fun e => h3 (by rw [e]), h2⟩, rfl⟩
    · exact .inr hh
theorem tkn_ins {A : List PS} {y : PS} (a : Int) : Tkn (insP y A) a ↔ Tkn A a ∨ ∃ k, k < slB y.cls ∧ k ∉ y.L ∧ a = (y.addr k : Nat) := by
  constructor
  · rintro ⟨z, hz, k, h1, h2, rfl⟩
    rcases insP_mem.1 hz with rfl | hz
    · exact .inr ⟨k, h1, h2, rfl⟩
    · exact .inl ⟨z, hz, k, h1, h2, rfl⟩
  · rintro (⟨z, hz, k, h1, h2, rfl⟩ | ⟨k, h1, h2, rfl⟩)
    · exact ⟨z, insP_mem.2 (.inr hz), k, h1, h2, rfl⟩
    · exact ⟨y, insP_mem.2 (.inl rfl), k, h1, h2, rfl⟩
theorem full_of_len {n : Nat} {l : List Nat} (hn : l.Nodup) (hlt : ∀ x ∈ l, x < n) (h : l.length = n) {k : Nat} (hk : k < n) : k ∈ l := by
  apply Classical.byContradiction
  intro hc
  have := nodup_le n (k :: l) (List.nodup_cons.2 ⟨hc, hn⟩) (fun x hx => by rcases List.mem_cons.1 hx with rfl | hx; exact hk; exact hlt x hx)
  simp at this
  omega
theorem PS.Ok.empty_mem {pages : Nat} {x : PS} (h : x.Ok pages) (he : x.empty = true) {k : Nat} (hk : k < slB x.cls) : k ∈ x.L := full_of_len h.nodup h.lt (of_decide_eq_true he) hk
theorem tkn_del {pages : Nat} {s : HP} (h : HInv pages s) {x : PS} (hx : x ∈ s.A) (a : Int) : Tkn (delP s.A x.page) a ↔ ∃ z ∈ s.A, z ≠ x ∧ ∃ k, k < slB z.cls ∧ k ∉ z.L ∧ a = (z.addr k : Nat) := by
  constructor
  · rintro ⟨z, hz, k, h1, h2, rfl⟩
    obtain ⟨b1, b2⟩ := delP_mem.1 hz
    exact ⟨z, b1, fun e => b2 (by rw [e]), k, h1, h2, rfl⟩
  · rintro ⟨z, b1, b2, k, h1, h2, rfl⟩
    exact ⟨z, delP_mem.2 ⟨b1, fun e => b2 (h.same b1 hx e)⟩, k, h1, h2, rfl⟩

end Go.Proofs.YtlljejmblmjjnaaGreat

/- The heap of slabs: each operation, what it keeps and what is taken behind it. -/
namespace Go.Proofs.YtlljejmblmjjnaaGreat
set_option linter.unusedVariables false
set_option linter.unusedSimpArgs false

structure HGood (pages : Nat) (s : HP) : Prop where
  inv : HInv pages s
  one : HOne s.A

/-- Take, told by cases. -/
inductive TakeIs (pages : Nat) (s : HP) (cls : Int) : (Int × Int) × HP → Prop
  | range (h : ¬ (0 ≤ cls ∧ cls < 12)) : TakeIs pages s cls ((-1, 11), s)
  | old (x : PS) (j : Nat) (l : List Nat) (c : Nat) (hc : cls = c) (hc2 : c < 12) (hb : bestP s.A cls none = some x) (hx : x ∈ s.A) (hxc : x.cls = c) (hxs : x.sealed = false) (hl : x.L = j :: l) : TakeIs pages s cls (((x.addr j : Nat), 0), ⟨s.l, updP s.A { x with L := l }⟩)
  | full (c : Nat) (hc : cls = c) (hc2 : c < 12) (hb : bestP s.A cls none = none) (hp : placeR 4 4 s.l = none) : TakeIs pages s cls ((-1, 13), s)
  | new (c : Nat) (hc : cls = c) (hc2 : c < 12) (hb : bestP s.A cls none = none) (k : Nat) (r : Run) (hp : placeR 4 4 s.l = some k) (hr : s.l[k]? = some r) (hf : r.first 4 % 4 = 0) (hfit : r.first 4 + 4 ≤ pages) :
      TakeIs pages s cls (((256 * r.first 4 : Nat), 0), ⟨takeR s.l k r 4 4, insP { freshP (r.first 4) c with L := (freeFrom [] (slB c) 0).tail } s.A⟩)
theorem takeP_is {pages : Nat} {s : HP} (h : HInv pages s) (cls : Int) : TakeIs pages s cls (takeP s cls) := by
  unfold takeP
  by_cases hc : 0 ≤ cls ∧ cls < 12
  · rw [if_pos hc]
    obtain ⟨c, hcc⟩ : ∃ c : Nat, cls = c := ⟨cls.toNat, by omega⟩
    have hc2 : c < 12 := by omega
    cases hb : bestP s.A cls none with
    | some x =>
      obtain ⟨h1, h2, -, h4, h5⟩ := bestP_mem hb
      simp only
      cases hl : x.L with
      | nil => rw [hl] at h5; exact absurd h5 (by simp)
      | cons j l => exact .old x j l c hcc hc2 hb h1 (by omega) h4 hl
    | none =>
      cases hp : placeR 4 4 s.l with
      | none => exact .full c hcc hc2 hb hp
      | some k =>
        obtain ⟨hk, -⟩ := placeR_spec hp
        have hr := List.getElem?_eq_getElem hk
        obtain ⟨ht, hfit⟩ := placeR_free hp hr
        have hbd := h.tile.bounds _ (List.getElem_mem hk)
        simp only [hr]
        rw [show cls.toNat = c by omega]
        exact .new c hcc hc2 hb k _ hp hr (Run.first_mod _ _) (by omega)
  · rw [if_neg hc]
    exact .range hc
theorem slB_two {c : Nat} (h : c < 12) : 2 ≤ slB c := (slB_le h).1
theorem take_good {pages : Nat} {s : HP} (h : HGood pages s) (cls : Int) : HGood pages (takeP s cls).2 := by
  have hi := takeP_is h.inv cls
  revert hi
  generalize takeP s cls = q
  intro hi
  cases hi with
  | range hh => exact h
  | full => exact h
  | old x j l c hc hc2 hb hx hxc hxs hl =>
    have hok := (h.inv.each x hx).tail
    rw [hl] at hok
    refine ⟨h.inv.upd (y := { x with L := l }) hx rfl hok, h.one.upd (y := { x with L := l }) hx rfl fun he => ?_⟩
    exfalso
    have h1 := (h.inv.each x hx).len
    have h2 : l.length = slB x.cls := of_decide_eq_true he
    rw [hl, List.length_cons] at h1
    omega
  | new c hc hc2 hb k r hp hr hf hfit =>
    have hok := (fresh_ok (pages := pages) hf hfit hc2).tail
    obtain ⟨h1, -⟩ := h.inv.open (y := { freshP (r.first 4) c with L := (freeFrom [] (slB c) 0).tail }) hp hr rfl hok
    refine ⟨h1, h.one.ins ?_⟩
    have := slB_two hc2
    apply decide_eq_false
    show ¬ (freeFrom [] (slB c) 0).tail.length = slB c
    rw [fresh_L, List.length_tail, List.length_range]
    omega
def SubA (A A' : List PS) : Prop := ∀ x ∈ A, ∃ y ∈ A', y.page = x.page ∧ y.cls = x.cls
theorem SubA.refl (A : List PS) : SubA A A := fun x hx => ⟨x, hx, rfl, rfl⟩
theorem SubA.trans {A B C : List PS} (h : SubA A B) (k : SubA B C) : SubA A C := fun x hx => by
  obtain ⟨y, hy, h1, h2⟩ := h x hx
  obtain ⟨z, hz, h3, h4⟩ := k y hy
  exact ⟨z, hz, h3.trans h1, h4.trans h2⟩
theorem SubA.upd {A : List PS} {x y : PS} (hx : x ∈ A) (hp : y.page = x.page) (hc : y.cls = x.cls) (hu : ∀ z ∈ A, z.page = x.page → z = x) : SubA A (updP A y) := fun z hz => by
  by_cases e : z.page = y.page
  · have := hu z hz (e.trans hp)
    subst this
    exact ⟨y, (updP_mem ⟨z, hz, e⟩).2 (.inl rfl), hp, hc⟩
  · exact ⟨z, (updP_mem ⟨x, hx, hp.symm⟩).2 (.inr ⟨hz, e⟩), rfl, rfl⟩
theorem SubA.ins {A : List PS} (y : PS) : SubA A (insP y A) := fun z hz => ⟨z, insP_mem.2 (.inr hz), rfl, rfl⟩
/-- A slot of a slab of a class begins there. -/
def AtA (A : List PS) (cls : Int) (a : Int) : Prop := ∃ x ∈ A, (x.cls : Int) = cls ∧ ∃ k, k < slB x.cls ∧ a = (x.addr k : Nat)
theorem AtA.sub {A A' : List PS} {cls a : Int} (h : AtA A cls a) (hs : SubA A A') : AtA A' cls a := by
  obtain ⟨x, hx, h1, k, h2, rfl⟩ := h
  obtain ⟨y, hy, h3, h4⟩ := hs x hx
  exact ⟨y, hy, by rw [h4]; exact h1, k, by rw [h4]; exact h2, by unfold PS.addr; rw [h3, h4]⟩
theorem take_yes' {pages : Nat} {s : HP} (h : HGood pages s) {cls : Int} (he : (takeP s cls).1.2 = 0) :
    ¬ Tkn s.A (takeP s cls).1.1 ∧ (∀ b, Tkn (takeP s cls).2.A b ↔ Tkn s.A b ∨ b = (takeP s cls).1.1) ∧ AtA (takeP s cls).2.A cls (takeP s cls).1.1 ∧ SubA s.A (takeP s cls).2.A ∧ 0 ≤ cls ∧ cls < 12 := by
  have hi := takeP_is h.inv cls
  revert he hi
  generalize takeP s cls = q
  intro he hi
  cases hi with
  | range hh => cases he
  | full => cases he
  | old x j l c hc hc2 hb hx hxc hxs hl =>
    have hj := (h.inv.each x hx).lt j (by rw [hl]; exact List.mem_cons_self)
    refine ⟨fun ht => (h.inv.tkn_iff hx hj).1 ht (by rw [hl]; exact List.mem_cons_self), fun b => tkn_pop h.inv hx hl b, ?_, SubA.upd hx rfl rfl (fun z hz e => h.inv.same hz hx e), by omega, by omega⟩
    exact ⟨{ x with L := l }, (updP_mem (x := { x with L := l }) ⟨x, hx, rfl⟩).2 (.inl rfl), by show (x.cls : Int) = cls; omega, j, hj, rfl⟩
  | new c hc hc2 hb k r hp hr hf hfit =>
    have hok := (fresh_ok (pages := pages) hf hfit hc2).tail
    obtain ⟨h1, h2⟩ := h.inv.open (y := { freshP (r.first 4) c with L := (freeFrom [] (slB c) 0).tail }) hp hr rfl hok
    have hsl := slB_two hc2
    have hL : (freeFrom [] (slB c) 0).tail = List.range' 1 (slB c - 1) := by
      rw [freeFrom_range]
      obtain ⟨m, hm⟩ : ∃ m, slB c = m + 1 := ⟨slB c - 1, by omega⟩
      rw [hm, List.range'_succ]
      rfl
    have hmem : ∀ k, k < slB c → (k ∉ (freeFrom [] (slB c) 0).tail ↔ k = 0) := by
      intro k hk
      rw [hL, List.mem_range'_1]
      omega
    have ha : (256 * r.first 4 : Nat) = ({ freshP (r.first 4) c with L := (freeFrom [] (slB c) 0).tail } : PS).addr 0 := by
      show _ = 256 * r.first 4 + 0 * szB c
      omega
    refine ⟨?_, fun b => ?_, ?_, SubA.ins _, by omega, by omega⟩
    · rintro ⟨z, hz, j, hj, hj2, e⟩
      have e2 : ((256 * r.first 4 : Nat) : Int) = (z.addr j : Nat) := e
      have e' : 256 * r.first 4 = z.addr j := by omega
      rw [ha] at e'
      have hY : ∀ (Y : PS), z ∈ insP Y s.A ∧ Y ∈ insP Y s.A := fun Y => ⟨insP_mem.2 (.inr hz), insP_mem.2 (.inl rfl)⟩
      have := (h1.tkn_uniq (hY _).2 (hY _).1 (by show 0 < slB c; omega) hj e').1
      exact h2 z hz (by rw [← this])
    · show Tkn (insP _ _) b ↔ _
      rw [tkn_ins]
      constructor
      · rintro (hh | ⟨k, k1, k2, rfl⟩)
        · exact .inl hh
        · have := (hmem k k1).1 k2
          subst this
          exact .inr (by rw [ha])
      · rintro (hh | rfl)
        · exact .inl hh
        · exact .inr ⟨0, by show 0 < slB c; omega, (hmem 0 (by omega)).2 rfl, by rw [ha]⟩
    · exact ⟨_, insP_mem.2 (.inl rfl), by show (c : Int) = cls; omega, 0, by show 0 < slB c; omega, by rw [ha]⟩
theorem take_no' {pages : Nat} {s : HP} (h : HInv pages s) {cls : Int} (he : (takeP s cls).1.2 ≠ 0) : (takeP s cls).2 = s := by
  have hi := takeP_is h cls
  revert he hi
  generalize takeP s cls = q
  intro he hi
  cases hi with
  | range hh => rfl
  | full => rfl
  | old x j l c hc hc2 hb hx hxc hxs hl => exact absurd rfl he
  | new c hc hc2 hb k r hp hr hf hfit => exact absurd rfl he

/-- Some, from where out is told. -/
theorem some_good {pages : Nat} : ∀ (n : Nat) (s : HP) (cls : Int) (out : List Int), HGood pages s → HGood pages (someL n s cls out).2
  | 0, s, _, _, h => h
  | n + 1, s, cls, out, h => by
    unfold someL
    split
    · exact some_good n _ cls _ (take_good h cls)
    · split
      · exact take_good h cls
      · exact take_good h cls
structure SomeIs (s : HP) (cls : Int) (out : List Int) (q : (List Int × Int) × HP) : Prop where
  yes : q.1.2 = 0 → ∃ new, q.1.1 = out ++ new ∧ new.Nodup ∧ (∀ a ∈ new, ¬ Tkn s.A a ∧ AtA q.2.A cls a) ∧ (∀ b, Tkn q.2.A b ↔ Tkn s.A b ∨ b ∈ new) ∧ SubA s.A q.2.A ∧ (new ≠ [] → 0 ≤ cls ∧ cls < 12)
  no : q.1.2 ≠ 0 → out = [] ∧ q.1.1 = [] ∧ q.2 = s
theorem some_is {pages : Nat} : ∀ (n : Nat) (s : HP) (cls : Int) (out : List Int), HGood pages s → SomeIs s cls out (someL n s cls out)
  | 0, s, _, out, h => ⟨fun _ => ⟨[], by simp [someL], List.nodup_nil, by simp, by simp [someL], SubA.refl _, fun h => absurd rfl h⟩, fun hh => absurd rfl hh⟩
  | n + 1, s, cls, out, h => by
    unfold someL
    by_cases he : (takeP s cls).1.2 = 0
    · rw [if_pos he]
      obtain ⟨t1, t2, t3, t4, t5⟩ := take_yes' h he
      have ih := some_is n (takeP s cls).2 cls (out ++ [(takeP s cls).1.1]) (take_good h cls)
      refine ⟨fun hq => ?_, fun hq => ?_⟩
      · obtain ⟨new, e1, e2, e3, e4, e5, e6⟩ := ih.yes hq
        refine ⟨(takeP s cls).1.1 :: new, by rw [e1]; simp, List.nodup_cons.2 ⟨fun hm => (e3 _ hm).1 ((t2 _).2 (.inr rfl)), e2⟩, ?_, fun b => ?_, t4.trans e5, fun _ => t5⟩
        · intro a ha
          rcases List.mem_cons.1 ha with rfl | ha
          · exact ⟨t1, t3.sub e5⟩
          · exact ⟨fun hh => (e3 a ha).1 ((t2 _).2 (.inl hh)), (e3 a ha).2⟩
        · rw [e4, t2, List.mem_cons, or_assoc]
      · have := (ih.no hq).1
        simp at this
    · rw [if_neg he]
      have h1 := take_no' h.inv he
      by_cases ho : out = []
      · rw [if_pos ho]
        exact ⟨fun hq => absurd hq he, fun _ => ⟨ho, rfl, h1⟩⟩
      · rw [if_neg ho]
        refine ⟨fun _ => ⟨[], by simp, List.nodup_nil, by simp, fun b => by show Tkn (takeP s cls).2.A b ↔ _; rw [h1]; simp, by show SubA s.A (takeP s cls).2.A; rw [h1]; exact SubA.refl _, fun h => absurd rfl h⟩, fun hq => absurd rfl hq⟩

/-- Give, told by cases. -/
inductive GiveIs (s : HP) (at_ : Int) : Int × HP → Prop
  | none (h : nearP s.A at_ = none) : GiveIs s at_ (12, s)
  | slot (x : PS) (h : nearP s.A at_ = some x) (hs : slotF x.S at_ = none) : GiveIs s at_ (12, s)
  | twice (x : PS) (k : Nat) (h : nearP s.A at_ = some x) (hs : slotF x.S at_ = some k) (hk : k ∈ x.L) : GiveIs s at_ (19, s)
  | close (x : PS) (k : Nat) (h : nearP s.A at_ = some x) (hs : slotF x.S at_ = some k) (hk : k ∉ x.L) (he : ({ x with L := k :: x.L } : PS).empty = true) (hc : (x.sealed || (bestP s.A x.cls (some x.page)).isSome) = true) : GiveIs s at_ (0, closeP s x)
  | stay (x : PS) (k : Nat) (h : nearP s.A at_ = some x) (hs : slotF x.S at_ = some k) (hk : k ∉ x.L) (hc : (({ x with L := k :: x.L } : PS).empty && (x.sealed || (bestP s.A x.cls (some x.page)).isSome)) = false) : GiveIs s at_ (0, ⟨s.l, updP s.A { x with L := k :: x.L }⟩)
theorem giveP_is (s : HP) (at_ : Int) : GiveIs s at_ (giveP s at_) := by
  unfold giveP
  cases hn : nearP s.A at_ with
  | none => exact .none hn
  | some x =>
    cases hs : slotF x.S at_ with
    | none => simp only [hs]; exact .slot x hn hs
    | some k =>
      simp only [hs]
      by_cases hk : k ∈ x.L
      · rw [if_pos hk]; exact .twice x k hn hs hk
      · rw [if_neg hk]
        cases hc : (({ x with L := k :: x.L } : PS).empty && (x.sealed || (bestP s.A x.cls (some x.page)).isSome)) with
        | true =>
          rw [if_pos rfl]
          rw [Bool.and_eq_true] at hc
          exact .close x k hn hs hk hc.1 hc.2
        | false => rw [if_neg (by simp)]; exact .stay x k hn hs hk hc
theorem bestP_none {A : List PS} {cls : Int} {but : Option Nat} (h : bestP A cls but = none) : ∀ x ∈ A, (x.cls : Int) = cls → but ≠ some x.page → x.ready = false := by
  intro x hx hc hb
  have hr : readyP A cls but = [] := by
    unfold bestP at h
    split at h
    · assumption
    · cases h
  cases hq : x.ready with
  | false => rfl
  | true =>
    exfalso
    have : x ∈ readyP A cls but := by
      unfold readyP clsP
      rw [List.mem_filter, List.mem_filter]
      exact ⟨⟨hx, by simpa using hc⟩, by rw [hq, Bool.and_true]; simpa using hb⟩
    rw [hr] at this
    cases this
theorem give_good {pages : Nat} {s : HP} (h : HGood pages s) (at_ : Int) : HGood pages (giveP s at_).2 := by
  have hi := giveP_is s at_
  revert hi
  generalize giveP s at_ = q
  intro hi
  cases hi with
  | none => exact h
  | slot => exact h
  | twice => exact h
  | close x k hn hs hk he hc =>
    have hx := (nearP_mem hn).1
    exact ⟨h.inv.close hx, h.one.del _⟩
  | stay x k hn hs hk hc =>
    have hx := (nearP_mem hn).1
    obtain ⟨-, hlt⟩ := slotF_some (S := x.S) (h.inv.each x hx).cls hs
    refine ⟨h.inv.upd (y := { x with L := k :: x.L }) hx rfl ((h.inv.each x hx).push hlt hk), h.one.upd (y := { x with L := k :: x.L }) hx rfl fun he => ?_⟩
    rw [he, Bool.true_and, Bool.or_eq_false_iff] at hc
    refine ⟨hc.1, fun z hz hp hcl => ?_⟩
    have hb : bestP s.A x.cls (some x.page) = none := by
      cases hq : bestP s.A x.cls (some x.page) with
      | none => rfl
      | some y => rw [hq] at hc; cases hc.2
    have hr := bestP_none hb z hz (by rw [show z.cls = x.cls from hcl]) (fun e => hp (Option.some.inj e).symm)
    cases hze : z.empty with
    | false => rfl
    | true =>
      exfalso
      have h1 := h.one.opn z hz hze
      have h2 : z.L.length = slB z.cls := of_decide_eq_true hze
      have h3 := slB_two (h.inv.each z hz).cls
      unfold PS.ready at hr
      rw [h1] at hr
      simp at hr
      rw [hr] at h2
      simp at h2
      omega
theorem give_tkn {pages : Nat} {s : HP} (h : HGood pages s) (at_ : Int) : ((giveP s at_).1 = 0 ↔ Tkn s.A at_) ∧ (∀ b, Tkn (giveP s at_).2.A b ↔ Tkn s.A b ∧ ((giveP s at_).1 = 0 → b ≠ at_)) := by
  have hgi := giveP_is s at_
  revert hgi
  generalize giveP s at_ = q
  intro hgi
  have hnt : ∀ {x : PS} {k : Nat}, nearP s.A at_ = some x → slotF x.S at_ = some k → x ∈ s.A ∧ k < slB x.cls ∧ at_ = (x.addr k : Nat) := by
    intro x k h1 h2
    have hx := (nearP_mem h1).1
    obtain ⟨a1, a2⟩ := slotF_some (S := x.S) (h.inv.each x hx).cls h2
    exact ⟨hx, a2, a1⟩
  have hof : ∀ {x : PS} {k : Nat}, x ∈ s.A → k < slB x.cls → at_ = (x.addr k : Nat) → nearP s.A at_ = some x ∧ slotF x.S at_ = some k := by
    intro x k hx hk e
    have hok := h.inv.each x hx
    have a1 := hok.addr_in hk
    have a2 := szB_pos hok.cls
    exact ⟨h.inv.near hx (by omega) (by omega), by rw [e]; exact slotF_addr hok hk⟩
  cases hgi with
  | none hn =>
    have : ¬ Tkn s.A at_ := by
      rintro ⟨x, hx, k, h1, h2, e⟩
      rw [(hof hx h1 e).1] at hn
      cases hn
    exact ⟨⟨fun e => (by cases e), fun e => absurd e this⟩, fun b => ⟨fun hb => ⟨hb, fun e => (by cases e)⟩, fun hb => hb.1⟩⟩
  | slot x hn hs =>
    have : ¬ Tkn s.A at_ := by
      rintro ⟨z, hz, k, h1, h2, e⟩
      obtain ⟨e1, e2⟩ := hof hz h1 e
      rw [e1] at hn
      cases hn
      rw [hs] at e2
      cases e2
    exact ⟨⟨fun e => (by cases e), fun e => absurd e this⟩, fun b => ⟨fun hb => ⟨hb, fun e => (by cases e)⟩, fun hb => hb.1⟩⟩
  | twice x k hn hs hk =>
    obtain ⟨hx, h1, e⟩ := hnt hn hs
    have : ¬ Tkn s.A at_ := by rw [e, h.inv.tkn_iff hx h1]; exact fun hh => hh hk
    exact ⟨⟨fun e => (by cases e), fun e => absurd e this⟩, fun b => ⟨fun hb => ⟨hb, fun e => (by cases e)⟩, fun hb => hb.1⟩⟩
  | close x k hn hs hk he hc =>
    obtain ⟨hx, h1, e⟩ := hnt hn hs
    have ht : Tkn s.A at_ := by rw [e, h.inv.tkn_iff hx h1]; exact hk
    refine ⟨⟨fun _ => ht, fun _ => rfl⟩, fun b => ?_⟩
    show Tkn (delP s.A x.page) b ↔ _
    rw [tkn_del h.inv hx, tkn_split h.inv hx]
    have hok2 := (h.inv.each x hx).push h1 hk
    constructor
    · rintro ⟨z, b1, b2, j, c1, c2, rfl⟩
      exact ⟨.inr ⟨z, b1, b2, j, c1, c2, rfl⟩, fun _ e2 => b2 (h.inv.tkn_uniq b1 hx c1 h1 (by rw [e] at e2; exact_mod_cast e2)).1⟩
    · rintro ⟨⟨j, c1, c2, rfl⟩ | hh, h3⟩
      · exfalso
        have := hok2.empty_mem he (k := j) c1
        rcases List.mem_cons.1 this with rfl | hm
        · exact h3 rfl e.symm
        · exact c2 hm
      · exact hh
  | stay x k hn hs hk hc =>
    obtain ⟨hx, h1, e⟩ := hnt hn hs
    have ht : Tkn s.A at_ := by rw [e, h.inv.tkn_iff hx h1]; exact hk
    refine ⟨⟨fun _ => ht, fun _ => rfl⟩, fun b => ?_⟩
    rw [tkn_push h.inv hx h1 hk, ← e]
    exact ⟨fun hh => ⟨hh.1, fun _ => hh.2⟩, fun hh => ⟨hh.1, hh.2 rfl⟩⟩

/-- Seal, Unseal. -/
inductive SealIs (s : HP) (p : Int) : Int × HP → Prop
  | none (h : getP s.A p = none) : SealIs s p (16, s)
  | state (x : PS) (h : getP s.A p = some x) (hs : x.sealed = true) : SealIs s p (20, s)
  | close (x : PS) (h : getP s.A p = some x) (hs : x.sealed = false) (he : x.empty = true) : SealIs s p (0, closeP s x)
  | mark (x : PS) (h : getP s.A p = some x) (hs : x.sealed = false) (he : x.empty = false) : SealIs s p (0, ⟨s.l, updP s.A { x with sealed := true }⟩)
theorem sealP_is (s : HP) (p : Int) : SealIs s p (sealP s p) := by
  unfold sealP
  cases hn : getP s.A p with
  | none => exact .none hn
  | some x =>
    simp only
    cases hs : x.sealed with
    | true => rw [if_pos rfl]; exact .state x hn hs
    | false =>
      rw [if_neg (by simp)]
      cases he : x.empty with
      | true => rw [if_pos rfl]; exact .close x hn hs he
      | false => rw [if_neg (by simp)]; exact .mark x hn hs he
inductive UnsealIs (s : HP) (p : Int) : Int × HP → Prop
  | none (h : getP s.A p = none) : UnsealIs s p (16, s)
  | state (x : PS) (h : getP s.A p = some x) (hs : x.sealed = false) : UnsealIs s p (20, s)
  | mark (x : PS) (h : getP s.A p = some x) (hs : x.sealed = true) : UnsealIs s p (0, ⟨s.l, updP s.A { x with sealed := false }⟩)
theorem unsealP_is (s : HP) (p : Int) : UnsealIs s p (unsealP s p) := by
  unfold unsealP
  cases hn : getP s.A p with
  | none => exact .none hn
  | some x =>
    simp only
    cases hs : x.sealed with
    | true => rw [if_pos rfl]; exact .mark x hn hs
    | false => rw [if_neg (by simp)]; exact .state x hn hs
theorem tkn_mark {pages : Nat} {s : HP} (h : HInv pages s) {x : PS} (hx : x ∈ s.A) (b : Bool) (a : Int) : Tkn (updP s.A { x with sealed := b }) a ↔ Tkn s.A a := by
  rw [tkn_upd (y := { x with sealed := b }) h hx rfl rfl, tkn_split h hx]
theorem seal_good {pages : Nat} {s : HP} (h : HGood pages s) (p : Int) : HGood pages (sealP s p).2 ∧ ∀ a, Tkn (sealP s p).2.A a ↔ Tkn s.A a := by
  have hi := sealP_is s p
  revert hi
  generalize sealP s p = q
  intro hi
  cases hi with
  | none => exact ⟨h, fun _ => Iff.rfl⟩
  | state => exact ⟨h, fun _ => Iff.rfl⟩
  | close x hg hs he =>
    have hx := (getP_mem hg).1
    refine ⟨⟨h.inv.close hx, h.one.del _⟩, fun a => ?_⟩
    show Tkn (delP s.A x.page) a ↔ _
    rw [tkn_del h.inv hx, tkn_split h.inv hx]
    exact ⟨fun hh => .inr hh, fun hh => hh.resolve_left (by rintro ⟨k, k1, k2, -⟩; exact k2 ((h.inv.each x hx).empty_mem he k1))⟩
  | mark x hg hs he =>
    have hx := (getP_mem hg).1
    refine ⟨⟨h.inv.upd (y := { x with sealed := true }) hx rfl ((h.inv.each x hx).mark true), h.one.upd (y := { x with sealed := true }) hx rfl fun hh => ?_⟩, fun a => tkn_mark h.inv hx true a⟩
    exfalso
    have : x.empty = true := hh
    rw [he] at this
    cases this
theorem unseal_good {pages : Nat} {s : HP} (h : HGood pages s) (p : Int) : HGood pages (unsealP s p).2 ∧ ∀ a, Tkn (unsealP s p).2.A a ↔ Tkn s.A a := by
  have hi := unsealP_is s p
  revert hi
  generalize unsealP s p = q
  intro hi
  cases hi with
  | none => exact ⟨h, fun _ => Iff.rfl⟩
  | state => exact ⟨h, fun _ => Iff.rfl⟩
  | mark x hg hs =>
    have hx := (getP_mem hg).1
    refine ⟨⟨h.inv.upd (y := { x with sealed := false }) hx rfl ((h.inv.each x hx).mark false), h.one.upd (y := { x with sealed := false }) hx rfl fun hh => ?_⟩, fun a => tkn_mark h.inv hx false a⟩
    exfalso
    have := h.one.opn x hx hh
    rw [hs] at this
    cases this

end Go.Proofs.YtlljejmblmjjnaaGreat
