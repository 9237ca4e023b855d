/- The old heap: plain lists. -/
import Derived.Test.YtlljejmblmjjnaaGreatDoorLp
import Derived.Test.YtlljejmblmjjnaaGreatDoorZr
namespace Go.Proofs.YtlljejmblmjjnaaGreatDoor
set_option linter.unusedVariables false
set_option linter.unusedSimpArgs false

/-- A slab of the old heap. -/
structure PO where
  page : Nat
  cls : Nat
  x : Nat
  sealed : Bool
def PO.O (p : PO) : OM := ⟨256 * p.page, p.cls, p.x⟩
def PO.empty (p : PO) : Bool := decide (stateO p.O = 0)
/-- The list of a slab's state: 0 partial, 1 full, 2 empty; 3: sealed. -/
def ofO (S : OM) : Nat := if stateO S = 0 then 2 else if stateO S = 2 then 1 else 0
def PO.kind (p : PO) : Nat := if p.sealed then 3 else ofO p.O
def PO.item (p : PO) : Nat := p.page / 4
def PO.num (p : PO) : Nat := 4 * p.cls + p.kind
def PO.covers (x : PO) (k : Nat) : Prop := x.page ≤ k ∧ k < x.page + 4
def PO.addr (x : PO) (k : Nat) : Nat := 256 * x.page + k * szA x.cls

def insO (x : PO) : List PO → List PO
  | [] => [x]
  | y :: l => if x.page < y.page then x :: y :: l else y :: insO x l
def updO (A : List PO) (x : PO) : List PO := A.map fun y => if y.page = x.page then x else y
def delO (A : List PO) (p : Nat) : List PO := A.filter fun y => y.page != p
def getO (A : List PO) (p : Int) : Option PO := A.find? fun x => (x.page : Int) == p
def nearO (A : List PO) (at_ : Int) : Option PO := A.find? fun x => decide ((256 * x.page : Nat) ≤ at_ ∧ at_ < (256 * x.page + 1024 : Nat))

/-- A heap: the runs of pages, the slabs by their pages, the lists of items. -/
structure OP where
  l : List Run
  A : List PO
  R : Nat → List Nat

def setW (x k : Nat) : Nat := x ||| 2 ^ k
def clrW (x k : Nat) : Nat := x &&& (18446744073709551615 - 2 ^ k)
def PO.set (p : PO) (k : Nat) : PO := { p with x := setW p.x k }
def PO.clr (p : PO) (k : Nat) : PO := { p with x := clrW p.x k }
/-- The first clear bit. -/
def firstC (x n : Nat) : Nat := ((List.range n).find? fun i => !x.testBit i).getD 0
def frontR (R : Nat → List Nat) (i k : Nat) : Nat → List Nat := updR (delR R i) k (i :: delR R i k)
def settleR (R : Nat → List Nat) (p : PO) : Nat → List Nat := if p.item ∈ R (4 * p.cls + ofO p.O) then R else frontR R p.item (4 * p.cls + ofO p.O)
def nextO (s : OP) (c : Nat) : Option PO :=
  match s.R (4 * c) with
  | q :: _ => getO s.A (4 * q : Nat)
  | [] => match s.R (4 * c + 2) with
    | q :: _ => getO s.A (4 * q : Nat)
    | [] => none
def takeFromO (s : OP) (x : PO) : (Int × Int) × OP :=
  (((x.addr (firstC x.x (slA x.cls)) : Nat), 0), ⟨s.l, updO s.A (x.set (firstC x.x (slA x.cls))), settleR s.R (x.set (firstC x.x (slA x.cls)))⟩)
def takeO (s : OP) (cls : Int) : (Int × Int) × OP :=
  if 0 ≤ cls ∧ cls < 16 then
    match nextO s cls.toNat with
    | some x => takeFromO s x
    | none =>
      match placeR 4 4 s.l with
      | none => ((-1, 13), s)
      | some k => match s.l[k]? with
        | none => ((-1, 13), s)
        | some r => takeFromO ⟨takeR s.l k r 4 4, insO ⟨r.first 4, cls.toNat, 0, false⟩ s.A, s.R⟩ ⟨r.first 4, cls.toNat, 0, false⟩
  else ((-1, 11), s)
def closeO (s : OP) (x : PO) : OP := ⟨giveR s.l (idxR x.page s.l) ⟨x.page, 4, true⟩, delO s.A x.page, delR s.R x.item⟩
def giveO (s : OP) (at_ : Int) : Int × OP :=
  match nearO s.A at_ with
  | none => (12, s)
  | some x => match slotO x.O at_ with
    | none => (12, s)
    | some k => if x.x.testBit k = false then (19, s) else
      if ((x.clr k).empty && (x.sealed || decide (0 < (s.R (4 * x.cls + 2)).length))) = true then (0, closeO s x)
      else if x.sealed = true then (0, ⟨s.l, updO s.A (x.clr k), s.R⟩) else (0, ⟨s.l, updO s.A (x.clr k), settleR s.R (x.clr k)⟩)
def sealO (s : OP) (p : Int) : Int × OP :=
  match getO s.A p with
  | none => (16, s)
  | some x => if x.sealed = true then (20, s) else if x.empty = true then (0, closeO s x) else (0, ⟨s.l, updO s.A { x with sealed := true }, frontR s.R x.item (4 * x.cls + 3)⟩)
def unsealO (s : OP) (p : Int) : Int × OP :=
  match getO s.A p with
  | none => (16, s)
  | some x => if x.sealed = true then (0, ⟨s.l, updO s.A { x with sealed := false }, frontR s.R x.item (4 * x.cls + ofO x.O)⟩) else (20, s)
def leaveO (s : OP) (x : PO) : OP := ⟨s.l, delO s.A x.page, delR s.R x.item⟩
def joinO (s : OP) (x : PO) : OP := ⟨s.l, insO { x with sealed := false } s.A, frontR s.R x.item (4 * x.cls + ofO x.O)⟩
def someLO : Nat → OP → Int → List Int → (List Int × Int) × OP
  | 0, s, _, out => ((out, 0), s)
  | n + 1, s, cls, out =>
    if (takeO s cls).1.2 = 0 then someLO n (takeO s cls).2 cls (out ++ [(takeO s cls).1.1])
    else if out = [] then (([], (takeO s cls).1.2), (takeO s cls).2) else ((out, 0), (takeO s cls).2)
def someO (s : OP) (cls n : Int) : (List Int × Int) × OP := if 0 ≤ cls ∧ cls < 16 ∧ 1 ≤ n then someLO n.toNat s cls [] else (([], 11), s)
def takenOP (A : List PO) : List Int := A.flatMap fun x => (takenO x.O).map fun k => ((x.addr k : Nat) : Int)

/-- What always holds. -/
structure PO.Ok (pages : Nat) (x : PO) : Prop where
  al : x.page % 4 = 0
  fits : x.page + 4 ≤ pages
  cls : x.cls < 16
  top : x.x < 2 ^ slA x.cls
  opn : x.sealed = true → x.empty = false
structure OInv (pages : Nat) (s : OP) : Prop where
  tile : Tile 0 s.l pages
  srt : s.A.Pairwise fun x y => x.page < y.page
  each : ∀ x ∈ s.A, x.Ok pages
  tk : ∀ x ∈ s.A, (⟨x.page, 4, true⟩ : Run) ∈ s.l
  ring : ∀ x ∈ s.A, x.item ∈ s.R x.num
  back : ∀ k, k < 64 → ∀ q ∈ s.R k, ∃ x ∈ s.A, x.page = 4 * q ∧ k = x.num
  nodup : ∀ k, k < 64 → (s.R k).Nodup

theorem OInv.uniq {pages : Nat} {s : OP} (h : OInv pages s) {x y : PO} (hx : x ∈ s.A) (hy : y ∈ s.A) {k : Nat} (h1 : x.covers k) (h2 : y.covers k) : x = y := by
  have e1 := h.tile.uniq (h.tk x hx) (h.tk y hy) (k := k) h1.1 h1.2 h2.1 h2.2
  have e2 : x.page = y.page := congrArg Run.page e1
  obtain ⟨i, hi, rfl⟩ := List.mem_iff_getElem.1 hx
  obtain ⟨j, hj, rfl⟩ := List.mem_iff_getElem.1 hy
  have hp := List.pairwise_iff_getElem.1 h.srt
  rcases Nat.lt_trichotomy i j with hij | rfl | hij
  · have := hp i j hi hj hij; omega
  · rfl
  · have := hp j i hj hi hij; omega
theorem OInv.same {pages : Nat} {s : OP} (h : OInv pages s) {x y : PO} (hx : x ∈ s.A) (hy : y ∈ s.A) (hp : x.page = y.page) : x = y :=
  h.uniq hx hy (k := x.page) ⟨Nat.le_refl _, by omega⟩ ⟨by omega, by omega⟩
theorem getO_mem {A : List PO} {p : Int} {x : PO} (h : getO A p = some x) : x ∈ A ∧ (x.page : Int) = p :=
  ⟨List.mem_of_find?_eq_some h, by have := List.find?_some h; simpa using this⟩
theorem OInv.get {pages : Nat} {s : OP} (h : OInv pages s) {x : PO} (hx : x ∈ s.A) : getO s.A x.page = some x := by
  cases hg : getO s.A x.page with
  | none =>
    unfold getO at hg
    rw [List.find?_eq_none] at hg
    exact absurd (by simp) (hg x hx)
  | some y =>
    obtain ⟨h1, h2⟩ := getO_mem hg
    rw [h.same h1 hx (by omega)]
theorem nearO_mem {A : List PO} {at_ : Int} {x : PO} (h : nearO A at_ = some x) : x ∈ A ∧ ((256 * x.page : Nat) : Int) ≤ at_ ∧ at_ < (256 * x.page + 1024 : Nat) :=
  ⟨List.mem_of_find?_eq_some h, by have := List.find?_some h; simpa using this⟩
theorem OInv.near {pages : Nat} {s : OP} (h : OInv pages s) {x : PO} (hx : x ∈ s.A) {at_ : Int} (h1 : ((256 * x.page : Nat) : Int) ≤ at_) (h2 : at_ < (256 * x.page + 1024 : Nat)) : nearO s.A at_ = some x := by
  cases hg : nearO s.A at_ with
  | none =>
    unfold nearO at hg
    rw [List.find?_eq_none] at hg
    exact absurd (by simpa using ⟨by simpa using h1, by simpa using h2⟩) (hg x hx)
  | some y =>
    obtain ⟨h3, h4, h5⟩ := nearO_mem hg
    have hz : ∃ z : Nat, (z : Int) = at_ := ⟨at_.toNat, by omega⟩
    obtain ⟨z, rfl⟩ := hz
    rw [h.uniq h3 hx (k := z / 256) ⟨by omega, by omega⟩ ⟨by omega, by omega⟩]

theorem insO_mem {x y : PO} : ∀ {A : List PO}, y ∈ insO x A ↔ y = x ∨ y ∈ A
  | [] => by simp [insO]
  | z :: l => by
    unfold insO
    split
    · simp
    · rw [List.mem_cons, insO_mem, List.mem_cons]
      constructor
      · rintro (h | h | h)
        · exact .inr (.inl h)
        · exact .inl h
        · exact .inr (.inr h)
      · rintro (h | h | h)
        · exact .inr (.inl h)
        · exact .inl h
        · exact .inr (.inr h)
theorem insO_perm (x : PO) : ∀ A : List PO, (insO x A).Perm (x :: A)
  | [] => .refl _
  | z :: l => by
    unfold insO
    split
    · exact .refl _
    · exact ((insO_perm x l).cons z).trans (.swap _ _ _)
theorem insO_srt {x : PO} : ∀ {A : List PO}, A.Pairwise (fun x y => x.page < y.page) → (∀ y ∈ A, y.page ≠ x.page) → (insO x A).Pairwise fun x y => x.page < y.page
  | [], _, _ => by simp [insO]
  | z :: l, h, hn => by
    obtain ⟨h1, h2⟩ := List.pairwise_cons.1 h
    unfold insO
    split
    · next hlt => exact List.Pairwise.cons (fun y hy => by rcases List.mem_cons.1 hy with rfl | hy; exact hlt; have := h1 y hy; omega) h
    · next hge =>
      have := hn z List.mem_cons_self
      refine List.Pairwise.cons (fun y hy => ?_) (insO_srt h2 fun y hy => hn y (List.mem_cons_of_mem _ hy))
      rcases insO_mem.1 hy with rfl | hy
      · omega
      · exact h1 y hy
theorem updO_mem {A : List PO} {x y : PO} (hx : ∃ z ∈ A, z.page = x.page) : y ∈ updO A x ↔ y = x ∨ (y ∈ A ∧ y.page ≠ x.page) := by
  unfold updO
  rw [List.mem_map]
  constructor
  · rintro ⟨z, hz, rfl⟩
    split
    · exact .inl rfl
    · next h => exact .inr ⟨hz, h⟩
  · rintro (rfl | ⟨h1, h2⟩)
    · obtain ⟨z, hz, hp⟩ := hx
      exact ⟨z, hz, if_pos hp⟩
    · exact ⟨y, h1, if_neg h2⟩
theorem updO_srt {A : List PO} {x : PO} (h : A.Pairwise fun x y => x.page < y.page) : (updO A x).Pairwise fun x y => x.page < y.page := by
  unfold updO
  rw [List.pairwise_map]
  refine h.imp ?_
  intro a b hab
  split <;> split <;> simp_all <;> omega
theorem updO_pages (A : List PO) (x : PO) : (updO A x).map (·.page) = A.map (·.page) := by
  unfold updO
  rw [List.map_map]
  apply List.map_congr_left
  intro y _
  simp only [Function.comp]
  split
  · next h => exact h.symm
  · rfl
theorem delO_mem {A : List PO} {p : Nat} {y : PO} : y ∈ delO A p ↔ y ∈ A ∧ y.page ≠ p := by
  unfold delO
  rw [List.mem_filter]
  simp
theorem updO_length (A : List PO) (x : PO) : (updO A x).length = A.length := List.length_map _
theorem insO_length (x : PO) (A : List PO) : (insO x A).length = A.length + 1 := (insO_perm x A).length_eq.trans (List.length_cons)
theorem delO_perm {pages : Nat} {s : OP} (h : OInv pages s) {x : PO} (hx : x ∈ s.A) : s.A.Perm (x :: delO s.A x.page) := by
  obtain ⟨i, hi, rfl⟩ := List.mem_iff_getElem.1 hx
  have hp := List.pairwise_iff_getElem.1 h.srt
  have e : delO s.A (s.A[i]).page = s.A.take i ++ s.A.drop (i + 1) := by
    have e0 : s.A = s.A.take i ++ s.A[i] :: s.A.drop (i + 1) := by simp
    have hsrt := h.srt
    generalize s.A[i] = x at *
    rw [e0] at hsrt
    obtain ⟨-, q2, q3⟩ := List.pairwise_append.1 hsrt
    conv => lhs; rw [e0]
    unfold delO
    rw [List.filter_append, List.filter_cons, if_neg (by simp), List.filter_eq_self.2, List.filter_eq_self.2]
    · intro a ha
      have := (List.pairwise_cons.1 q2).1 a ha
      simp; omega
    · intro a ha
      have := q3 a ha x List.mem_cons_self
      simp; omega
  rw [e]
  conv => lhs; rw [show s.A = s.A.take i ++ s.A[i] :: s.A.drop (i + 1) by simp]
  exact List.perm_middle


end Go.Proofs.YtlljejmblmjjnaaGreatDoor

/- The old heap, plain: bitmaps, moves between lists, what a turn keeps. -/
namespace Go.Proofs.YtlljejmblmjjnaaGreatDoor
set_option linter.unusedVariables false
set_option linter.unusedSimpArgs false

theorem setW_bit (x k j : Nat) : (setW x k).testBit j = (x.testBit j || decide (k = j)) := by
  unfold setW
  rw [Nat.testBit_or, Nat.testBit_two_pow]
theorem clrW_bit (x k j : Nat) (hk : k < 64) (hx : x < 2 ^ 64) : (clrW x k).testBit j = (x.testBit j && !decide (k = j)) := by
  unfold clrW
  by_cases hj : j < 64
  · rw [Nat.testBit_and, show 18446744073709551615 - 2 ^ k = 2 ^ 64 - (2 ^ k + 1) by omega, Nat.testBit_two_pow_sub_succ (Nat.pow_lt_pow_right (by decide) hk), Nat.testBit_two_pow]
    simp [hj]
  · have : x.testBit j = false := Nat.testBit_lt_two_pow (Nat.lt_of_lt_of_le hx (Nat.pow_le_pow_right (by decide) (by omega)))
    rw [Nat.testBit_and, this]
    simp
theorem setW_lt {x k n : Nat} (hk : k < n) (hx : x < 2 ^ n) : setW x k < 2 ^ n := Nat.or_lt_two_pow hx (Nat.pow_lt_pow_right (by decide) hk)
theorem clrW_lt {x n : Nat} (k : Nat) (hx : x < 2 ^ n) : clrW x k < 2 ^ n := Nat.lt_of_le_of_lt Nat.and_le_left hx
theorem onL_mem {x n k : Nat} : k ∈ onL x n ↔ k < n ∧ x.testBit k = true := by
  unfold onL
  rw [List.mem_filter, List.mem_range]
theorem ones_zero {x n : Nat} : ones x n = 0 ↔ ∀ k, k < n → x.testBit k = false := by
  unfold ones
  rw [List.length_eq_zero_iff, List.eq_nil_iff_forall_not_mem]
  constructor
  · intro h k hk
    have := h k
    rw [onL_mem] at this
    simpa [hk] using this
  · intro h k hk
    rw [onL_mem] at hk
    rw [h k hk.1] at hk
    exact absurd hk.2 (by decide)
theorem ones_full {x n : Nat} : ones x n = n ↔ ∀ k, k < n → x.testBit k = true := by
  unfold ones onL
  have := @List.length_filter_eq_length_iff Nat (fun k => x.testBit k) (List.range n)
  rw [List.length_range] at this
  rw [this]
  simp only [List.mem_range]
theorem state_zero (S : OM) : stateO S = 0 ↔ ∀ k, k < slA S.cls → S.x.testBit k = false := by
  rw [← ones_zero]
  unfold stateO
  split
  · next h => simp [h]
  · next h => split <;> simp [h]
theorem state_full {S : OM} (hc : S.cls < 16) : stateO S = 2 ↔ ∀ k, k < slA S.cls → S.x.testBit k = true := by
  rw [← ones_full]
  have := (szA_all _ hc).2.2.2.1
  unfold stateO
  split
  · next h => rw [h]; exact ⟨fun e => (by cases e), fun e => (by omega)⟩
  · split
    · next h => simp [h]
    · next h => simp [h]
theorem of_two (S : OM) : ofO S = 2 ↔ stateO S = 0 := by
  unfold ofO
  split
  · next h => simp [h]
  · next h => split <;> simp [h]
theorem of_one {S : OM} : ofO S = 1 ↔ stateO S = 2 := by
  unfold ofO
  split
  · next h => rw [h]; simp
  · split
    · next h => simp [h]
    · next h => simp [h]
theorem of_le (S : OM) : ofO S ≤ 2 := by
  unfold ofO
  split
  · decide
  · split <;> decide
theorem PO.kind_le (x : PO) : x.kind ≤ 3 := by
  have := of_le x.O
  unfold PO.kind
  split <;> omega
theorem PO.kind_three {x : PO} : x.kind = 3 ↔ x.sealed = true := by
  have := of_le x.O
  unfold PO.kind
  split
  · next h => simp [h]
  · next h => simp only [h]; exact ⟨fun e => by omega, fun e => by cases e⟩
theorem PO.num_lt {x : PO} (h : x.cls < 16) : x.num < 64 := by
  have := x.kind_le
  unfold PO.num
  omega
theorem firstC_of {x n k : Nat} (hk : k < n) (h1 : x.testBit k = false) (h2 : ∀ i, i < k → x.testBit i = true) : firstC x n = k := by
  unfold firstC
  have : (List.range n).find? (fun i => !x.testBit i) = some k := by
    rw [List.find?_range_eq_some]
    exact ⟨by rw [h1]; rfl, List.mem_range.2 hk, fun i hi => by rw [h2 i hi]; rfl⟩
  rw [this]
  rfl
theorem firstC_is {x n : Nat} (h : ∃ k, k < n ∧ x.testBit k = false) : firstC x n < n ∧ x.testBit (firstC x n) = false ∧ ∀ i, i < firstC x n → x.testBit i = true := by
  unfold firstC
  cases hf : (List.range n).find? (fun i => !x.testBit i) with
  | none =>
    exfalso
    rw [List.find?_eq_none] at hf
    obtain ⟨k, hk, e⟩ := h
    have := hf k (List.mem_range.2 hk)
    rw [e] at this
    exact this rfl
  | some k =>
    rw [List.find?_range_eq_some] at hf
    obtain ⟨h1, h2, h3⟩ := hf
    refine ⟨List.mem_range.1 h2, by simpa using h1, fun i hi => by simpa using h3 i hi⟩

/-- An item goes from wherever it stands to one list. -/
structure MoveR (R R' : Nat → List Nat) (i k : Nat) : Prop where
  here : ∀ m, m < 64 → (i ∈ R' m ↔ m = k)
  other : ∀ m, m < 64 → ∀ q, q ≠ i → (q ∈ R' m ↔ q ∈ R m)
  nodup : ∀ m, m < 64 → (R' m).Nodup
theorem delR_mem {R : Nat → List Nat} (hn : ∀ m, m < 64 → (R m).Nodup) {i m q : Nat} (hm : m < 64) : q ∈ delR R i m ↔ q ≠ i ∧ q ∈ R m := by
  unfold delR
  rw [(hn m hm).mem_erase_iff]
theorem front_move {R : Nat → List Nat} (hn : ∀ m, m < 64 → (R m).Nodup) (i k : Nat) : MoveR R (frontR R i k) i k := by
  refine ⟨fun m hm => ?_, fun m hm q hq => ?_, fun m hm => ?_⟩
  · unfold frontR updR
    split
    · next e => simp [e]
    · next e => rw [delR_mem hn hm]; simp [e]
  · unfold frontR updR
    split
    · next e => rw [List.mem_cons, delR_mem hn (e ▸ hm), e]; simp [hq]
    · next e => rw [delR_mem hn hm]; simp [hq]
  · unfold frontR updR
    split
    · next e => exact List.nodup_cons.2 ⟨fun hh => ((delR_mem hn (e ▸ hm)).1 hh).1 rfl, (hn k (e ▸ hm)).erase i⟩
    · exact (hn m hm).erase i
theorem settle_move {R : Nat → List Nat} (hn : ∀ m, m < 64 → (R m).Nodup) (p : PO) (hc : p.cls < 16) {k : Nat} (h : ∀ m, m < 64 → p.item ∈ R m → m = k) : MoveR R (settleR R p) p.item (4 * p.cls + ofO p.O) := by
  have hlt : 4 * p.cls + ofO p.O < 64 := by have := of_le p.O; omega
  unfold settleR
  split
  · next hh =>
    refine ⟨fun m hm => ⟨fun hi => ?_, fun e => by rw [e]; exact hh⟩, fun m hm q hq => Iff.rfl, hn⟩
    have h1 := h m hm hi
    have h2 := h _ hlt hh
    omega
  · exact front_move hn _ _

theorem idxR_ofO {l : List Run} {z : Nat} (hT : Tile 0 l z) {r : Run} (hr : r ∈ l) : l[idxR r.page l]? = some r := by
  have hb := hT.bounds r hr
  obtain ⟨h1, r', h2, h3, h4⟩ := idxR_spec (p := r.page) hT (Nat.zero_le _) (by unfold Run.stop at hb; omega)
  rw [h2]
  have e := hT.uniq (List.mem_of_getElem? h2) hr h3 h4 (Nat.le_refl _) (by unfold Run.stop; omega)
  rw [e]
theorem item_eq {pages : Nat} {x : PO} (h : x.Ok pages) : x.page = 4 * x.item := by
  have := h.al
  unfold PO.item
  omega
theorem OInv.place {pages : Nat} {s : OP} (h : OInv pages s) {x : PO} (hx : x ∈ s.A) {m : Nat} (hm : m < 64) : x.item ∈ s.R m ↔ m = x.num := by
  constructor
  · intro hi
    obtain ⟨z, hz, e1, e2⟩ := h.back m hm _ hi
    have : x.page = z.page := by rw [e1]; exact item_eq (h.each x hx)
    rw [h.same hx hz this]
    exact e2
  · rintro rfl
    exact h.ring x hx
theorem OInv.absent {pages : Nat} {s : OP} (h : OInv pages s) {i : Nat} (hi : ∀ z ∈ s.A, z.page ≠ 4 * i) {m : Nat} (hm : m < 64) : i ∉ s.R m := fun hh => by
  obtain ⟨z, hz, e1, -⟩ := h.back m hm _ hh
  exact hi z hz e1
theorem OInv.turn {pages : Nat} {s : OP} (h : OInv pages s) {x y : PO} (hx : x ∈ s.A) (hp : y.page = x.page) (hy : y.Ok pages) {R' : Nat → List Nat} (hm : MoveR s.R R' x.item y.num) : OInv pages ⟨s.l, updO s.A y, R'⟩ := by
  have hz : ∃ z ∈ s.A, z.page = y.page := ⟨x, hx, hp.symm⟩
  have hyi : y.item = x.item := by unfold PO.item; rw [hp]
  have hne : ∀ u ∈ s.A, u.page ≠ y.page → u.item ≠ x.item := fun u hu h1 e => h1 (by rw [hp, item_eq (h.each u hu), item_eq (h.each x hx), e])
  refine ⟨h.tile, updO_srt h.srt, fun u hu => ?_, fun u hu => ?_, fun u hu => ?_, fun m hm2 q hq => ?_, hm.nodup⟩
  · rcases (updO_mem hz).1 hu with rfl | ⟨h1, -⟩
    · exact hy
    · exact h.each u h1
  · rcases (updO_mem hz).1 hu with rfl | ⟨h1, -⟩
    · rw [hp]; exact h.tk x hx
    · exact h.tk u h1
  · rcases (updO_mem hz).1 hu with rfl | ⟨h1, h2⟩
    · rw [hyi]; exact (hm.here _ (PO.num_lt hy.cls)).2 rfl
    · exact (hm.other _ (PO.num_lt (h.each u h1).cls) _ (hne u h1 h2)).2 (h.ring u h1)
  · by_cases e : q = x.item
    · subst e
      refine ⟨y, (updO_mem hz).2 (.inl rfl), by rw [hp]; exact item_eq (h.each x hx), (hm.here m hm2).1 hq⟩
    · obtain ⟨z, z1, z2, z3⟩ := h.back m hm2 q ((hm.other m hm2 q e).1 hq)
      refine ⟨z, (updO_mem hz).2 (.inr ⟨z1, fun e2 => e ?_⟩), z2, z3⟩
      have := item_eq (h.each x hx)
      omega
theorem OInv.del {pages : Nat} {s : OP} (h : OInv pages s) {x : PO} (hx : x ∈ s.A) {l : List Run} (hT : Tile 0 l pages) (htk : ∀ u ∈ delO s.A x.page, (⟨u.page, 4, true⟩ : Run) ∈ l) : OInv pages ⟨l, delO s.A x.page, delR s.R x.item⟩ := by
  refine ⟨hT, h.srt.filter _, fun u hu => h.each u (delO_mem.1 hu).1, htk, fun u hu => ?_, fun m hm q hq => ?_, fun m hm => (h.nodup m hm).erase _⟩
  · obtain ⟨h1, h2⟩ := delO_mem.1 hu
    refine (delR_mem h.nodup (PO.num_lt (h.each u h1).cls)).2 ⟨fun e => h2 ?_, h.ring u h1⟩
    rw [item_eq (h.each u h1), item_eq (h.each x hx), e]
  · obtain ⟨e, hq⟩ := (delR_mem h.nodup hm).1 hq
    obtain ⟨z, z1, z2, z3⟩ := h.back m hm q hq
    refine ⟨z, delO_mem.2 ⟨z1, fun e2 => e ?_⟩, z2, z3⟩
    have := item_eq (h.each x hx)
    omega
theorem OInv.close {pages : Nat} {s : OP} (h : OInv pages s) {x : PO} (hx : x ∈ s.A) : OInv pages (closeO s x) := by
  have hk := idxR_ofO h.tile (h.tk x hx)
  refine h.del hx (give_tile h.tile hk) fun u hu => ?_
  obtain ⟨h1, h2⟩ := delO_mem.1 hu
  exact ((give_mem h.tile hk rfl _).2 ⟨⟨h.tk u h1, rfl⟩, fun e => h2 (congrArg Run.page e)⟩).1
theorem OInv.leave {pages : Nat} {s : OP} (h : OInv pages s) {x : PO} (hx : x ∈ s.A) : OInv pages (leaveO s x) :=
  h.del hx h.tile fun u hu => h.tk u (delO_mem.1 hu).1
theorem OInv.ins {pages : Nat} {s : OP} (h : OInv pages s) {y : PO} (hy : y.Ok pages) (hne : ∀ x ∈ s.A, x.page ≠ y.page) {l : List Run} (hT : Tile 0 l pages) (htk : ∀ u ∈ insO y s.A, (⟨u.page, 4, true⟩ : Run) ∈ l) {R' : Nat → List Nat} (hm : MoveR s.R R' y.item y.num) : OInv pages ⟨l, insO y s.A, R'⟩ := by
  refine ⟨hT, insO_srt h.srt hne, fun u hu => ?_, htk, fun u hu => ?_, fun m hm2 q hq => ?_, hm.nodup⟩
  · rcases insO_mem.1 hu with rfl | h1
    · exact hy
    · exact h.each u h1
  · rcases insO_mem.1 hu with rfl | h1
    · exact (hm.here _ (PO.num_lt hy.cls)).2 rfl
    · refine (hm.other _ (PO.num_lt (h.each u h1).cls) _ fun e => hne u h1 ?_).2 (h.ring u h1)
      rw [item_eq (h.each u h1), item_eq hy, e]
  · by_cases e : q = y.item
    · subst e
      exact ⟨y, insO_mem.2 (.inl rfl), item_eq hy, (hm.here m hm2).1 hq⟩
    · obtain ⟨z, z1, z2, z3⟩ := h.back m hm2 q ((hm.other m hm2 q e).1 hq)
      exact ⟨z, insO_mem.2 (.inr z1), z2, z3⟩
theorem placeR_freeO {n al k : Nat} {l : List Run} {r : Run} (hp : placeR n al l = some k) (hr : l[k]? = some r) : r.taken = false ∧ r.first al + n ≤ r.stop := by
  obtain ⟨-, r', hr', hh⟩ := placeR_spec hp
  obtain rfl : r' = r := by rw [hr] at hr'; exact (Option.some.inj hr').symm
  unfold Run.holds at hh
  rw [Bool.and_eq_true] at hh
  exact ⟨by simpa using hh.1, of_decide_eq_true hh.2⟩
theorem OInv.open {pages : Nat} {s : OP} (h : OInv pages s) {k : Nat} {r : Run} {y : PO} (hp : placeR 4 4 s.l = some k) (hr : s.l[k]? = some r) (hf : y.page = r.first 4) :
    Tile 0 (takeR s.l k r 4 4) pages ∧ (∀ x ∈ s.A, x.page ≠ y.page) ∧ ∀ u ∈ insO y s.A, (⟨u.page, 4, true⟩ : Run) ∈ takeR s.l k r 4 4 := by
  obtain ⟨ht, hfit⟩ := placeR_freeO hp hr
  have hge := r.first_ge (al := 4) (by decide)
  have hne : ∀ x ∈ s.A, x.page ≠ y.page := by
    intro x hx e
    have := h.tile.uniq (h.tk x hx) (List.mem_of_getElem? hr) (k := x.page) (Nat.le_refl _) (show x.page < x.page + 4 by omega) (by omega) (by omega)
    rw [← this] at ht
    cases ht
  refine ⟨take_tile h.tile hr (by decide) (by decide) hfit, hne, fun u hu => ?_⟩
  rcases insO_mem.1 hu with rfl | h1
  · rw [hf]; exact ((take_mem hr ht (by decide) _).2 (.inr rfl)).1
  · exact ((take_mem hr ht (by decide) _).2 (.inl ⟨h.tk u h1, rfl⟩)).1
theorem updO_ins {y z : PO} (hp : z.page = y.page) : ∀ {A : List PO}, (∀ u ∈ A, u.page ≠ y.page) → updO (insO y A) z = insO z A
  | [], _ => by simp [insO, updO, hp]
  | u :: l, h => by
    have hu := h u List.mem_cons_self
    have hid : ∀ {l : List PO}, (∀ u ∈ l, u.page ≠ y.page) → updO l z = l := by
      intro l hl
      unfold updO
      conv => rhs; rw [← List.map_id l]
      apply List.map_congr_left
      intro v hv
      rw [if_neg (by rw [hp]; exact hl v hv)]
      rfl
    unfold insO
    rw [hp]
    split
    · show updO (y :: u :: l) z = _
      unfold updO
      rw [List.map_cons, if_pos hp.symm]
      exact congrArg _ (hid h)
    · show updO (u :: insO y l) z = _
      unfold updO
      rw [List.map_cons, if_neg (by rw [hp]; exact hu)]
      exact congrArg _ (updO_ins hp fun v hv => h v (List.mem_cons_of_mem _ hv))
theorem delO_upd (A : List PO) (x : PO) : delO (updO A x) x.page = delO A x.page := by
  induction A with
  | nil => rfl
  | cons u l ih =>
    unfold delO updO at *
    rw [List.map_cons, List.filter_cons, List.filter_cons]
    by_cases e : u.page = x.page
    · rw [if_pos e, if_neg (by simp), if_neg (by simp [e])]
      exact ih
    · rw [if_neg e, if_pos (by simp [e]), if_pos (by simp [e])]
      exact congrArg _ ih
theorem PO.Ok.bits {pages : Nat} {x : PO} (h : x.Ok pages) : x.x < 2 ^ 64 := Nat.lt_of_lt_of_le h.top (Nat.pow_le_pow_right (by decide) (szA_all _ h.cls).2.2.2.2.1)
theorem PO.Ok.set {pages : Nat} {x : PO} (h : x.Ok pages) {k : Nat} (hk : k < slA x.cls) : (x.set k).Ok pages := by
  refine ⟨h.al, h.fits, h.cls, setW_lt hk h.top, fun _ => ?_⟩
  unfold PO.empty
  apply decide_eq_false
  rw [state_zero]
  intro hh
  have := hh k hk
  rw [show (x.set k).O.x = setW x.x k from rfl, setW_bit] at this
  simp at this
theorem PO.empty_iff {x : PO} : x.empty = true ↔ ∀ k, k < slA x.cls → x.x.testBit k = false := by
  unfold PO.empty
  rw [decide_eq_true_iff, state_zero]
  rfl
/-- The slab from which a slot would be taken. -/
theorem OInv.next_some {pages : Nat} {s : OP} (h : OInv pages s) {c : Nat} (hc : c < 16) {x : PO} (hn : nextO s c = some x) :
    x ∈ s.A ∧ x.cls = c ∧ x.sealed = false ∧ (∃ k, k < slA x.cls ∧ x.x.testBit k = false) ∧ ((∃ m, s.R (4 * c) = x.item :: m) ∨ s.R (4 * c) = [] ∧ ∃ m, s.R (4 * c + 2) = x.item :: m) := by
  have key : ∀ {m q : Nat} {l : List Nat}, m < 64 → s.R m = q :: l → getO s.A (4 * q : Nat) = some x → x ∈ s.A ∧ m = x.num ∧ x.item = q := by
    intro m q l hm hR hg
    obtain ⟨hx, hp⟩ := getO_mem hg
    obtain ⟨z, hz, e1, e2⟩ := h.back m hm q (by rw [hR]; exact List.mem_cons_self)
    have : x = z := h.same hx hz (by omega)
    subst this
    exact ⟨hx, e2, by have := item_eq (h.each x hx); omega⟩
  have fin : ∀ {kd : Nat}, kd = 0 ∨ kd = 2 → x ∈ s.A → 4 * c + kd = x.num → x.cls = c ∧ x.sealed = false ∧ ∃ k, k < slA x.cls ∧ x.x.testBit k = false := by
    intro kd hkd hx e
    have hk := x.kind_le
    unfold PO.num at e
    have hcl : x.cls = c := by omega
    have hkk : x.kind = kd := by omega
    have hsl : x.sealed = false := by
      cases hq : x.sealed with
      | false => rfl
      | true => have := PO.kind_three.2 hq; omega
    refine ⟨hcl, hsl, ?_⟩
    apply Classical.byContradiction
    intro hno
    have hfull : stateO x.O = 2 := (state_full (S := x.O) (h.each x hx).cls).2 fun k hk2 => by
      cases hb : x.O.x.testBit k with
      | true => rfl
      | false => exact absurd ⟨k, hk2, hb⟩ hno
    have : x.kind = 1 := by
      unfold PO.kind
      rw [hsl]
      exact of_one.2 hfull
    omega
  unfold nextO at hn
  split at hn
  · next q l hR =>
    obtain ⟨hx, e, ei⟩ := key (by omega) hR hn
    obtain ⟨a1, a2, a3⟩ := fin (.inl rfl) hx e
    exact ⟨hx, a1, a2, a3, .inl ⟨l, by rw [ei]; exact hR⟩⟩
  · next hR =>
    split at hn
    · next q l hR2 =>
      obtain ⟨hx, e, ei⟩ := key (by omega) hR2 hn
      obtain ⟨a1, a2, a3⟩ := fin (.inr rfl) hx e
      exact ⟨hx, a1, a2, a3, .inr ⟨hR, l, by rw [ei]; exact hR2⟩⟩
    · cases hn
theorem OInv.next_none {pages : Nat} {s : OP} (h : OInv pages s) {c : Nat} (hc : c < 16) (hn : nextO s c = none) : s.R (4 * c) = [] ∧ s.R (4 * c + 2) = [] := by
  have key : ∀ {m q : Nat} {l : List Nat}, m < 64 → s.R m = q :: l → getO s.A (4 * q : Nat) = none → False := by
    intro m q l hm hR hg
    obtain ⟨z, hz, e1, e2⟩ := h.back m hm q (by rw [hR]; exact List.mem_cons_self)
    have := h.get hz
    rw [e1, hg] at this
    cases this
  unfold nextO at hn
  split at hn
  · next q l hR => exact (key (by omega) hR hn).elim
  · next hR =>
    split at hn
    · next q l hR2 => exact (key (by omega) hR2 hn).elim
    · next hR2 => exact ⟨hR, hR2⟩

end Go.Proofs.YtlljejmblmjjnaaGreatDoor

/- The old heap, plain: what is taken; Take. -/
namespace Go.Proofs.YtlljejmblmjjnaaGreatDoor
set_option linter.unusedVariables false
set_option linter.unusedSimpArgs false

/-- Of each class at most one slab is empty. -/
structure OGood (pages : Nat) (s : OP) : Prop where
  inv : OInv pages s
  one : ∀ c, c < 16 → (s.R (4 * c + 2)).length ≤ 1
def TknO (A : List PO) (a : Int) : Prop := ∃ x ∈ A, ∃ k, k < slA x.cls ∧ x.x.testBit k = true ∧ a = (x.addr k : Nat)
theorem takenOP_mem {A : List PO} {a : Int} : a ∈ takenOP A ↔ TknO A a := by
  unfold takenOP TknO takenO
  simp only [List.mem_flatMap, List.mem_map, onL_mem]
  constructor
  · rintro ⟨x, hx, k, ⟨h1, h2⟩, rfl⟩; exact ⟨x, hx, k, h1, h2, rfl⟩
  · rintro ⟨x, hx, k, h1, h2, rfl⟩; exact ⟨x, hx, k, ⟨h1, h2⟩, rfl⟩
theorem slot_fitsO {cls k : Nat} (hc : cls < 16) (hk : k < slA cls) : k * szA cls + szA cls ≤ 1024 := by
  have h := (szA_all cls hc).2.2.2.2.2
  have h2 := Nat.mul_le_mul_right (szA cls) (Nat.succ_le_of_lt hk)
  rw [Nat.succ_mul, Nat.mul_comm (slA cls)] at h2
  omega
theorem PO.Ok.addr_in {pages : Nat} {x : PO} (h : x.Ok pages) {k : Nat} (hk : k < slA x.cls) : 256 * x.page ≤ x.addr k ∧ x.addr k + szA x.cls ≤ 256 * x.page + 1024 := by
  have := slot_fitsO h.cls hk
  unfold PO.addr
  omega
theorem PO.Ok.addr_inj {pages : Nat} {x : PO} (h : x.Ok pages) {i j : Nat} (e : x.addr i = x.addr j) : i = j := by
  have := (szA_all _ h.cls).1
  unfold PO.addr at e
  have e' : i * szA x.cls = j * szA x.cls := by omega
  exact Nat.eq_of_mul_eq_mul_right (by omega) e'
theorem slotO_addr {pages : Nat} {x : PO} (h : x.Ok pages) {k : Nat} (hk : k < slA x.cls) : slotO x.O (x.addr k : Nat) = some k := slotO_at (S := x.O) h.cls hk
theorem OInv.tkn_uniq {pages : Nat} {s : OP} (h : OInv pages s) {x y : PO} (hx : x ∈ s.A) (hy : y ∈ s.A) {i j : Nat} (hi : i < slA x.cls) (hj : j < slA y.cls) (e : x.addr i = y.addr j) : x = y ∧ i = j := by
  have a1 := (h.each x hx).addr_in hi
  have a2 := (h.each y hy).addr_in hj
  have p1 := (szA_all _ (h.each x hx).cls).1
  have p2 := (szA_all _ (h.each y hy).cls).1
  have e1 : x = y := h.uniq hx hy (k := x.addr i / 256) ⟨by omega, by omega⟩ ⟨by omega, by omega⟩
  subst e1
  exact ⟨rfl, (h.each x hx).addr_inj e⟩
theorem OInv.tkn_iff {pages : Nat} {s : OP} (h : OInv pages s) {x : PO} (hx : x ∈ s.A) {k : Nat} (hk : k < slA x.cls) : TknO s.A (x.addr k : Nat) ↔ x.x.testBit k = true := by
  constructor
  · rintro ⟨y, hy, j, h1, h2, e⟩
    obtain ⟨rfl, rfl⟩ := h.tkn_uniq hx hy hk h1 (by exact_mod_cast e)
    exact h2
  · exact fun h1 => ⟨x, hx, k, hk, h1, rfl⟩
theorem tkn_updO {pages : Nat} {s : OP} (h : OInv pages s) {x y : PO} (hx : x ∈ s.A) (hp : y.page = x.page) (hc : y.cls = x.cls) (a : Int) :
    TknO (updO s.A y) a ↔ (∃ k, k < slA x.cls ∧ y.x.testBit k = true ∧ a = (x.addr k : Nat)) ∨ ∃ z ∈ s.A, z ≠ x ∧ ∃ k, k < slA z.cls ∧ z.x.testBit k = true ∧ a = (z.addr k : Nat) := by
  have hz : ∃ z ∈ s.A, z.page = y.page := ⟨x, hx, hp.symm⟩
  have ha : ∀ k, y.addr k = x.addr k := fun k => by unfold PO.addr; rw [hp, hc]
  constructor
  · rintro ⟨z, hzm, k, h1, h2, rfl⟩
    rcases (updO_mem hz).1 hzm with rfl | ⟨b1, b2⟩
    · exact .inl ⟨k, by rw [← hc]; exact h1, h2, by rw [ha]⟩
    · exact .inr ⟨z, b1, fun e => b2 (by rw [e, hp]), k, h1, h2, rfl⟩
  · rintro (⟨k, h1, h2, rfl⟩ | ⟨z, b1, b2, k, h1, h2, rfl⟩)
    · exact ⟨y, (updO_mem hz).2 (.inl rfl), k, by rw [hc]; exact h1, h2, by rw [ha]⟩
    · exact ⟨z, (updO_mem hz).2 (.inr ⟨b1, fun e => b2 (h.same b1 hx (by omega))⟩), k, h1, h2, rfl⟩
theorem tkn_splitO {pages : Nat} {s : OP} (h : OInv pages s) {x : PO} (hx : x ∈ s.A) (a : Int) :
    TknO s.A a ↔ (∃ k, k < slA x.cls ∧ x.x.testBit k = true ∧ a = (x.addr k : Nat)) ∨ ∃ z ∈ s.A, z ≠ x ∧ ∃ k, k < slA z.cls ∧ z.x.testBit k = true ∧ a = (z.addr k : Nat) := by
  constructor
  · rintro ⟨z, hz, k, h1, h2, rfl⟩
    by_cases e : z = x
    · subst e; exact .inl ⟨k, h1, h2, rfl⟩
    · exact .inr ⟨z, hz, e, k, h1, h2, rfl⟩
  · rintro (⟨k, h1, h2, rfl⟩ | ⟨z, b1, b2, k, h1, h2, rfl⟩)
    · exact ⟨x, hx, k, h1, h2, rfl⟩
    · exact ⟨z, b1, k, h1, h2, rfl⟩
theorem tkn_set {pages : Nat} {s : OP} (h : OInv pages s) {x : PO} (hx : x ∈ s.A) {j : Nat} (hj : j < slA x.cls) (a : Int) :
    TknO (updO s.A (x.set j)) a ↔ TknO s.A a ∨ a = (x.addr j : Nat) := by
  rw [tkn_updO (y := x.set j) h hx rfl rfl, tkn_splitO h hx]
  show (∃ k, k < slA x.cls ∧ (setW x.x j).testBit k = true ∧ a = (x.addr k : Nat)) ∨ _ ↔ _
  constructor
  · rintro (⟨k, h1, h2, rfl⟩ | hh)
    · rw [setW_bit, Bool.or_eq_true, decide_eq_true_iff] at h2
      rcases h2 with h2 | rfl
      · exact .inl (.inl ⟨k, h1, h2, rfl⟩)
      · exact .inr rfl
    · exact .inl (.inr hh)
  · rintro ((⟨k, h1, h2, rfl⟩ | hh) | rfl)
    · exact .inl ⟨k, h1, by rw [setW_bit, h2]; rfl, rfl⟩
    · exact .inr hh
    · exact .inl ⟨j, hj, by rw [setW_bit]; simp, rfl⟩
theorem tkn_clr {pages : Nat} {s : OP} (h : OInv pages s) {x : PO} (hx : x ∈ s.A) {j : Nat} (hj : j < slA x.cls) (a : Int) :
    TknO (updO s.A (x.clr j)) a ↔ TknO s.A a ∧ a ≠ (x.addr j : Nat) := by
  have hok := h.each x hx
  have hj64 : j < 64 := Nat.lt_of_lt_of_le hj (szA_all _ hok.cls).2.2.2.2.1
  rw [tkn_updO (y := x.clr j) h hx rfl rfl, tkn_splitO h hx]
  show (∃ k, k < slA x.cls ∧ (clrW x.x j).testBit k = true ∧ a = (x.addr k : Nat)) ∨ _ ↔ _
  constructor
  · rintro (⟨k, h1, h2, rfl⟩ | ⟨z, b1, b2, k, h1, h2, rfl⟩)
    · rw [clrW_bit _ _ _ hj64 hok.bits, Bool.and_eq_true, Bool.not_eq_true', decide_eq_false_iff_not] at h2
      exact ⟨.inl ⟨k, h1, h2.1, rfl⟩, fun e => h2.2 (hok.addr_inj (by exact_mod_cast e)).symm⟩
    · exact ⟨.inr ⟨z, b1, b2, k, h1, h2, rfl⟩, fun e => b2 (h.tkn_uniq b1 hx h1 hj (by exact_mod_cast e)).1⟩
  · rintro ⟨⟨k, h1, h2, rfl⟩ | hh, h3⟩
    · exact .inl ⟨k, h1, by
        rw [clrW_bit _ _ _ hj64 hok.bits, h2, Bool.true_and, Bool.not_eq_true', decide_eq_false_iff_not]
        exact fun e => h3 (by rw [e]), rfl⟩
    · exact .inr hh
theorem tkn_insO {A : List PO} {y : PO} (a : Int) : TknO (insO y A) a ↔ TknO A a ∨ ∃ k, k < slA y.cls ∧ y.x.testBit k = true ∧ a = (y.addr k : Nat) := by
  constructor
  · rintro ⟨z, hz, k, h1, h2, rfl⟩
    rcases insO_mem.1 hz with rfl | hz
    · exact .inr ⟨k, h1, h2, rfl⟩
    · exact .inl ⟨z, hz, k, h1, h2, rfl⟩
  · rintro (⟨z, hz, k, h1, h2, rfl⟩ | ⟨k, h1, h2, rfl⟩)
    · exact ⟨z, insO_mem.2 (.inr hz), k, h1, h2, rfl⟩
    · exact ⟨y, insO_mem.2 (.inl rfl), k, h1, h2, rfl⟩
theorem tkn_delO {pages : Nat} {s : OP} (h : OInv pages s) {x : PO} (hx : x ∈ s.A) (a : Int) : TknO (delO s.A x.page) a ↔ ∃ z ∈ s.A, z ≠ x ∧ ∃ k, k < slA z.cls ∧ z.x.testBit k = true ∧ a = (z.addr k : Nat) := by
  constructor
  · rintro ⟨z, hz, k, h1, h2, rfl⟩
    obtain ⟨b1, b2⟩ := delO_mem.1 hz
    exact ⟨z, b1, fun e => b2 (by rw [e]), k, h1, h2, rfl⟩
  · rintro ⟨z, b1, b2, k, h1, h2, rfl⟩
    exact ⟨z, delO_mem.2 ⟨b1, fun e => b2 (h.same b1 hx e)⟩, k, h1, h2, rfl⟩
theorem sub_len {l m : List Nat} (hl : l.Nodup) (h : ∀ q ∈ l, q ∈ m) : l.length ≤ m.length := nodup_subO hl h

/-- Take, told by cases. -/
inductive TakeOIs (pages : Nat) (s : OP) (cls : Int) : (Int × Int) × OP → Prop
  | range (h : ¬ (0 ≤ cls ∧ cls < 16)) : TakeOIs pages s cls ((-1, 11), s)
  | old (x : PO) (j c : Nat) (hc : cls = c) (hc2 : c < 16) (hn : nextO s c = some x) (hx : x ∈ s.A) (hxc : x.cls = c) (hxs : x.sealed = false) (hj : j < slA x.cls) (hjb : x.x.testBit j = false) (hjt : ∀ i, i < j → x.x.testBit i = true) :
      TakeOIs pages s cls (((x.addr j : Nat), 0), ⟨s.l, updO s.A (x.set j), settleR s.R (x.set j)⟩)
  | full (c : Nat) (hc : cls = c) (hc2 : c < 16) (hn : nextO s c = none) (hp : placeR 4 4 s.l = none) : TakeOIs pages s cls ((-1, 13), s)
  | new (c : Nat) (hc : cls = c) (hc2 : c < 16) (hn : nextO s c = none) (k : Nat) (r : Run) (hp : placeR 4 4 s.l = some k) (hr : s.l[k]? = some r) (hf : r.first 4 % 4 = 0) (hfit : r.first 4 + 4 ≤ pages) (hne : ∀ z ∈ s.A, z.page ≠ r.first 4) :
      TakeOIs pages s cls (((256 * r.first 4 : Nat), 0), ⟨takeR s.l k r 4 4, insO ((⟨r.first 4, c, 0, false⟩ : PO).set 0) s.A, settleR s.R ((⟨r.first 4, c, 0, false⟩ : PO).set 0)⟩)
theorem firstC_zero {n : Nat} (hn : 0 < n) : firstC 0 n = 0 := firstC_of hn (Nat.zero_testBit 0) fun i hi => absurd hi (Nat.not_lt_zero i)
theorem takeO_is {pages : Nat} {s : OP} (h : OInv pages s) (cls : Int) : TakeOIs pages s cls (takeO s cls) := by
  unfold takeO
  by_cases hc : 0 ≤ cls ∧ cls < 16
  · rw [if_pos hc]
    obtain ⟨c, hcc⟩ : ∃ c : Nat, cls = c := ⟨cls.toNat, by omega⟩
    have hc2 : c < 16 := by omega
    rw [show cls.toNat = c by omega]
    cases hb : nextO s c with
    | some x =>
      obtain ⟨h1, h2, h3, h4, -⟩ := h.next_some hc2 hb
      obtain ⟨f1, f2, f3⟩ := firstC_is h4
      exact .old x _ c hcc hc2 hb h1 h2 h3 f1 f2 f3
    | none =>
      cases hp : placeR 4 4 s.l with
      | none => exact .full c hcc hc2 hb hp
      | some k =>
        obtain ⟨hk, -⟩ := placeR_spec hp
        have hr := List.getElem?_eq_getElem hk
        obtain ⟨ht, hfit⟩ := placeR_freeO hp hr
        have hbd := h.tile.bounds _ (List.getElem_mem hk)
        obtain ⟨-, o2, -⟩ := h.open (y := ⟨(s.l[k]).first 4, c, 0, false⟩) hp hr rfl
        have hsl : 0 < slA c := by have := (szA_all c hc2).2.2.2.1; omega
        simp only [hr]
        unfold takeFromO
        have e0 : firstC (⟨(s.l[k]).first 4, c, 0, false⟩ : PO).x (slA (⟨(s.l[k]).first 4, c, 0, false⟩ : PO).cls) = 0 := firstC_zero hsl
        rw [e0]
        have e1 : (⟨(s.l[k]).first 4, c, 0, false⟩ : PO).addr 0 = 256 * (s.l[k]).first 4 := by
          show 256 * (s.l[k]).first 4 + 0 * szA c = _
          omega
        rw [e1, updO_ins (y := ⟨(s.l[k]).first 4, c, 0, false⟩) (z := (⟨(s.l[k]).first 4, c, 0, false⟩ : PO).set 0) rfl o2]
        exact .new c hcc hc2 hb k _ hp hr (Run.first_mod _ _) (by omega) o2
  · rw [if_neg hc]
    exact .range hc
theorem fresh_okO {pages f c : Nat} (h1 : f % 4 = 0) (h2 : f + 4 ≤ pages) (h3 : c < 16) : (⟨f, c, 0, false⟩ : PO).Ok pages :=
  ⟨h1, h2, h3, Nat.two_pow_pos _, fun e => by cases e⟩
theorem num_of {x : PO} (h : x.sealed = false) : x.num = 4 * x.cls + ofO x.O := by unfold PO.num PO.kind; rw [h]; rfl
theorem set_of {pages : Nat} {x : PO} (h : x.Ok pages) {k : Nat} (hk : k < slA x.cls) : ofO (x.set k).O ≠ 2 := by
  rw [Ne, of_two, state_zero]
  intro hh
  have := hh k hk
  rw [show (x.set k).O.x = setW x.x k from rfl, setW_bit] at this
  simp at this
theorem OInv.take {pages : Nat} {s : OP} (h : OInv pages s) {x : PO} (hx : x ∈ s.A) (hs : x.sealed = false) {j : Nat} (hj : j < slA x.cls) :
    MoveR s.R (settleR s.R (x.set j)) x.item (x.set j).num ∧ OInv pages ⟨s.l, updO s.A (x.set j), settleR s.R (x.set j)⟩ := by
  have hm := settle_move h.nodup (x.set j) (h.each x hx).cls (k := x.num) fun m hm hi => (h.place hx hm).1 hi
  have hn : (x.set j).num = 4 * (x.set j).cls + ofO (x.set j).O := num_of hs
  rw [← hn] at hm
  exact ⟨hm, h.turn (y := x.set j) hx rfl ((h.each x hx).set hj) hm⟩
theorem OInv.fresh {pages : Nat} {s : OP} (h : OInv pages s) {c k : Nat} {r : Run} (hc : c < 16) (hp : placeR 4 4 s.l = some k) (hr : s.l[k]? = some r) (hf : r.first 4 % 4 = 0) (hfit : r.first 4 + 4 ≤ pages) :
    MoveR s.R (settleR s.R ((⟨r.first 4, c, 0, false⟩ : PO).set 0)) (r.first 4 / 4) ((⟨r.first 4, c, 0, false⟩ : PO).set 0).num ∧ OInv pages ⟨takeR s.l k r 4 4, insO ((⟨r.first 4, c, 0, false⟩ : PO).set 0) s.A, settleR s.R ((⟨r.first 4, c, 0, false⟩ : PO).set 0)⟩ := by
  have hsl : 0 < slA c := by have := (szA_all c hc).2.2.2.1; omega
  have hok := (fresh_okO hf hfit hc).set (k := 0) hsl
  obtain ⟨o1, o2, o3⟩ := h.open (y := (⟨r.first 4, c, 0, false⟩ : PO).set 0) hp hr rfl
  have hm := settle_move h.nodup ((⟨r.first 4, c, 0, false⟩ : PO).set 0) hc (k := 0) fun m hm hi => by
    exfalso
    refine h.absent (i := r.first 4 / 4) (fun z hz e => o2 z hz ?_) hm hi
    rw [e]
    show 4 * (r.first 4 / 4) = r.first 4
    omega
  have hn : ((⟨r.first 4, c, 0, false⟩ : PO).set 0).num = 4 * ((⟨r.first 4, c, 0, false⟩ : PO).set 0).cls + ofO ((⟨r.first 4, c, 0, false⟩ : PO).set 0).O := num_of rfl
  rw [← hn] at hm
  exact ⟨hm, h.ins hok o2 o1 o3 hm⟩
theorem one_move {R R' : Nat → List Nat} {i k : Nat} (hm : MoveR R R' i k) (hn : ∀ m, m < 64 → (R m).Nodup) {c : Nat} (hc : c < 16) (hk : k ≠ 4 * c + 2) (h1 : (R (4 * c + 2)).length ≤ 1) : (R' (4 * c + 2)).length ≤ 1 := by
  have hlt : 4 * c + 2 < 64 := by omega
  refine Nat.le_trans (sub_len (hm.nodup _ hlt) fun q hq => ?_) h1
  by_cases e : q = i
  · subst e
    exact absurd ((hm.here _ hlt).1 hq).symm hk
  · exact (hm.other _ hlt q e).1 hq
theorem take_goodO {pages : Nat} {s : OP} (h : OGood pages s) (cls : Int) : OGood pages (takeO s cls).2 := by
  have hi := takeO_is h.inv cls
  revert hi
  generalize takeO s cls = q
  intro hi
  cases hi with
  | range hh => exact h
  | full => exact h
  | old x j c hc hc2 hn hx hxc hxs hj hjb hjt =>
    obtain ⟨hm, hI⟩ := h.inv.take hx hxs hj
    refine ⟨hI, fun d hd => one_move hm h.inv.nodup hd (fun e => ?_) (h.one d hd)⟩
    have h2 := set_of (h.inv.each x hx) hj
    have hl := of_le (x.set j).O
    rw [num_of (x := x.set j) hxs] at e
    omega
  | new c hc hc2 hn k r hp hr hf hfit hne =>
    obtain ⟨hm, hI⟩ := h.inv.fresh hc2 hp hr hf hfit
    refine ⟨hI, fun d hd => one_move hm h.inv.nodup hd (fun e => ?_) (h.one d hd)⟩
    have hsl : 0 < slA c := by have := (szA_all c hc2).2.2.2.1; omega
    have h2 := set_of (fresh_okO hf hfit hc2) (k := 0) hsl
    have hl := of_le ((⟨r.first 4, c, 0, false⟩ : PO).set 0).O
    rw [num_of (x := (⟨r.first 4, c, 0, false⟩ : PO).set 0) rfl] at e
    omega
def SubO (A A' : List PO) : Prop := ∀ x ∈ A, ∃ y ∈ A', y.page = x.page ∧ y.cls = x.cls
theorem SubO.refl (A : List PO) : SubO A A := fun x hx => ⟨x, hx, rfl, rfl⟩
theorem SubO.trans {A B C : List PO} (h : SubO A B) (k : SubO B C) : SubO A C := fun x hx => by
  obtain ⟨y, hy, h1, h2⟩ := h x hx
  obtain ⟨z, hz, h3, h4⟩ := k y hy
  exact ⟨z, hz, h3.trans h1, h4.trans h2⟩
theorem SubO.upd {A : List PO} {x y : PO} (hx : x ∈ A) (hp : y.page = x.page) (hc : y.cls = x.cls) (hu : ∀ z ∈ A, z.page = x.page → z = x) : SubO A (updO A y) := fun z hz => by
  by_cases e : z.page = y.page
  · have := hu z hz (e.trans hp)
    subst this
    exact ⟨y, (updO_mem ⟨z, hz, e⟩).2 (.inl rfl), hp, hc⟩
  · exact ⟨z, (updO_mem ⟨x, hx, hp.symm⟩).2 (.inr ⟨hz, e⟩), rfl, rfl⟩
theorem SubO.ins {A : List PO} (y : PO) : SubO A (insO y A) := fun z hz => ⟨z, insO_mem.2 (.inr hz), rfl, rfl⟩
/-- A slot of a slab of a class begins there. -/
def AtO (A : List PO) (cls : Int) (a : Int) : Prop := ∃ x ∈ A, (x.cls : Int) = cls ∧ ∃ k, k < slA x.cls ∧ a = (x.addr k : Nat)
theorem AtO.sub {A A' : List PO} {cls a : Int} (h : AtO A cls a) (hs : SubO A A') : AtO A' cls a := by
  obtain ⟨x, hx, h1, k, h2, rfl⟩ := h
  obtain ⟨y, hy, h3, h4⟩ := hs x hx
  exact ⟨y, hy, by rw [h4]; exact h1, k, by rw [h4]; exact h2, by unfold PO.addr; rw [h3, h4]⟩
theorem take_yesO {pages : Nat} {s : OP} (h : OInv pages s) {cls : Int} (he : (takeO s cls).1.2 = 0) :
    ¬ TknO s.A (takeO s cls).1.1 ∧ (∀ b, TknO (takeO s cls).2.A b ↔ TknO s.A b ∨ b = (takeO s cls).1.1) ∧ AtO (takeO s cls).2.A cls (takeO s cls).1.1 ∧ SubO s.A (takeO s cls).2.A ∧ 0 ≤ cls ∧ cls < 16 := by
  have hi := takeO_is h cls
  revert he hi
  generalize takeO s cls = q
  intro he hi
  cases hi with
  | range hh => cases he
  | full => cases he
  | old x j c hc hc2 hn hx hxc hxs hj hjb hjt =>
    refine ⟨fun ht => ?_, fun b => tkn_set h hx hj b, ?_, SubO.upd hx rfl rfl (fun z hz e => h.same hz hx e), by omega, by omega⟩
    · have := (h.tkn_iff hx hj).1 ht
      rw [hjb] at this
      cases this
    · exact ⟨x.set j, (updO_mem (x := x.set j) ⟨x, hx, rfl⟩).2 (.inl rfl), by show (x.cls : Int) = cls; omega, j, hj, rfl⟩
  | new c hc hc2 hn k r hp hr hf hfit hne =>
    have hsl : 0 < slA c := by have := (szA_all c hc2).2.2.2.1; omega
    obtain ⟨-, hI⟩ := h.fresh hc2 hp hr hf hfit
    have ha : (256 * r.first 4 : Nat) = ((⟨r.first 4, c, 0, false⟩ : PO).set 0).addr 0 := by
      show _ = 256 * r.first 4 + 0 * szA c
      omega
    have hmem : ∀ k, k < slA c → ((setW 0 0).testBit k = true ↔ k = 0) := by
      intro k hk
      rw [setW_bit, Nat.zero_testBit, Bool.false_or, decide_eq_true_iff]
      exact eq_comm
    refine ⟨?_, fun b => ?_, ?_, SubO.ins _, by omega, by omega⟩
    · rintro ⟨z, hz, j, hj, hj2, e⟩
      have e2 : ((256 * r.first 4 : Nat) : Int) = (z.addr j : Nat) := e
      have e' : 256 * r.first 4 = z.addr j := by omega
      rw [ha] at e'
      have hY : ∀ (Y : PO), z ∈ insO Y s.A ∧ Y ∈ insO Y s.A := fun Y => ⟨insO_mem.2 (.inr hz), insO_mem.2 (.inl rfl)⟩
      have := (hI.tkn_uniq (hY _).2 (hY _).1 (by show 0 < slA c; omega) hj e').1
      exact hne z hz (by rw [← this]; rfl)
    · show TknO (insO _ _) b ↔ _
      rw [tkn_insO]
      constructor
      · rintro (hh | ⟨k, k1, k2, rfl⟩)
        · exact .inl hh
        · have := (hmem k k1).1 k2
          subst this
          exact .inr (by rw [ha])
      · rintro (hh | rfl)
        · exact .inl hh
        · exact .inr ⟨0, by show 0 < slA c; omega, (hmem 0 (by omega)).2 rfl, by rw [ha]⟩
    · exact ⟨_, insO_mem.2 (.inl rfl), by show (c : Int) = cls; omega, 0, by show 0 < slA c; omega, by rw [ha]⟩
theorem take_noO {pages : Nat} {s : OP} (h : OInv pages s) {cls : Int} (he : (takeO s cls).1.2 ≠ 0) : (takeO s cls).2 = s := by
  have hi := takeO_is h cls
  revert he hi
  generalize takeO s cls = q
  intro he hi
  cases hi with
  | range hh => rfl
  | full => rfl
  | old x j c hc hc2 hn hx hxc hxs hj hjb hjt => exact absurd rfl he
  | new c hc hc2 hn k r hp hr hf hfit hne => exact absurd rfl he
theorem take_invO {pages : Nat} {s : OP} (h : OInv pages s) (cls : Int) : OInv pages (takeO s cls).2 := by
  have hi := takeO_is h cls
  revert hi
  generalize takeO s cls = q
  intro hi
  cases hi with
  | range hh => exact h
  | full => exact h
  | old x j c hc hc2 hn hx hxc hxs hj hjb hjt => exact (h.take hx hxs hj).2
  | new c hc hc2 hn k r hp hr hf hfit hne => exact (h.fresh hc2 hp hr hf hfit).2

/-- Some, from where out is told. -/
theorem some_goodO {pages : Nat} : ∀ (n : Nat) (s : OP) (cls : Int) (out : List Int), OGood pages s → OGood pages (someLO n s cls out).2
  | 0, s, _, _, h => h
  | n + 1, s, cls, out, h => by
    unfold someLO
    split
    · exact some_goodO n _ cls _ (take_goodO h cls)
    · split
      · exact take_goodO h cls
      · exact take_goodO h cls
theorem some_invO {pages : Nat} : ∀ (n : Nat) (s : OP) (cls : Int) (out : List Int), OInv pages s → OInv pages (someLO n s cls out).2
  | 0, s, _, _, h => h
  | n + 1, s, cls, out, h => by
    unfold someLO
    split
    · exact some_invO n _ cls _ (take_invO h cls)
    · split
      · exact take_invO h cls
      · exact take_invO h cls
structure SomeOIs (s : OP) (cls : Int) (out : List Int) (q : (List Int × Int) × OP) : Prop where
  yes : q.1.2 = 0 → ∃ new, q.1.1 = out ++ new ∧ new.Nodup ∧ (∀ a ∈ new, ¬ TknO s.A a ∧ AtO q.2.A cls a) ∧ (∀ b, TknO q.2.A b ↔ TknO s.A b ∨ b ∈ new) ∧ SubO s.A q.2.A ∧ (new ≠ [] → 0 ≤ cls ∧ cls < 16)
  no : q.1.2 ≠ 0 → out = [] ∧ q.1.1 = [] ∧ q.2 = s
theorem some_isO {pages : Nat} : ∀ (n : Nat) (s : OP) (cls : Int) (out : List Int), OInv pages s → SomeOIs s cls out (someLO n s cls out)
  | 0, s, _, out, h => ⟨fun _ => ⟨[], by simp [someLO], List.nodup_nil, by simp, by simp [someLO], SubO.refl _, fun h => absurd rfl h⟩, fun hh => absurd rfl hh⟩
  | n + 1, s, cls, out, h => by
    unfold someLO
    by_cases he : (takeO s cls).1.2 = 0
    · rw [if_pos he]
      obtain ⟨t1, t2, t3, t4, t5⟩ := take_yesO h he
      have ih := some_isO n (takeO s cls).2 cls (out ++ [(takeO s cls).1.1]) (take_invO h cls)
      refine ⟨fun hq => ?_, fun hq => ?_⟩
      · obtain ⟨new, e1, e2, e3, e4, e5, e6⟩ := ih.yes hq
        refine ⟨(takeO s cls).1.1 :: new, by rw [e1]; simp, List.nodup_cons.2 ⟨fun hm => (e3 _ hm).1 ((t2 _).2 (.inr rfl)), e2⟩, ?_, fun b => ?_, t4.trans e5, fun _ => t5⟩
        · intro a ha
          rcases List.mem_cons.1 ha with rfl | ha
          · exact ⟨t1, t3.sub e5⟩
          · exact ⟨fun hh => (e3 a ha).1 ((t2 _).2 (.inl hh)), (e3 a ha).2⟩
        · rw [e4, t2, List.mem_cons, or_assoc]
      · have := (ih.no hq).1
        simp at this
    · rw [if_neg he]
      have h1 := take_noO h he
      by_cases ho : out = []
      · rw [if_pos ho]
        exact ⟨fun hq => absurd hq he, fun _ => ⟨ho, rfl, h1⟩⟩
      · rw [if_neg ho]
        refine ⟨fun _ => ⟨[], by simp, List.nodup_nil, by simp, fun b => by show TknO (takeO s cls).2.A b ↔ _; rw [h1]; simp, by show SubO s.A (takeO s cls).2.A; rw [h1]; exact SubO.refl _, fun h => absurd rfl h⟩, fun hq => absurd rfl hq⟩

end Go.Proofs.YtlljejmblmjjnaaGreatDoor

/- The old heap, plain: Give, Seal, Unseal. -/
namespace Go.Proofs.YtlljejmblmjjnaaGreatDoor
set_option linter.unusedVariables false
set_option linter.unusedSimpArgs false

theorem PO.Ok.clr {pages : Nat} {x : PO} (h : x.Ok pages) {k : Nat} (hs : x.sealed = true → (x.clr k).empty = false) : (x.clr k).Ok pages :=
  ⟨h.al, h.fits, h.cls, clrW_lt k h.top, hs⟩
/-- Give, told by cases. -/
inductive GiveOIs (s : OP) (at_ : Int) : Int × OP → Prop
  | none (h : nearO s.A at_ = none) : GiveOIs s at_ (12, s)
  | slot (x : PO) (h : nearO s.A at_ = some x) (hs : slotO x.O at_ = none) : GiveOIs s at_ (12, s)
  | twice (x : PO) (k : Nat) (h : nearO s.A at_ = some x) (hs : slotO x.O at_ = some k) (hk : x.x.testBit k = false) : GiveOIs s at_ (19, s)
  | close (x : PO) (k : Nat) (h : nearO s.A at_ = some x) (hs : slotO x.O at_ = some k) (hk : x.x.testBit k = true) (he : (x.clr k).empty = true) (hc : (x.sealed || decide (0 < (s.R (4 * x.cls + 2)).length)) = true) : GiveOIs s at_ (0, closeO s x)
  | shut (x : PO) (k : Nat) (h : nearO s.A at_ = some x) (hs : slotO x.O at_ = some k) (hk : x.x.testBit k = true) (he : (x.clr k).empty = false) (hd : x.sealed = true) : GiveOIs s at_ (0, ⟨s.l, updO s.A (x.clr k), s.R⟩)
  | stay (x : PO) (k : Nat) (h : nearO s.A at_ = some x) (hs : slotO x.O at_ = some k) (hk : x.x.testBit k = true) (hd : x.sealed = false) (hc : (x.clr k).empty = true → s.R (4 * x.cls + 2) = []) : GiveOIs s at_ (0, ⟨s.l, updO s.A (x.clr k), settleR s.R (x.clr k)⟩)
theorem giveO_is (s : OP) (at_ : Int) : GiveOIs s at_ (giveO s at_) := by
  unfold giveO
  cases hn : nearO s.A at_ with
  | none => exact .none hn
  | some x =>
    cases hs : slotO x.O at_ with
    | none => simp only [hs]; exact .slot x hn hs
    | some k =>
      simp only [hs]
      cases hk : x.x.testBit k with
      | false => rw [if_pos rfl]; exact .twice x k hn hs hk
      | true =>
        rw [if_neg (by simp)]
        cases hc : ((x.clr k).empty && (x.sealed || decide (0 < (s.R (4 * x.cls + 2)).length))) with
        | true =>
          rw [if_pos rfl]
          rw [Bool.and_eq_true] at hc
          exact .close x k hn hs hk hc.1 hc.2
        | false =>
          rw [if_neg (by simp)]
          cases hd : x.sealed with
          | true =>
            rw [if_pos rfl]
            refine .shut x k hn hs hk ?_ hd
            rw [hd] at hc
            simpa using hc
          | false =>
            rw [if_neg (by simp)]
            refine .stay x k hn hs hk hd fun he => ?_
            rw [hd, he] at hc
            simp at hc
            exact hc
theorem stay_move {pages : Nat} {s : OP} (h : OInv pages s) {x y : PO} (hx : x ∈ s.A) (hn : y.num = x.num) : MoveR s.R s.R x.item y.num :=
  ⟨fun m hm => by rw [hn]; exact h.place hx hm, fun _ _ _ _ => Iff.rfl, h.nodup⟩
theorem num_sealed {x : PO} (h : x.sealed = true) : x.num = 4 * x.cls + 3 := by unfold PO.num; rw [PO.kind_three.2 h]
theorem give_slot {pages : Nat} {s : OP} (h : OInv pages s) {at_ : Int} {x : PO} {k : Nat} (h1 : nearO s.A at_ = some x) (h2 : slotO x.O at_ = some k) : x ∈ s.A ∧ k < slA x.cls ∧ at_ = (x.addr k : Nat) := by
  have hx := (nearO_mem h1).1
  obtain ⟨a1, a2⟩ := slotO_some (S := x.O) (h.each x hx).cls h2
  exact ⟨hx, a2, a1⟩
theorem OInv.giveStay {pages : Nat} {s : OP} (h : OInv pages s) {x : PO} (hx : x ∈ s.A) (hd : x.sealed = false) (k : Nat) :
    MoveR s.R (settleR s.R (x.clr k)) x.item (x.clr k).num ∧ OInv pages ⟨s.l, updO s.A (x.clr k), settleR s.R (x.clr k)⟩ := by
  have hm := settle_move h.nodup (x.clr k) (h.each x hx).cls (k := x.num) fun m hm hi => (h.place hx hm).1 hi
  have hn : (x.clr k).num = 4 * (x.clr k).cls + ofO (x.clr k).O := num_of hd
  rw [← hn] at hm
  exact ⟨hm, h.turn (y := x.clr k) hx rfl ((h.each x hx).clr fun e => by rw [hd] at e; cases e) hm⟩
theorem OInv.giveShut {pages : Nat} {s : OP} (h : OInv pages s) {x : PO} (hx : x ∈ s.A) (hd : x.sealed = true) {k : Nat} (he : (x.clr k).empty = false) : OInv pages ⟨s.l, updO s.A (x.clr k), s.R⟩ := by
  have hnn : (x.clr k).num = x.num := by rw [num_sealed hd, num_sealed (x := x.clr k) hd]; rfl
  exact h.turn (y := x.clr k) hx rfl ((h.each x hx).clr fun _ => he) (stay_move (y := x.clr k) h hx hnn)
theorem one_sub {R R' : Nat → List Nat} (hn : ∀ m, m < 64 → (R' m).Nodup) {c : Nat} (hc : c < 16) (hs : ∀ q ∈ R' (4 * c + 2), q ∈ R (4 * c + 2)) (h1 : (R (4 * c + 2)).length ≤ 1) : (R' (4 * c + 2)).length ≤ 1 :=
  Nat.le_trans (sub_len (hn _ (by omega)) hs) h1
theorem give_goodO {pages : Nat} {s : OP} (h : OGood pages s) (at_ : Int) : OGood pages (giveO s at_).2 := by
  have hi := giveO_is s at_
  revert hi
  generalize giveO s at_ = q
  intro hi
  cases hi with
  | none => exact h
  | slot => exact h
  | twice => exact h
  | close x k hn hs hk he hc =>
    have hx := (nearO_mem hn).1
    exact ⟨h.inv.close hx, fun d hd => one_sub (h.inv.close hx).nodup hd (fun q hq => ((delR_mem h.inv.nodup (by omega)).1 hq).2) (h.one d hd)⟩
  | shut x k hn hs hk he hd => exact ⟨h.inv.giveShut (nearO_mem hn).1 hd he, h.one⟩
  | stay x k hn hs hk hd hc =>
    have hx := (nearO_mem hn).1
    obtain ⟨hm, hI⟩ := h.inv.giveStay hx hd k
    refine ⟨hI, fun d hdd => ?_⟩
    by_cases e : (x.clr k).num = 4 * d + 2
    · have hl := of_le (x.clr k).O
      have e2 := e
      rw [num_of (x := x.clr k) hd] at e2
      have hcd : (x.clr k).cls = d := by omega
      have hcd' : x.cls = d := hcd
      have hem : (x.clr k).empty = true := by
        unfold PO.empty
        rw [decide_eq_true_iff, ← of_two]
        omega
      have hnil := hc hem
      rw [hcd'] at hnil
      refine Nat.le_trans (sub_len (m := [x.item]) (hm.nodup _ (by omega)) fun q hq => ?_) (Nat.le_refl 1)
      by_cases eq : q = x.item
      · rw [eq]; exact List.mem_cons_self
      · have := (hm.other _ (by omega) q eq).1 hq
        rw [hnil] at this
        cases this
    · exact one_move hm h.inv.nodup hdd e (h.one d hdd)
theorem give_invO {pages : Nat} {s : OP} (h : OInv pages s) (at_ : Int) : OInv pages (giveO s at_).2 := by
  have hi := giveO_is s at_
  revert hi
  generalize giveO s at_ = q
  intro hi
  cases hi with
  | none => exact h
  | slot => exact h
  | twice => exact h
  | close x k hn hs hk he hc => exact h.close (nearO_mem hn).1
  | shut x k hn hs hk he hd => exact h.giveShut (nearO_mem hn).1 hd he
  | stay x k hn hs hk hd hc => exact (h.giveStay (nearO_mem hn).1 hd k).2
theorem clr_empty {pages : Nat} {x : PO} (h : x.Ok pages) {k : Nat} (hk : k < slA x.cls) (he : (x.clr k).empty = true) : ∀ j, j < slA x.cls → x.x.testBit j = true → j = k := by
  intro j hj hb
  have hk64 : k < 64 := Nat.lt_of_lt_of_le hk (szA_all _ h.cls).2.2.2.2.1
  have := PO.empty_iff.1 he j hj
  rw [show (x.clr k).x = clrW x.x k from rfl, clrW_bit _ _ _ hk64 h.bits, hb, Bool.true_and, Bool.not_eq_false', decide_eq_true_iff] at this
  exact this.symm
theorem give_tknO {pages : Nat} {s : OP} (h : OInv pages s) (at_ : Int) : ((giveO s at_).1 = 0 ↔ TknO s.A at_) ∧ (∀ b, TknO (giveO s at_).2.A b ↔ TknO s.A b ∧ ((giveO s at_).1 = 0 → b ≠ at_)) := by
  have hgi := giveO_is s at_
  revert hgi
  generalize giveO s at_ = q
  intro hgi
  have hof : ∀ {x : PO} {k : Nat}, x ∈ s.A → k < slA x.cls → at_ = (x.addr k : Nat) → nearO s.A at_ = some x ∧ slotO x.O at_ = some k := by
    intro x k hx hk e
    have hok := h.each x hx
    have a1 := hok.addr_in hk
    have a2 := (szA_all _ hok.cls).1
    exact ⟨h.near hx (by omega) (by omega), by rw [e]; exact slotO_addr hok hk⟩
  cases hgi with
  | none hn =>
    have : ¬ TknO s.A at_ := by
      rintro ⟨x, hx, k, h1, h2, e⟩
      rw [(hof hx h1 e).1] at hn
      cases hn
    exact ⟨⟨fun e => (by cases e), fun e => absurd e this⟩, fun b => ⟨fun hb => ⟨hb, fun e => (by cases e)⟩, fun hb => hb.1⟩⟩
  | slot x hn hs =>
    have : ¬ TknO s.A at_ := by
      rintro ⟨z, hz, k, h1, h2, e⟩
      obtain ⟨e1, e2⟩ := hof hz h1 e
      rw [e1] at hn
      cases hn
      rw [hs] at e2
      cases e2
    exact ⟨⟨fun e => (by cases e), fun e => absurd e this⟩, fun b => ⟨fun hb => ⟨hb, fun e => (by cases e)⟩, fun hb => hb.1⟩⟩
  | twice x k hn hs hk =>
    obtain ⟨hx, h1, e⟩ := give_slot h hn hs
    have : ¬ TknO s.A at_ := by rw [e, h.tkn_iff hx h1, hk]; exact Bool.false_ne_true
    exact ⟨⟨fun e => (by cases e), fun e => absurd e this⟩, fun b => ⟨fun hb => ⟨hb, fun e => (by cases e)⟩, fun hb => hb.1⟩⟩
  | close x k hn hs hk he hc =>
    obtain ⟨hx, h1, e⟩ := give_slot h hn hs
    have ht : TknO s.A at_ := by rw [e, h.tkn_iff hx h1]; exact hk
    refine ⟨⟨fun _ => ht, fun _ => rfl⟩, fun b => ?_⟩
    show TknO (delO s.A x.page) b ↔ _
    rw [tkn_delO h hx, tkn_splitO h hx]
    constructor
    · rintro ⟨z, b1, b2, j, c1, c2, rfl⟩
      exact ⟨.inr ⟨z, b1, b2, j, c1, c2, rfl⟩, fun _ e2 => b2 (h.tkn_uniq b1 hx c1 h1 (by rw [e] at e2; exact_mod_cast e2)).1⟩
    · rintro ⟨⟨j, c1, c2, rfl⟩ | hh, h3⟩
      · exfalso
        have := clr_empty (h.each x hx) h1 he j c1 c2
        subst this
        exact h3 rfl e.symm
      · exact hh
  | shut x k hn hs hk he hd =>
    obtain ⟨hx, h1, e⟩ := give_slot h hn hs
    have ht : TknO s.A at_ := by rw [e, h.tkn_iff hx h1]; exact hk
    refine ⟨⟨fun _ => ht, fun _ => rfl⟩, fun b => ?_⟩
    rw [tkn_clr h hx h1, ← e]
    exact ⟨fun hh => ⟨hh.1, fun _ => hh.2⟩, fun hh => ⟨hh.1, hh.2 rfl⟩⟩
  | stay x k hn hs hk hd hc =>
    obtain ⟨hx, h1, e⟩ := give_slot h hn hs
    have ht : TknO s.A at_ := by rw [e, h.tkn_iff hx h1]; exact hk
    refine ⟨⟨fun _ => ht, fun _ => rfl⟩, fun b => ?_⟩
    rw [tkn_clr h hx h1, ← e]
    exact ⟨fun hh => ⟨hh.1, fun _ => hh.2⟩, fun hh => ⟨hh.1, hh.2 rfl⟩⟩

/-- Seal, Unseal. -/
inductive SealOIs (s : OP) (p : Int) : Int × OP → Prop
  | none (h : getO s.A p = none) : SealOIs s p (16, s)
  | state (x : PO) (h : getO s.A p = some x) (hs : x.sealed = true) : SealOIs s p (20, s)
  | close (x : PO) (h : getO s.A p = some x) (hs : x.sealed = false) (he : x.empty = true) : SealOIs s p (0, closeO s x)
  | mark (x : PO) (h : getO s.A p = some x) (hs : x.sealed = false) (he : x.empty = false) : SealOIs s p (0, ⟨s.l, updO s.A { x with sealed := true }, frontR s.R x.item (4 * x.cls + 3)⟩)
theorem sealO_is (s : OP) (p : Int) : SealOIs s p (sealO s p) := by
  unfold sealO
  cases hn : getO s.A p with
  | none => exact .none hn
  | some x =>
    simp only
    cases hs : x.sealed with
    | true => rw [if_pos rfl]; exact .state x hn hs
    | false =>
      rw [if_neg (by simp)]
      cases he : x.empty with
      | true => rw [if_pos rfl]; exact .close x hn hs he
      | false => rw [if_neg (by simp)]; exact .mark x hn hs he
inductive UnsealOIs (s : OP) (p : Int) : Int × OP → Prop
  | none (h : getO s.A p = none) : UnsealOIs s p (16, s)
  | state (x : PO) (h : getO s.A p = some x) (hs : x.sealed = false) : UnsealOIs s p (20, s)
  | mark (x : PO) (h : getO s.A p = some x) (hs : x.sealed = true) : UnsealOIs s p (0, ⟨s.l, updO s.A { x with sealed := false }, frontR s.R x.item (4 * x.cls + ofO x.O)⟩)
theorem unsealO_is (s : OP) (p : Int) : UnsealOIs s p (unsealO s p) := by
  unfold unsealO
  cases hn : getO s.A p with
  | none => exact .none hn
  | some x =>
    simp only
    cases hs : x.sealed with
    | true => rw [if_pos rfl]; exact .mark x hn hs
    | false => rw [if_neg (by simp)]; exact .state x hn hs
theorem tkn_markO {pages : Nat} {s : OP} (h : OInv pages s) {x : PO} (hx : x ∈ s.A) (b : Bool) (a : Int) : TknO (updO s.A { x with sealed := b }) a ↔ TknO s.A a := by
  rw [tkn_updO (y := { x with sealed := b }) h hx rfl rfl, tkn_splitO h hx]
theorem OInv.shutK {pages : Nat} {s : OP} (h : OInv pages s) {x : PO} (hx : x ∈ s.A) (he : x.empty = false) :
    MoveR s.R (frontR s.R x.item (4 * x.cls + 3)) x.item (4 * x.cls + 3) ∧ OInv pages ⟨s.l, updO s.A { x with sealed := true }, frontR s.R x.item (4 * x.cls + 3)⟩ := by
  have hok := h.each x hx
  have hm := front_move h.nodup x.item (4 * x.cls + 3)
  refine ⟨hm, h.turn (y := { x with sealed := true }) hx rfl ⟨hok.al, hok.fits, hok.cls, hok.top, fun _ => he⟩ ?_⟩
  rw [num_sealed (x := { x with sealed := true }) rfl]
  exact hm
theorem OInv.openK {pages : Nat} {s : OP} (h : OInv pages s) {x : PO} (hx : x ∈ s.A) :
    MoveR s.R (frontR s.R x.item (4 * x.cls + ofO x.O)) x.item (4 * x.cls + ofO x.O) ∧ OInv pages ⟨s.l, updO s.A { x with sealed := false }, frontR s.R x.item (4 * x.cls + ofO x.O)⟩ := by
  have hok := h.each x hx
  have hm := front_move h.nodup x.item (4 * x.cls + ofO x.O)
  refine ⟨hm, h.turn (y := { x with sealed := false }) hx rfl ⟨hok.al, hok.fits, hok.cls, hok.top, fun e => by cases e⟩ ?_⟩
  rw [num_of (x := { x with sealed := false }) rfl]
  exact hm
theorem empty_none {pages : Nat} {s : OP} (h : OInv pages s) {x : PO} (hx : x ∈ s.A) (he : x.empty = true) (a : Int) : TknO (delO s.A x.page) a ↔ TknO s.A a := by
  rw [tkn_delO h hx, tkn_splitO h hx]
  exact ⟨fun hh => .inr hh, fun hh => hh.resolve_left (by rintro ⟨k, k1, k2, -⟩; rw [PO.empty_iff.1 he k k1] at k2; cases k2)⟩
theorem seal_invO {pages : Nat} {s : OP} (h : OInv pages s) (p : Int) : OInv pages (sealO s p).2 ∧ ∀ a, TknO (sealO s p).2.A a ↔ TknO s.A a := by
  have hi := sealO_is s p
  revert hi
  generalize sealO s p = q
  intro hi
  cases hi with
  | none => exact ⟨h, fun _ => Iff.rfl⟩
  | state => exact ⟨h, fun _ => Iff.rfl⟩
  | close x hg hs he =>
    have hx := (getO_mem hg).1
    exact ⟨h.close hx, empty_none h hx he⟩
  | mark x hg hs he =>
    have hx := (getO_mem hg).1
    exact ⟨(h.shutK hx he).2, tkn_markO h hx true⟩
theorem seal_goodO {pages : Nat} {s : OP} (h : OGood pages s) (p : Int) : OGood pages (sealO s p).2 := by
  have hi := sealO_is s p
  revert hi
  generalize sealO s p = q
  intro hi
  cases hi with
  | none => exact h
  | state => exact h
  | close x hg hs he =>
    have hx := (getO_mem hg).1
    exact ⟨h.inv.close hx, fun d hd => one_sub (h.inv.close hx).nodup hd (fun q hq => ((delR_mem h.inv.nodup (by omega)).1 hq).2) (h.one d hd)⟩
  | mark x hg hs he =>
    obtain ⟨hm, hI⟩ := h.inv.shutK (getO_mem hg).1 he
    exact ⟨hI, fun d hd => one_move hm h.inv.nodup hd (by omega) (h.one d hd)⟩
theorem unseal_invO {pages : Nat} {s : OP} (h : OInv pages s) (p : Int) : OInv pages (unsealO s p).2 ∧ ∀ a, TknO (unsealO s p).2.A a ↔ TknO s.A a := by
  have hi := unsealO_is s p
  revert hi
  generalize unsealO s p = q
  intro hi
  cases hi with
  | none => exact ⟨h, fun _ => Iff.rfl⟩
  | state => exact ⟨h, fun _ => Iff.rfl⟩
  | mark x hg hs =>
    have hx := (getO_mem hg).1
    exact ⟨(h.openK hx).2, tkn_markO h hx false⟩
theorem unseal_goodO {pages : Nat} {s : OP} (h : OGood pages s) (p : Int) : OGood pages (unsealO s p).2 := by
  have hi := unsealO_is s p
  revert hi
  generalize unsealO s p = q
  intro hi
  cases hi with
  | none => exact h
  | state => exact h
  | mark x hg hs =>
    have hx := (getO_mem hg).1
    obtain ⟨hm, hI⟩ := h.inv.openK hx
    refine ⟨hI, fun d hd => one_move hm h.inv.nodup hd (fun e => ?_) (h.one d hd)⟩
    have hne := (h.inv.each x hx).opn hs
    have hl := of_le x.O
    have : ofO x.O = 2 := by omega
    rw [of_two] at this
    unfold PO.empty at hne
    rw [this] at hne
    cases hne

end Go.Proofs.YtlljejmblmjjnaaGreatDoor
