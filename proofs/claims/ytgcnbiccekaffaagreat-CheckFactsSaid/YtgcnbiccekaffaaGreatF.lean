/- The abstract allocator as plain functions: what is legal, what it changes, and that what is true of a model stays true. -/
import Derived.Test.YtgcnbiccekaffaaGreatE
namespace Go.Proofs.YtgcnbiccekaffaaGreat

structure OpA where
  k : Int
  a : Int
  b : Int
  at_ : Int
  fr : Int
  n : Int
  data : List Int
structure AnsA where
  err : Int
  at_ : Int
  n : Int
  count : Int
  data : List Int

def bareA (x : AnsA) (e : Int) : Bool := bareB x.err x.at_ x.n x.count e x.data.length
def onlyA (x : AnsA) (e a n c : Int) : Bool := onlyB x.err x.at_ x.n x.count e a n c && ((x.data.length : Int) == 0)
def findB (A : AM) (k : Int) : Option Blk := A.blocks.find? fun b => b.at_ == k
def sumB (A : AM) : Int := (A.blocks.map (·.size)).sum

inductive Chg where
  | keep
  | lay (b : Blk)
  | drop (k : Int)
  | upd (k : Int) (b : Blk)
  | move (k : Int) (b : Blk)

def insB (b : Blk) : List Blk → List Blk
  | [] => [b]
  | x :: l => if b.at_ < x.at_ then b :: x :: l else x :: insB b l
def dropB (k : Int) (l : List Blk) : List Blk := l.filter fun b => b.at_ != k
def updB (k : Int) (b : Blk) (l : List Blk) : List Blk := l.map fun x => if x.at_ = k then b else x

def applyC (A : AM) : Chg → AM
  | .keep => A
  | .lay b => { A with blocks := insB b A.blocks }
  | .drop k => { A with blocks := dropB k A.blocks }
  | .upd k b => { A with blocks := updB k b A.blocks }
  | .move k b => { A with blocks := insB b (dropB k A.blocks) }

def firstOf (k : Int) (n : Nat) : List (Option Int) := if (k == 1) = true then List.replicate n (some 0) else List.replicate n none

def placeA (A : AM) (x : AnsA) (size align : Int) : Bool := placeB A x.err x.at_ x.n x.count x.data.length size align

def freshA (A : AM) (o : OpA) (x : AnsA) : Chg × Bool :=
  if ((askedF o.k o.a o.b).2.2 != 0) = true then (.keep, bareA x (askedF o.k o.a o.b).2.2)
  else if bareA x 13 = true then (.keep, true)
  else (.lay ⟨x.at_, x.n.toNat, (askedF o.k o.a o.b).1, firstOf o.k x.n.toNat⟩, placeA A x (askedF o.k o.a o.b).1 (askedF o.k o.a o.b).2.1)

def grownC (cs : List (Option Int)) (n : Nat) : List (Option Int) := cs.take n ++ List.replicate (n - cs.length) none

def againA (A : AM) (b : Blk) (o : OpA) (x : AnsA) : Chg × Bool :=
  if ((ofF o.a).2 != 0) = true then (.keep, bareA x (ofF o.a).2)
  else if bareA x 13 = true then (.keep, true)
  else if (x.at_ == b.at_) = true then (.upd b.at_ { b with size := (ofF o.a).1 }, onlyA x 0 b.at_ b.n 0 && decide ((ofF o.a).1 ≤ b.n))
  else (.move b.at_ ⟨x.at_, x.n.toNat, (ofF o.a).1, grownC b.cells x.n.toNat⟩, placeA A x (ofF o.a).1 1)

def okByte : Option Int → Int → Bool
  | none, _ => true
  | some v, u => v == u
def readsB (cs : List (Option Int)) (from_ : Nat) (ds : List Int) : Bool := (List.range ds.length).all fun k => okByte (cs.getD (from_ + k) none) (ds.getD k 0)

def readA (b : Blk) (o : OpA) (x : AnsA) : Chg × Bool :=
  if withinB o.fr o.n b.n = false then (.keep, bareA x 11)
  else if (!(onlyB x.err x.at_ x.n x.count 0 0 0 0 && ((x.data.length : Int) == o.n))) = true then (.keep, false)
  else (.upd b.at_ { b with cells := learnL b.cells o.fr.toNat x.data }, readsB b.cells o.fr.toNat x.data)

def writeA (b : Blk) (o : OpA) (x : AnsA) : Chg × Bool :=
  if withinB o.fr o.data.length b.n = false then (.keep, bareA x 11)
  else (.upd b.at_ { b with cells := learnL b.cells o.fr.toNat o.data }, onlyA x 0 0 o.data.length 0)

def touchA (A : AM) (b : Blk) (o : OpA) (x : AnsA) : Chg × Bool :=
  if (o.k == 3) = true then againA A b o x
  else if (o.k == 4) = true then (.drop b.at_, bareA x 0)
  else if (o.k == 5) = true then (.keep, onlyA x 0 0 b.n 0)
  else if (o.k == 6) = true then readA b o x
  else writeA b o x

def legalA (A : AM) (o : OpA) (x : AnsA) : Chg × Bool :=
  if (o.k == 0) = true ∨ (o.k == 1) = true ∨ (o.k == 2) = true then freshA A o x
  else if (o.k == 8) = true then (.keep, onlyA x 0 0 (sumB A) A.blocks.length)
  else match findB A o.at_ with
    | none => (.keep, bareA x 12)
    | some b => touchA A b o x

def rightA (o : OpA) : Bool := rightB o.k o.data.length
def takeE (A : AM) (o : OpA) (x : AnsA) : Int := if rightA o = true then (if (legalA A o x).2 = true then 0 else 20) else 10
def takeA (A : AM) (o : OpA) (x : AnsA) : AM := if rightA o = true then (if (legalA A o x).2 = true then applyC A (legalA A o x).1 else A) else A

/-! ### what stays true -/
def BytesOk (l : List Int) : Prop := ∀ v ∈ l, 0 ≤ v ∧ v ≤ 255

theorem mem_insB {b x : Blk} : ∀ {l : List Blk}, x ∈ insB b l ↔ x = b ∨ x ∈ l
  | [] => by simp [insB]
  | y :: l => by
    unfold insB
    split
    · simp
    · simp [mem_insB (l := l)]
      constructor
      · rintro (h | h | h) <;> simp [h]
      · rintro (h | h | h) <;> simp [h]
theorem insB_perm (b : Blk) : ∀ l : List Blk, (b :: l).Perm (insB b l)
  | [] => List.Perm.refl _
  | x :: l => by
    unfold insB
    split
    · exact List.Perm.refl _
    · exact (List.Perm.swap _ _ _).trans ((insB_perm b l).cons x)

def Sorted (l : List Blk) : Prop := l.Pairwise fun x y => x.at_ + (x.n : Int) ≤ y.at_
theorem insB_sorted {b : Blk} (hb : 1 ≤ b.n) : ∀ {l : List Blk}, Sorted l → (∀ x ∈ l, 1 ≤ x.n ∧ meetB b.at_ b.n x = false) → Sorted (insB b l)
  | [], _, _ => by simp [insB, Sorted]
  | x :: l, hs, hm => by
    unfold insB Sorted at *
    rw [List.pairwise_cons] at hs
    have hx := hm x (by simp)
    have hx2 := hx.2
    simp [meetB] at hx2
    split
    · rename_i hlt
      rw [List.pairwise_cons]
      refine ⟨?_, List.pairwise_cons.2 hs⟩
      intro y hy
      rcases List.mem_cons.1 hy with rfl | hy
      · omega
      · have h1 := hs.1 y hy
        have := hx.1
        omega
    · rename_i hlt
      rw [List.pairwise_cons]
      refine ⟨?_, insB_sorted hb hs.2 (fun y hy => hm y (by simp [hy]))⟩
      intro y hy
      rcases mem_insB.1 hy with rfl | hy
      · omega
      · exact hs.1 y hy

theorem Inv.keys {A : AM} (h : Inv A) : (A.blocks.map (·.at_)).Nodup := by
  rw [List.Nodup, List.pairwise_map]
  refine h.sorted.imp_of_mem ?_
  intro x y hx hy hxy
  have := (h.lo x hx).2.1
  omega

theorem Inv.drop {A : AM} (h : Inv A) (k : Int) : Inv { A with blocks := dropB k A.blocks } where
  b0 := h.b0
  b1 := h.b1
  lo := fun b hb => h.lo b (List.mem_filter.1 hb).1
  sorted := h.sorted.sublist List.filter_sublist
  known := fun b hb => h.known b (List.mem_filter.1 hb).1

theorem Inv.lay {A : AM} (h : Inv A) {b : Blk} (hb : inB A.bytes b.at_ b.n) (hm : ∀ x ∈ A.blocks, meetB b.at_ b.n x = false) (h8 : b.at_ % 8 = 0) (hs : 0 ≤ b.size) (hs2 : b.size ≤ b.n)
    (hk : b.cells.length = b.n ∧ ∀ v, some v ∈ b.cells → 0 ≤ v ∧ v ≤ 255) : Inv { A with blocks := insB b A.blocks } where
  b0 := h.b0
  b1 := h.b1
  lo := fun x hx => by
    rcases mem_insB.1 hx with rfl | hx
    · unfold inB at hb
      exact ⟨hb.1, by omega, by show _ ≤ A.bytes; omega, h8, hs, hs2⟩
    · exact h.lo x hx
  sorted := insB_sorted (by unfold inB at hb; omega) h.sorted (fun x hx => ⟨(h.lo x hx).2.1, hm x hx⟩)
  known := fun x hx => by
    rcases mem_insB.1 hx with rfl | hx
    · exact hk
    · exact h.known x hx

theorem pairwise_or {α : Type} {R : α → α → Prop} : ∀ {l : List α}, l.Pairwise R → ∀ {x y : α}, x ∈ l → y ∈ l → x = y ∨ R x y ∨ R y x
  | [], _, _, _, hx, _ => by cases hx
  | a :: l, h, x, y, hx, hy => by
    rw [List.pairwise_cons] at h
    rcases List.mem_cons.1 hx with rfl | hx' <;> rcases List.mem_cons.1 hy with rfl | hy'
    · exact .inl rfl
    · exact .inr (.inl (h.1 y hy'))
    · exact .inr (.inr (h.1 x hx'))
    · exact pairwise_or h.2 hx' hy'

theorem Inv.same {A : AM} (h : Inv A) {x y : Blk} (hx : x ∈ A.blocks) (hy : y ∈ A.blocks) (e : x.at_ = y.at_) : x = y := by
  have h1 := (h.lo x hx).2.1
  have h2 := (h.lo y hy).2.1
  rcases pairwise_or h.sorted hx hy with h | h | h
  · exact h
  · omega
  · omega

theorem Inv.upd {A : AM} (h : Inv A) {b b' : Blk} (hb : b ∈ A.blocks) (h1 : b'.at_ = b.at_) (h2 : b'.n = b.n) (hs : 0 ≤ b'.size) (hs2 : b'.size ≤ b'.n)
    (hk : b'.cells.length = b'.n ∧ ∀ v, some v ∈ b'.cells → 0 ≤ v ∧ v ≤ 255) : Inv { A with blocks := updB b.at_ b' A.blocks } where
  b0 := h.b0
  b1 := h.b1
  lo := fun x hx => by
    obtain ⟨y, hy, rfl⟩ := List.mem_map.1 hx
    split
    · have := h.lo b hb
      exact ⟨by omega, by omega, by rw [h1, h2]; exact this.2.2.1, by rw [h1]; exact this.2.2.2.1, hs, hs2⟩
    · exact h.lo y hy
  sorted := by
    have key : ∀ x ∈ A.blocks, (if x.at_ = b.at_ then b' else x).at_ = x.at_ ∧ (if x.at_ = b.at_ then b' else x).n = x.n := by
      intro x hx
      split
      · rename_i e
        obtain rfl := h.same hx hb e
        exact ⟨h1, h2⟩
      · exact ⟨rfl, rfl⟩
    simp only [updB]
    rw [List.pairwise_map]
    refine h.sorted.imp_of_mem ?_
    intro x y hx hy hxy
    rw [(key x hx).1, (key x hx).2, (key y hy).1]
    exact hxy
  known := fun x hx => by
    obtain ⟨y, hy, rfl⟩ := List.mem_map.1 hx
    split
    · exact hk
    · exact h.known y hy

theorem findB_some {A : AM} {k : Int} {b : Blk} (h : findB A k = some b) : b ∈ A.blocks ∧ b.at_ = k := by
  have h1 := List.mem_of_find?_eq_some h
  have h2 := List.find?_some h
  simp at h2
  exact ⟨h1, h2⟩

theorem ofF_lo (a : Int) (h : 0 ≤ a) : 0 ≤ (ofF a).1 ∧ (ofF a).1 ≤ 1099511627776 := by
  unfold ofF; split <;> simp <;> omega
theorem alignF_lo (a : Int) (h : (alignF a).2 = 0) : 1 ≤ (alignF a).1 ∧ (alignF a).1 ≤ 4096 := by
  unfold alignF max1 at *
  (repeat' split at h) <;> (repeat' split) <;> simp_all <;> omega
theorem timesF_lo (a b : Int) : 0 ≤ (timesF a b).1 := by
  unfold timesF
  split
  · exact (ofF_lo _ (by omega)).1
  · exact Int.le_refl _
def askedG (k : Int) (q1 q2 q3 q4 : Int × Int) : Int × Int × Int :=
  if (k == 1) = true then (q1.1, 1, q1.2)
  else if (k == 2) = true then (if (q4.2 == 0) = true then (q2.1, q4.1, q2.2) else (0, q4.1, q4.2))
  else (q3.1, 1, q3.2)
theorem askedG_lo (k : Int) (q1 q2 q3 q4 : Int × Int) (t1 : 0 ≤ q1.1) (t2 : 0 ≤ q2.1) (t3 : 0 ≤ q3.1) (t4 : q4.2 = 0 → 1 ≤ q4.1 ∧ q4.1 ≤ 4096) (h : (askedG k q1 q2 q3 q4).2.2 = 0) :
    0 ≤ (askedG k q1 q2 q3 q4).1 ∧ 1 ≤ (askedG k q1 q2 q3 q4).2.1 ∧ (askedG k q1 q2 q3 q4).2.1 ≤ 4096 := by
  unfold askedG at *
  by_cases e1 : (k == 1) = true
  · rw [if_pos e1]; exact ⟨t1, Int.le_refl 1, show (1 : Int) ≤ 4096 by omega⟩
  · rw [if_neg e1] at h ⊢
    by_cases e2 : (k == 2) = true
    · rw [if_pos e2] at h ⊢
      by_cases e3 : (q4.2 == 0) = true
      · rw [if_pos e3] at h ⊢
        have t5 := t4 (by simpa using e3)
        exact ⟨t2, t5.1, t5.2⟩
      · rw [if_neg e3] at h
        exact absurd (by simpa using h) e3
    · rw [if_neg e2] at h ⊢
      exact ⟨t3, Int.le_refl 1, show (1 : Int) ≤ 4096 by omega⟩
theorem askedF_G (k a b : Int) : askedF k a b = askedG k (timesF a b) (ofF b) (ofF a) (alignF a) := by
  unfold askedF askedG; rfl
theorem asked_lo (k a b : Int) (ha : 0 ≤ a) (hb : 0 ≤ b) (h : (askedF k a b).2.2 = 0) : 0 ≤ (askedF k a b).1 ∧ 1 ≤ (askedF k a b).2.1 ∧ (askedF k a b).2.1 ≤ 4096 := by
  rw [askedF_G] at h ⊢
  exact askedG_lo _ _ _ _ _ (timesF_lo a b) (ofF_lo b hb).1 (ofF_lo a ha).1 (alignF_lo a) h

theorem placeB_spec {A : AM} {err at_ n count size align : Int} {l : Nat} (h : placeB A err at_ n count l size align = true) :
    err = 0 ∧ count = 0 ∧ l = 0 ∧ size ≤ n ∧ at_.tmod 8 = 0 ∧ at_.tmod align = 0 ∧ inB A.bytes at_ n ∧ ∀ x ∈ A.blocks, meetB at_ n x = false := by
  simp [placeB, apartB] at h
  obtain ⟨h1, h2, h3, h4, h5, h6, h7, h8⟩ := h
  exact ⟨h1, h2, h3, h4, h5, h6, h7, fun x hx => by have := h8 x hx; simpa using this⟩

theorem tmod8 {x : Int} (h0 : 0 ≤ x) (h : x.tmod 8 = 0) : x % 8 = 0 := by
  rw [Int.tmod_eq_emod_of_nonneg h0] at h; exact h

theorem firstOf_ok (k : Int) (n : Nat) : (firstOf k n).length = n ∧ ∀ v, some v ∈ firstOf k n → 0 ≤ v ∧ v ≤ 255 := by
  unfold firstOf
  split
  · refine ⟨by simp, fun v hv => ?_⟩
    have := List.eq_of_mem_replicate hv
    simp at this
    omega
  · refine ⟨by simp, fun v hv => ?_⟩
    have := List.eq_of_mem_replicate hv
    simp at this
theorem learnL_ok {cs : List (Option Int)} {f : Nat} {ds : List Int} (hf : f + ds.length ≤ cs.length) (hc : ∀ v, some v ∈ cs → 0 ≤ v ∧ v ≤ 255) (hd : BytesOk ds) :
    (learnL cs f ds).length = cs.length ∧ ∀ v, some v ∈ learnL cs f ds → 0 ≤ v ∧ v ≤ 255 := by
  refine ⟨learnL_length cs f ds hf, fun v hv => ?_⟩
  simp only [learnL, List.mem_append, List.mem_map, Option.some.injEq, exists_eq_right] at hv
  rcases hv with h | h | h
  · exact hc v (List.mem_of_mem_take h)
  · exact hd v h
  · exact hc v (List.mem_of_mem_drop h)
theorem grownC_ok {cs : List (Option Int)} {n : Nat} (hc : ∀ v, some v ∈ cs → 0 ≤ v ∧ v ≤ 255) : (grownC cs n).length = n ∧ ∀ v, some v ∈ grownC cs n → 0 ≤ v ∧ v ≤ 255 := by
  refine ⟨by simp [grownC]; omega, fun v hv => ?_⟩
  simp only [grownC, List.mem_append] at hv
  rcases hv with h | h
  · exact hc v (List.mem_of_mem_take h)
  · have := List.eq_of_mem_replicate h
    simp at this

structure OpOk (o : OpA) : Prop where
  a0 : 0 ≤ o.a
  a1 : o.a < 18446744073709551616
  b0 : 0 ≤ o.b
  b1 : o.b < 18446744073709551616
  data : BytesOk o.data

theorem withinB_spec {f n N : Int} (h : withinB f n N = true) : 0 ≤ f ∧ 0 ≤ n ∧ f ≤ N ∧ n ≤ N - f := by simpa [withinB] using h

theorem Inv.step {A : AM} (h : Inv A) {o : OpA} {x : AnsA} (ho : OpOk o) (hx : BytesOk x.data) (hl : (legalA A o x).2 = true) : Inv (applyC A (legalA A o x).1) := by
  unfold legalA at *
  split at hl
  · rename_i e
    rw [if_pos e]
    unfold freshA at *
    split at hl
    · rename_i e1; rw [if_pos e1]; exact h
    · rename_i e1
      rw [if_neg e1]
      split at hl
      · rename_i e2; rw [if_pos e2]; exact h
      · rename_i e2
        rw [if_neg e2]
        obtain ⟨_, _, _, h4, h5, _, h7, h8⟩ := placeB_spec hl
        have ha := asked_lo o.k o.a o.b ho.a0 ho.b0 (by simpa using e1)
        have hn : ((x.n.toNat : Nat) : Int) = x.n := by have := h7.2.1; omega
        exact h.lay (by simp only; rw [hn]; exact h7) (by simp only; rw [hn]; exact h8) (tmod8 h7.1 h5) ha.1 (by simp only; omega) (firstOf_ok _ _)
  · rename_i e
    rw [if_neg e]
    split at hl
    · rename_i e1; rw [if_pos e1]; exact h
    · rename_i e1
      rw [if_neg e1]
      split at hl
      · exact h
      · rename_i b hb
        obtain ⟨hbm, hbk⟩ := findB_some hb
        have hlo := h.lo b hbm
        have hkn := h.known b hbm
        unfold touchA at *
        split at hl
        · rename_i e2
          rw [if_pos e2]
          unfold againA at *
          have hsz := ofF_lo o.a ho.a0
          split at hl
          · rename_i e3; rw [if_pos e3]; exact h
          · rename_i e3
            rw [if_neg e3]
            split at hl
            · rename_i e4; rw [if_pos e4]; exact h
            · rename_i e4
              rw [if_neg e4]
              split at hl
              · rename_i e5
                rw [if_pos e5]
                simp at hl
                exact h.upd hbm rfl rfl hsz.1 hl.2 hkn
              · rename_i e5
                rw [if_neg e5]
                obtain ⟨_, _, _, h4, h5, _, h7, h8⟩ := placeB_spec hl
                have hn : ((x.n.toNat : Nat) : Int) = x.n := by have := h7.2.1; omega
                exact (h.drop b.at_).lay (by simp only; rw [hn]; exact h7) (by simp only; rw [hn]; exact fun y hy => h8 y (List.mem_filter.1 hy).1) (tmod8 h7.1 h5) hsz.1 (by simp only; omega) (grownC_ok hkn.2)
        · rename_i e2
          rw [if_neg e2]
          split at hl
          · rename_i e3; rw [if_pos e3]; exact h.drop _
          · rename_i e3
            rw [if_neg e3]
            split at hl
            · rename_i e4; rw [if_pos e4]; exact h
            · rename_i e4
              rw [if_neg e4]
              split at hl
              · rename_i e5
                rw [if_pos e5]
                unfold readA at *
                split at hl
                · rename_i e6; rw [if_pos e6]; exact h
                · rename_i e6
                  rw [if_neg e6]
                  split at hl
                  · cases hl
                  · rename_i e7
                    rw [if_neg e7]
                    have hw := withinB_spec (by simpa using e6)
                    simp at e7
                    refine h.upd hbm rfl rfl hlo.2.2.2.2.1 hlo.2.2.2.2.2 ?_
                    have := learnL_ok (cs := b.cells) (f := o.fr.toNat) (ds := x.data) (by omega) hkn.2 hx
                    exact ⟨this.1.trans hkn.1, this.2⟩
              · rename_i e5
                rw [if_neg e5]
                unfold writeA at *
                split at hl
                · rename_i e6; rw [if_pos e6]; exact h
                · rename_i e6
                  rw [if_neg e6]
                  have hw := withinB_spec (by simpa using e6)
                  refine h.upd hbm rfl rfl hlo.2.2.2.2.1 hlo.2.2.2.2.2 ?_
                  have := learnL_ok (cs := b.cells) (f := o.fr.toNat) (ds := o.data) (by omega) hkn.2 ho.data
                  exact ⟨this.1.trans hkn.1, this.2⟩

theorem Inv.take {A : AM} (h : Inv A) {o : OpA} {x : AnsA} (ho : OpOk o) (hx : BytesOk x.data) : Inv (takeA A o x) := by
  unfold takeA
  split
  · split
    · rename_i e; exact h.step ho hx e
    · exact h
  · exact h

end Go.Proofs.YtgcnbiccekaffaaGreat
