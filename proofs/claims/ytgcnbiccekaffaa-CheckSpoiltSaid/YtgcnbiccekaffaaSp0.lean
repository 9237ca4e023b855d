/- The pure values of CheckSpoilt. -/
import Derived.Test.YtgcnbiccekaffaaAl0
import Derived.Test.YtgcnbiccekaffaaY
namespace Go.Proofs.Ytgcnbiccekaffaa
open Go.RowKit Go.ChangeMaps

theorem take_yes {A : AM} {o : OpA} {x : AnsA} {c : Chg} (hr : rightA o = true) (h : legalA A o x = (c, true)) : takeE A o x = 0 ∧ takeA A o x = applyC A c := by
  unfold takeE takeA
  rw [if_pos hr, if_pos hr, h]
  exact ⟨rfl, rfl⟩

theorem take_not {A : AM} {o : OpA} {x : AnsA} {c : Chg} (hr : rightA o = true) (h : legalA A o x = (c, false)) : takeE A o x = 20 := by
  unfold takeE
  rw [if_pos hr, h]
  rfl

theorem spl_malloc (A : AM) (size at_ n : Int) (h1 : size ≤ 1099511627776) :
    legalA A ⟨0, size, 0, 0, 0, 0, []⟩ ⟨0, at_, n, 0, []⟩ = (.lay ⟨at_, n.toNat, size, List.replicate n.toNat none⟩, decide (size ≤ n) && (at_.tmod 8 == 0 && apartB A at_ n)) := by
  have h2 : ¬ (1099511627776 : Int) < size := by omega
  simp [legalA, freshA, askedF, ofF, bareA, bareB, onlyB, placeA, placeB, firstOf, h2]

theorem spl_wr {A : AM} {b : Blk} (hb : findB A 0 = some b) (ds : List Int) (hl : ds.length ≤ b.n) :
    legalA A ⟨7, 0, 0, 0, 0, 0, ds⟩ ⟨0, 0, ds.length, 0, []⟩ = (.upd b.at_ { b with cells := learnL b.cells 0 ds }, true) := by
  have h1 : withinB 0 ds.length b.n = true := by simp [withinB]; omega
  simp [legalA, hb, touchA, writeA, h1, onlyA, onlyB]

theorem spl_rd {A : AM} {b : Blk} (hb : findB A 0 = some b) (rd : List Int) (L : Int) (hL : L = rd.length) (hl : rd.length ≤ b.n) :
    legalA A ⟨6, 0, 0, 0, 0, L, []⟩ ⟨0, 0, 0, 0, rd⟩ = (.upd b.at_ { b with cells := learnL b.cells 0 rd }, readsB b.cells 0 rd) := by
  subst hL
  have h1 : withinB 0 rd.length b.n = true := by simp [withinB]; omega
  simp [legalA, hb, touchA, readA, h1, onlyB]

theorem spl_free {A : AM} {b : Blk} (hb : findB A 0 = some b) (er : Int) : legalA A ⟨4, 0, 0, 0, 0, 0, []⟩ ⟨er, 0, 0, 0, []⟩ = (.drop b.at_, er == 0) := by
  simp [legalA, hb, touchA, bareA, bareB, onlyB]

theorem spl_gone {A : AM} (hb : findB A 0 = none) (er : Int) : legalA A ⟨4, 0, 0, 0, 0, 0, []⟩ ⟨er, 0, 0, 0, []⟩ = (.keep, er == 12) := by
  simp [legalA, hb, bareA, bareB, onlyB]

/-- Six events. -/
structure SpP where
  ds : List Int
  rd : List Int
  n : Int
  size : Int
  at_ : Int
  p1 : Option Addr
  q1 : Nat
  p2 : Option Addr
  q2 : Nat

def spE0 (P : SpP) : EvM := ⟨0, ⟨0, P.ds.length, 0, 0, 0, 0, []⟩, ⟨0, 0, P.n, 0, []⟩, none, 0, none, 0, 1, 2, 3⟩
def spE1 (P : SpP) : EvM := ⟨0, ⟨7, 0, 0, 0, 0, 0, P.ds⟩, ⟨0, 0, P.ds.length, 0, []⟩, P.p1, P.q1, none, 0, 4, 5, 6⟩
def spE2 (P : SpP) (t : Int) : EvM := ⟨0, ⟨6, 0, 0, 0, 0, P.ds.length, []⟩, ⟨0, 0, 0, 0, P.rd⟩, none, 0, P.p2, P.q2, 7, t, 9⟩
def spE3 (P : SpP) : EvM := ⟨1, ⟨0, P.size, 0, 0, 0, 0, []⟩, ⟨0, 8 * P.at_, P.size, 0, []⟩, none, 0, none, 0, 1, 10, 11⟩
def spE4 : EvM := ⟨0, ⟨4, 0, 0, 0, 0, 0, []⟩, ⟨0, 0, 0, 0, []⟩, none, 0, none, 0, 12, 13, 14⟩
def spE5 (er : Int) : EvM := ⟨0, ⟨4, 0, 0, 0, 0, 0, []⟩, ⟨er, 0, 0, 0, []⟩, none, 0, none, 0, 15, 16, 17⟩
def spEvs (P : SpP) (t er : Int) : List EvM := [spE0 P, spE1 P, spE2 P t, spE3 P, spE4, spE5 er]

theorem sp_pick (P : SpP) (er : Int) : pickK (spEvs P 8 er) 6 = [0, 1, 2, 3, 4, 5] := by rfl
theorem sp_timely (P : SpP) (er : Int) : (spEvs P 8 er).all timelyE = true := by rfl
theorem sp_late (P : SpP) (er : Int) : (spEvs P 4 er).all timelyE = false := by rfl
theorem sp_ok (P : SpP) (er : Int) : okFrom (spEvs P 8 er) [] [0, 1, 2, 3, 4, 5] = true := by rfl

theorem sp_took (P : SpP) (er : Int) : ∀ i ∈ [0, 1, 2, 3, 4, 5], ∀ j ∈ [0, 1, 2, 3, 4, 5], tookAt (spEvs P 8 er) i ≤ tookAt (spEvs P 8 er) j → i ≤ j := by
  have h : ∀ i, tookAt (spEvs P 8 er) i = ([2, 5, 8, 10, 13, 16] : List Int).getD i 0 := fun i => by
    match i with
    | 0 | 1 | 2 | 3 | 4 | 5 => rfl
    | i + 6 => rfl
  intro i hi j hj
  rw [h, h]
  revert i j
  decide

theorem sp_ys {P : SpP} {er : Int} {ys : List Nat} (hperm : ys.Perm (pickK (spEvs P 8 er) 6)) (hpair : ys.Pairwise (fun i j => tookAt (spEvs P 8 er) i ≤ tookAt (spEvs P 8 er) j)) : ys = [0, 1, 2, 3, 4, 5] := by
  rw [sp_pick] at hperm
  have h2 : ys.Pairwise (fun i j => i ≤ j) := by
    refine List.Pairwise.imp_of_mem ?_ hpair
    intro a b ha hb h
    exact sp_took P er a (hperm.mem_iff.1 ha) b (hperm.mem_iff.1 hb) h
  exact List.Perm.eq_of_pairwise (fun a b _ _ h1 h2 => Nat.le_antisymm h1 h2) h2 (by decide) hperm

/-! ### the runs -/

def spB (P : SpP) (cs : List (Option Int)) : Blk := ⟨0, P.n.toNat, P.ds.length, cs⟩
def spC0 (P : SpP) : List (Option Int) := List.replicate P.n.toNat none
def spC1 (P : SpP) : List (Option Int) := learnL (spC0 P) 0 P.ds
def spD (P : SpP) : Blk := ⟨8 * P.at_, P.size.toNat, P.size, List.replicate P.size.toNat none⟩

structure SpOk (P : SpP) (bytes : Int) : Prop where
  l1 : 1 ≤ P.ds.length
  l2 : P.ds.length ≤ 1000
  rd : P.rd.length = P.ds.length
  n1 : (P.ds.length : Int) ≤ P.n
  s1 : 1 ≤ P.size
  s2 : P.size ≤ 4000
  a0 : 0 ≤ P.at_
  b1 : P.n ≤ bytes
  b2 : 8 * P.at_ + P.size ≤ bytes

theorem sp_s0 {P : SpP} {bytes : Int} (h : SpOk P bytes) : takeE ⟨bytes, []⟩ (spE0 P).o (spE0 P).x = 0 ∧ takeA ⟨bytes, []⟩ (spE0 P).o (spE0 P).x = ⟨bytes, [spB P (spC0 P)]⟩ := by
  have h1 := h.l1
  have h2 := h.l2
  have h3 := h.n1
  have h4 := h.b1
  have hm := spl_malloc ⟨bytes, []⟩ P.ds.length 0 P.n (by omega)
  have ht : (decide ((P.ds.length : Int) ≤ P.n) && ((0 : Int).tmod 8 == 0 && apartB ⟨bytes, []⟩ 0 P.n)) = true := by
    simp [apartB, inB, h3]
    omega
  rw [ht] at hm
  exact take_yes rfl hm

theorem sp_find (P : SpP) (bytes : Int) (cs : List (Option Int)) (l : List Blk) : findB ⟨bytes, spB P cs :: l⟩ 0 = some (spB P cs) := rfl

theorem sp_s1 {P : SpP} {bytes : Int} (h : SpOk P bytes) : takeE ⟨bytes, [spB P (spC0 P)]⟩ (spE1 P).o (spE1 P).x = 0 ∧ takeA ⟨bytes, [spB P (spC0 P)]⟩ (spE1 P).o (spE1 P).x = ⟨bytes, [spB P (spC1 P)]⟩ := by
  have h2 := h.l2
  have h3 := h.n1
  have hm := spl_wr (sp_find P bytes (spC0 P) []) P.ds (by show _ ≤ P.n.toNat; omega)
  exact take_yes (by simp [rightA, rightB, spE1]; omega) hm

theorem sp_get {P : SpP} {bytes : Int} (h : SpOk P bytes) {k : Nat} (hk : k < P.ds.length) : (spC1 P).getD k none = some (P.ds.getD k 0) := by
  simp [spC1, learnL, List.getD, List.getElem?_append_left, hk]

theorem sp_reads {P : SpP} {bytes : Int} (h : SpOk P bytes) (he : P.rd = P.ds) : readsB (spC1 P) 0 P.rd = true := by
  unfold readsB
  rw [List.all_eq_true]
  intro k hk
  have hk' : k < P.ds.length := by rw [← h.rd]; exact List.mem_range.1 hk
  rw [Nat.zero_add, sp_get h hk', he]
  simp [okByte]

theorem sp_reads_not {P : SpP} {bytes : Int} (h : SpOk P bytes) {k : Nat} (hk : k < P.ds.length) (he : P.rd.getD k 0 ≠ P.ds.getD k 0) : readsB (spC1 P) 0 P.rd = false := by
  unfold readsB
  rw [Bool.eq_false_iff]
  intro hall
  rw [List.all_eq_true] at hall
  have := hall k (List.mem_range.2 (by rw [h.rd]; exact hk))
  rw [Nat.zero_add, sp_get h hk] at this
  simp only [okByte, beq_iff_eq] at this
  exact he this.symm

theorem sp_s2 {P : SpP} {bytes : Int} (h : SpOk P bytes) (he : P.rd = P.ds) (t : Int) : takeE ⟨bytes, [spB P (spC1 P)]⟩ (spE2 P t).o (spE2 P t).x = 0 ∧ takeA ⟨bytes, [spB P (spC1 P)]⟩ (spE2 P t).o (spE2 P t).x = ⟨bytes, [spB P (learnL (spC1 P) 0 P.rd)]⟩ := by
  have h2 := h.l2
  have h3 := h.n1
  have hrd := h.rd
  have hm := spl_rd (sp_find P bytes (spC1 P) []) P.rd P.ds.length (by omega) (by show _ ≤ P.n.toNat; omega)
  rw [show readsB (spB P (spC1 P)).cells 0 P.rd = true from sp_reads h he] at hm
  exact take_yes rfl hm

theorem sp_s2_not {P : SpP} {bytes : Int} (h : SpOk P bytes) {k : Nat} (hk : k < P.ds.length) (he : P.rd.getD k 0 ≠ P.ds.getD k 0) (t : Int) : takeE ⟨bytes, [spB P (spC1 P)]⟩ (spE2 P t).o (spE2 P t).x = 20 := by
  have h2 := h.l2
  have h3 := h.n1
  have hrd := h.rd
  have hm := spl_rd (sp_find P bytes (spC1 P) []) P.rd P.ds.length (by omega) (by show _ ≤ P.n.toNat; omega)
  rw [show readsB (spB P (spC1 P)).cells 0 P.rd = false from sp_reads_not h hk he] at hm
  exact take_not rfl hm

theorem sp_s3 {P : SpP} {bytes : Int} (h : SpOk P bytes) (cs : List (Option Int)) (ha : P.n ≤ 8 * P.at_) : takeE ⟨bytes, [spB P cs]⟩ (spE3 P).o (spE3 P).x = 0 ∧ takeA ⟨bytes, [spB P cs]⟩ (spE3 P).o (spE3 P).x = ⟨bytes, [spB P cs, spD P]⟩ := by
  have h1 := h.l1
  have h3 := h.n1
  have h5 := h.s1
  have h6 := h.s2
  have h7 := h.a0
  have h8 := h.b2
  have hm := spl_malloc ⟨bytes, [spB P cs]⟩ P.size (8 * P.at_) P.size (by omega)
  have ht : (decide (P.size ≤ P.size) && ((8 * P.at_).tmod 8 == 0 && apartB ⟨bytes, [spB P cs]⟩ (8 * P.at_) P.size)) = true := by
    have t1 : (8 * P.at_).tmod 8 = 0 := by rw [Int.tmod_eq_emod_of_nonneg (by omega)]; omega
    have t2 : inB bytes (8 * P.at_) P.size := by unfold inB; omega
    have t3 : meetB (8 * P.at_) P.size (spB P cs) = false := by
      unfold meetB spB
      refine decide_eq_false ?_
      show ¬ (8 * P.at_ < 0 + (P.n.toNat : Int) ∧ _)
      omega
    simp [apartB, t1, t2, t3]
  rw [ht] at hm
  have hy := take_yes (o := (spE3 P).o) rfl hm
  refine ⟨hy.1, hy.2.trans ?_⟩
  show AM.mk bytes (insB (spD P) [spB P cs]) = _
  have hlt : ¬ (spD P).at_ < (spB P cs).at_ := by show ¬ 8 * P.at_ < 0; omega
  simp [insB, hlt]

theorem sp_s3_not {P : SpP} {bytes : Int} (h : SpOk P bytes) (cs : List (Option Int)) (ha : 8 * P.at_ < P.n) : takeE ⟨bytes, [spB P cs]⟩ (spE3 P).o (spE3 P).x = 20 := by
  have h5 := h.s1
  have h6 := h.s2
  have h7 := h.a0
  have hm := spl_malloc ⟨bytes, [spB P cs]⟩ P.size (8 * P.at_) P.size (by omega)
  have hmeet : meetB (8 * P.at_) P.size (spB P cs) = true := by simp [meetB, spB]; omega
  have ht : (decide (P.size ≤ P.size) && ((8 * P.at_).tmod 8 == 0 && apartB ⟨bytes, [spB P cs]⟩ (8 * P.at_) P.size)) = false := by
    simp [apartB, hmeet]
  rw [ht] at hm
  exact take_not rfl hm

theorem sp_s4 {P : SpP} {bytes : Int} (h : SpOk P bytes) (cs : List (Option Int)) (ha : P.n ≤ 8 * P.at_) : takeE ⟨bytes, [spB P cs, spD P]⟩ spE4.o spE4.x = 0 ∧ takeA ⟨bytes, [spB P cs, spD P]⟩ spE4.o spE4.x = ⟨bytes, [spD P]⟩ := by
  have h1 := h.l1
  have h3 := h.n1
  have hy := take_yes (o := spE4.o) rfl (spl_free (sp_find P bytes cs [spD P]) 0)
  refine ⟨hy.1, hy.2.trans ?_⟩
  show AM.mk bytes (dropB 0 [spB P cs, spD P]) = _
  have hne : ((spD P).at_ != 0) = true := by show (8 * P.at_ != 0) = true; simp; omega
  simp [dropB, hne, show ((spB P cs).at_ != 0) = false from rfl]

theorem sp_gone {P : SpP} {bytes : Int} (h : SpOk P bytes) (ha : P.n ≤ 8 * P.at_) : findB ⟨bytes, [spD P]⟩ 0 = none := by
  have h1 := h.l1
  have h3 := h.n1
  have hne : ((spD P).at_ == 0) = false := by show (8 * P.at_ == 0) = false; simp; omega
  simp [findB, hne]

theorem run_cons {es : List EvM} {A A' : AM} {i : Nat} {r : List Nat} (h : takeE A (evAt es i).o (evAt es i).x = 0 ∧ takeA A (evAt es i).o (evAt es i).x = A') : runE es A (i :: r) = runE es A' r := by
  rw [runE, if_pos h.1, h.2]
theorem run_stop {es : List EvM} {A : AM} {i : Nat} {r : List Nat} (h : takeE A (evAt es i).o (evAt es i).x = 20) : runE es A (i :: r) = ((i : Int), 20) := by
  rw [runE, if_neg (by rw [h]; decide), h]

theorem sp_run {P : SpP} {bytes : Int} (h : SpOk P bytes) (he : P.rd = P.ds) (ha : P.n ≤ 8 * P.at_) (t : Int) : runE (spEvs P t 12) ⟨bytes, []⟩ [0, 1, 2, 3, 4, 5] = (-1, 0) := by
  rw [run_cons (es := spEvs P t 12) (sp_s0 h), run_cons (es := spEvs P t 12) (sp_s1 h), run_cons (es := spEvs P t 12) (sp_s2 h he t), run_cons (es := spEvs P t 12) (sp_s3 h _ ha), run_cons (es := spEvs P t 12) (sp_s4 h _ ha),
    run_cons (es := spEvs P t 12) (take_yes rfl (spl_gone (sp_gone h ha) 12))]
  rfl

theorem sp_run_free {P : SpP} {bytes : Int} (h : SpOk P bytes) (he : P.rd = P.ds) (ha : P.n ≤ 8 * P.at_) (t : Int) : runE (spEvs P t 0) ⟨bytes, []⟩ [0, 1, 2, 3, 4, 5] = (5, 20) := by
  rw [run_cons (es := spEvs P t 0) (sp_s0 h), run_cons (es := spEvs P t 0) (sp_s1 h), run_cons (es := spEvs P t 0) (sp_s2 h he t), run_cons (es := spEvs P t 0) (sp_s3 h _ ha), run_cons (es := spEvs P t 0) (sp_s4 h _ ha),
    run_stop (es := spEvs P t 0) (take_not rfl (spl_gone (sp_gone h ha) 0))]
  rfl

theorem sp_run_meet {P : SpP} {bytes : Int} (h : SpOk P bytes) (he : P.rd = P.ds) (ha : 8 * P.at_ < P.n) (t er : Int) : runE (spEvs P t er) ⟨bytes, []⟩ [0, 1, 2, 3, 4, 5] = (3, 20) := by
  rw [run_cons (es := spEvs P t er) (sp_s0 h), run_cons (es := spEvs P t er) (sp_s1 h), run_cons (es := spEvs P t er) (sp_s2 h he t), run_stop (es := spEvs P t er) (sp_s3_not h _ ha)]
  rfl

theorem sp_run_bad {P : SpP} {bytes : Int} (h : SpOk P bytes) {k : Nat} (hk : k < P.ds.length) (he : P.rd.getD k 0 ≠ P.ds.getD k 0) (t er : Int) : runE (spEvs P t er) ⟨bytes, []⟩ [0, 1, 2, 3, 4, 5] = (2, 20) := by
  rw [run_cons (es := spEvs P t er) (sp_s0 h), run_cons (es := spEvs P t er) (sp_s1 h), run_stop (es := spEvs P t er) (sp_s2_not h hk he t)]
  rfl

end Go.Proofs.Ytgcnbiccekaffaa
