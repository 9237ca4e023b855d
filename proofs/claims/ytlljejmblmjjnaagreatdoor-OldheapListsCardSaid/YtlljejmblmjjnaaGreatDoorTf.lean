/- All slots given back: plain lists. -/
import Derived.Test.YtlljejmblmjjnaaGreatDoorTA
namespace Go.Proofs.YtlljejmblmjjnaaGreatDoor
set_option linter.unusedVariables false
set_option linter.unusedSimpArgs false
open Go.RowKit Go.ChangeMaps

theorem onL_srt (x n : Nat) : (onL x n).Pairwise (· < ·) := by
  unfold onL
  exact List.Pairwise.filter _ List.pairwise_lt_range
/-- Slots of one heap lie apart. -/
theorem OInv.sep {pages : Nat} {s : OP} (h : OInv pages s) {x y : PO} (hx : x ∈ s.A) (hy : y ∈ s.A) {i j : Nat} (hi : i < slA x.cls) (hj : j < slA y.cls) (hlt : x.addr i < y.addr j) : x.addr i + szA x.cls ≤ y.addr j := by
  have a1 := (h.each x hx).addr_in hi
  have a2 := (h.each y hy).addr_in hj
  have m1 := (h.each x hx).al
  have m2 := (h.each y hy).al
  by_cases e : x.page = y.page
  · obtain rfl := h.same hx hy e
    unfold PO.addr at *
    have : i < j := by
      apply Nat.lt_of_not_le
      intro hle
      have := Nat.mul_le_mul_right (szA x.cls) hle
      omega
    have := Nat.mul_le_mul_right (szA x.cls) this
    rw [Nat.succ_mul] at this
    omega
  · omega
theorem takenOP_srt {pages : Nat} {s : OP} (h : OInv pages s) : (takenOP s.A).Pairwise (· < ·) := by
  unfold takenOP takenO
  rw [List.pairwise_flatMap]
  refine ⟨fun x hx => ?_, ?_⟩
  · rw [List.pairwise_map]
    refine (onL_srt _ _).imp ?_
    intro i j hij
    have hp := (szA_all _ (h.each x hx).cls).1
    unfold PO.addr
    have := Nat.mul_lt_mul_of_pos_right hij (show 0 < szA x.cls by omega)
    omega
  · refine List.Pairwise.imp_of_mem ?_ h.srt
    intro x y hx hy hxy a ha b hb
    obtain ⟨i, hi, rfl⟩ := List.mem_map.1 ha
    obtain ⟨j, hj, rfl⟩ := List.mem_map.1 hb
    have a1 := (h.each x hx).addr_in (onL_mem.1 hi).1
    have a2 := (h.each y hy).addr_in (onL_mem.1 hj).1
    have m1 := (h.each x hx).al
    have m2 := (h.each y hy).al
    have hp := (szA_all _ (h.each x hx).cls).1
    omega
theorem takenOP_nodup {pages : Nat} {s : OP} (h : OInv pages s) : (takenOP s.A).Nodup := (takenOP_srt h).imp fun h e => by omega

/-- What stays when the addresses of a list are given back, one after the other. -/
def givesO : List Int → OP → OP
  | [], s => s
  | a :: l, s => givesO l (giveO s a).2
theorem givesO_take {l : List Int} {k : Nat} (h : k < l.length) (s : OP) : givesO (l.take (k + 1)) s = (giveO (givesO (l.take k) s) l[k]).2 := by
  induction l generalizing k s with
  | nil => cases h
  | cons a l ih =>
    cases k with
    | zero => simp [givesO]
    | succ k =>
      rw [List.take_succ_cons, List.take_succ_cons, List.getElem_cons_succ]
      exact ih (Nat.lt_of_succ_lt_succ h) _
theorem givesO_good {pages : Nat} : ∀ (l : List Int) {s : OP}, OGood pages s → OGood pages (givesO l s)
  | [], _, h => h
  | a :: l, _, h => givesO_good l (give_goodO h a)
theorem givesO_tkn {pages : Nat} {s : OP} (h : OGood pages s) {l : List Int} (hn : l.Nodup) (hl : ∀ a, a ∈ l ↔ TknO s.A a) : ∀ {k : Nat}, k ≤ l.length → ∀ a, TknO (givesO (l.take k) s).A a ↔ a ∈ l.drop k
  | 0, _, a => by rw [List.take_zero, List.drop_zero]; exact (hl a).symm
  | k + 1, hk, a => by
    have hk' : k < l.length := hk
    have ih := givesO_tkn h hn hl (Nat.le_of_lt hk')
    have hg := givesO_good (l.take k) h
    have hd : l.drop k = l[k] :: l.drop (k + 1) := List.drop_eq_getElem_cons hk'
    have hnd : (l[k] :: l.drop (k + 1)).Nodup := hd ▸ (hn.sublist (List.drop_sublist k l))
    rw [List.nodup_cons] at hnd
    obtain ⟨g1, g2⟩ := give_tknO hg.inv l[k]
    have h0 : (giveO (givesO (l.take k) s) l[k]).1 = 0 := g1.2 ((ih _).2 (by rw [hd]; exact List.mem_cons_self))
    rw [givesO_take hk', g2, ih, hd, List.mem_cons]
    constructor
    · rintro ⟨e | e, h2⟩
      · exact absurd e (h2 h0)
      · exact e
    · exact fun e => ⟨.inr e, fun _ he => hnd.1 (he ▸ e)⟩
theorem givesO_zero {pages : Nat} {s : OP} (h : OGood pages s) {l : List Int} (hn : l.Nodup) (hl : ∀ a, a ∈ l ↔ TknO s.A a) {k : Nat} (hk : k < l.length) : (giveO (givesO (l.take k) s) l[k]).1 = 0 :=
  (give_tknO (givesO_good (l.take k) h).inv l[k]).1.2 ((givesO_tkn h hn hl (Nat.le_of_lt hk) _).2 (by rw [List.drop_eq_getElem_cons hk]; exact List.mem_cons_self))
/-- A heap of which nothing is taken. -/
theorem noneO_empty {s : OP} (hn : ∀ a, ¬ TknO s.A a) {x : PO} (hx : x ∈ s.A) : x.empty = true := by
  refine PO.empty_iff.2 fun k hk => ?_
  cases hb : x.x.testBit k with
  | false => rfl
  | true => exact absurd ⟨x, hx, k, hk, hb, rfl⟩ (hn (x.addr k : Nat))
theorem noneO_taken {s : OP} (hn : ∀ a, ¬ TknO s.A a) : takenOP s.A = [] := List.eq_nil_iff_forall_not_mem.2 fun a ha => hn a (takenOP_mem.1 ha)
theorem noneO_num {pages : Nat} {s : OP} (h : OInv pages s) (hn : ∀ a, ¬ TknO s.A a) {x : PO} (hx : x ∈ s.A) : x.num = 4 * x.cls + 2 := by
  have he := noneO_empty hn hx
  have hs : x.sealed = false := by
    cases hq : x.sealed with
    | false => rfl
    | true => have := (h.each x hx).opn hq; rw [he] at this; cases this
  have h2 : stateO x.O = 0 := by unfold PO.empty at he; simpa using he
  unfold PO.num PO.kind ofO
  rw [hs, if_pos h2]
  rfl
theorem noneO_sealed {pages : Nat} {s : OP} (h : OInv pages s) (hn : ∀ a, ¬ TknO s.A a) {c : Nat} (hc : c < 16) : s.R (4 * c + 3) = [] := by
  refine List.eq_nil_iff_forall_not_mem.2 fun q hq => ?_
  obtain ⟨x, hx, -, e⟩ := h.back _ (by omega) q hq
  have := noneO_num h hn hx
  omega
/-- Slabs of a class, and of the classes below one. -/
def clsO (A : List PO) (c : Nat) : List PO := A.filter fun x => decide (x.cls = c)
def underO (A : List PO) (c : Nat) : List PO := A.filter fun x => decide (x.cls < c)
theorem underO_zero (A : List PO) : underO A 0 = [] := by unfold underO; rw [List.filter_eq_nil_iff]; intro a _; simp
theorem underO_all {A : List PO} (h : ∀ x ∈ A, x.cls < 16) : underO A 16 = A := by unfold underO; rw [List.filter_eq_self]; intro a ha; simpa using h a ha
theorem underO_succ (A : List PO) (c : Nat) : (underO A (c + 1)).length = (underO A c).length + (clsO A c).length := by
  induction A with
  | nil => rfl
  | cons x l ih =>
    unfold underO clsO at *
    rw [List.filter_cons, List.filter_cons, List.filter_cons]
    rcases Nat.lt_trichotomy x.cls c with e | e | e
    · rw [if_pos (by simp; omega), if_pos (by simp; omega), if_neg (by simp; omega)]
      simp only [List.length_cons]
      omega
    · rw [if_pos (by simp; omega), if_neg (by simp; omega), if_pos (by simp; omega)]
      simp only [List.length_cons]
      omega
    · rw [if_neg (by simp; omega), if_neg (by simp; omega), if_neg (by simp; omega)]
      exact ih
theorem items_nodup {pages : Nat} {s : OP} (h : OInv pages s) (l : List PO) (hl : l.Sublist s.A) : (l.map (·.item)).Nodup := by
  refine List.pairwise_map.2 (List.Pairwise.imp_of_mem ?_ (h.srt.sublist hl))
  intro x y hx hy hlt e
  have h1 := (h.each x (hl.subset hx)).al
  have h2 := (h.each y (hl.subset hy)).al
  unfold PO.item at e
  omega
theorem noneO_length {pages : Nat} {s : OP} (h : OInv pages s) (hn : ∀ a, ¬ TknO s.A a) {c : Nat} (hc : c < 16) : (s.R (4 * c + 2)).length = (clsO s.A c).length := by
  have h1 : ∀ q, q ∈ s.R (4 * c + 2) ↔ q ∈ (clsO s.A c).map (·.item) := fun q => by
    rw [List.mem_map]
    constructor
    · intro hq
      obtain ⟨x, hx, hp, e⟩ := h.back _ (by omega) q hq
      have := noneO_num h hn hx
      refine ⟨x, List.mem_filter.2 ⟨hx, by simp; omega⟩, ?_⟩
      unfold PO.item
      omega
    · rintro ⟨x, hx, rfl⟩
      obtain ⟨hx1, hx2⟩ := List.mem_filter.1 hx
      have hx2 : x.cls = c := by simpa using hx2
      have := h.ring x hx1
      rw [noneO_num h hn hx1, hx2] at this
      exact this
  have hN := items_nodup h (clsO s.A c) List.filter_sublist
  have e : ((clsO s.A c).map (·.item)).length = (clsO s.A c).length := List.length_map ..
  rw [← e]
  exact Nat.le_antisymm (nodup_subO (h.nodup _ (by omega)) fun a ha => (h1 a).1 ha) (nodup_subO hN fun a ha => (h1 a).2 ha)
theorem takenOP_bound {pages : Nat} : ∀ {A : List PO}, (∀ x ∈ A, x.Ok pages) → (takenOP A).length ≤ 64 * A.length
  | [], _ => Nat.zero_le _
  | x :: l, h => by
    have h2 := takenOP_bound (A := l) (fun y hy => h y (List.mem_cons_of_mem _ hy))
    have hok := h x List.mem_cons_self
    have h4 := (szA_all _ hok.cls).2.2.2.2.1
    have h5 := ones_le x.x (slA x.cls)
    unfold takenOP takenO at *
    rw [List.flatMap_cons, List.length_append, List.length_map, List.length_cons]
    have h6 : (onL x.O.x (slA x.O.cls)).length ≤ slA x.cls := h5
    omega
/-- A list, turned. -/
def turnI (l : List Int) (k : Nat) : List Int := l.drop k ++ l.take k
theorem turnI_mem {l : List Int} {k : Nat} (a : Int) : a ∈ turnI l k ↔ a ∈ l := by
  unfold turnI
  conv => rhs; rw [← List.take_append_drop k l]
  rw [List.mem_append, List.mem_append]
  exact Or.comm
theorem turnI_nodup {l : List Int} {k : Nat} (h : l.Nodup) : (turnI l k).Nodup := by
  have : (turnI l k).Perm l := List.perm_append_comm.trans (by rw [List.take_append_drop])
  exact this.nodup_iff.2 h
theorem turnI_length {l : List Int} {k : Nat} (h : k ≤ l.length) : (turnI l k).length = l.length := by
  unfold turnI
  rw [List.length_append, List.length_drop, List.length_take]
  omega

end Go.Proofs.YtlljejmblmjjnaaGreatDoor
