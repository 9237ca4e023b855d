/- What is held, by address: plain lists (OldheapApart). -/
import Derived.Test.YtlljejmblmjjnaaGreatDoorTf
import Derived.Test.YtlljejmblmjjnaaGreatDoorTe
import Derived.OrdersHeld
import Derived.Laws.AppendOwnNone
import Derived.Deep.RegionHeld3
import Derived.WalkKit
import Derived.WalkSpells
import Derived.WalkLawsBesides
import Derived.BigQuiet
import Derived.Lib.Hide
namespace Go.Proofs.YtlljejmblmjjnaaGreatDoor
set_option linter.unusedVariables false
set_option linter.unusedSimpArgs false

theorem szA_pos {c : Nat} (h : c < 16) : 16 ≤ szA c ∧ szA c ≤ 512 ∧ szA c % 16 = 0 := by have := szA_all c h; exact ⟨this.1, this.2.1, this.2.2.1⟩
theorem give_sub (s : OP) (a : Int) : SubO (giveO s a).2.A s.A := by
  have hi := giveO_is s a
  revert hi
  generalize giveO s a = q
  intro hi
  cases hi with
  | none => exact SubO.refl _
  | slot => exact SubO.refl _
  | twice => exact SubO.refl _
  | close x k hn hs hk he hc => exact fun z hz => ⟨z, (delO_mem.1 hz).1, rfl, rfl⟩
  | shut x k hn hs hk he hd =>
    have hx := (nearO_mem hn).1
    intro z hz
    rcases (updO_mem (x := x.clr k) ⟨x, hx, rfl⟩).1 hz with rfl | ⟨h1, -⟩
    · exact ⟨x, hx, rfl, rfl⟩
    · exact ⟨z, h1, rfl, rfl⟩
  | stay x k hn hs hk hd hc =>
    have hx := (nearO_mem hn).1
    intro z hz
    rcases (updO_mem (x := x.clr k) ⟨x, hx, rfl⟩).1 hz with rfl | ⟨h1, -⟩
    · exact ⟨x, hx, rfl, rfl⟩
    · exact ⟨z, h1, rfl, rfl⟩
theorem mark_sub {A : List PO} {x : PO} (hx : x ∈ A) (b : Bool) : SubO (updO A { x with sealed := b }) A := by
  intro z hz
  rcases (updO_mem (x := { x with sealed := b }) ⟨x, hx, rfl⟩).1 hz with rfl | ⟨h1, -⟩
  · exact ⟨x, hx, rfl, rfl⟩
  · exact ⟨z, h1, rfl, rfl⟩
theorem seal_sub (s : OP) (p : Int) : SubO (sealO s p).2.A s.A := by
  have hi := sealO_is s p
  revert hi
  generalize sealO s p = q
  intro hi
  cases hi with
  | none => exact SubO.refl _
  | state => exact SubO.refl _
  | close x hg hs he => exact fun z hz => ⟨z, (delO_mem.1 hz).1, rfl, rfl⟩
  | mark x hg hs he => exact mark_sub (getO_mem hg).1 _
theorem unseal_sub (s : OP) (p : Int) : SubO (unsealO s p).2.A s.A := by
  have hi := unsealO_is s p
  revert hi
  generalize unsealO s p = q
  intro hi
  cases hi with
  | none => exact SubO.refl _
  | state => exact SubO.refl _
  | mark x hg hs => exact mark_sub (getO_mem hg).1 _
theorem AtO.uniq {pages : Nat} {s : OP} (h : OInv pages s) {c d a : Int} (h1 : AtO s.A c a) (h2 : AtO s.A d a) : c = d := by
  obtain ⟨x, hx, e1, i, hi, rfl⟩ := h1
  obtain ⟨y, hy, e2, j, hj, e⟩ := h2
  have := (h.tkn_uniq hx hy hi hj (by exact_mod_cast e)).1
  rw [← e1, ← e2, this]
theorem TknO.at {A : List PO} {a : Int} (h : TknO A a) : ∃ c : Int, AtO A c a := by
  obtain ⟨x, hx, k, h1, -, h2⟩ := h
  exact ⟨x.cls, x, hx, rfl, k, h1, h2⟩
/-- An address that stays taken stays a slot of its class. -/
theorem AtO.keep {pages : Nat} {s s' : OP} (h : OInv pages s) {c a : Int} (h1 : AtO s.A c a) (ht : TknO s'.A a) (hs : SubO s'.A s.A) : AtO s'.A c a := by
  obtain ⟨d, hd⟩ := ht.at
  rw [h1.uniq h (hd.sub hs)]
  exact hd

theorem len_of_memA {l m : List Int} (hl : l.Nodup) (hm : m.Nodup) (h : ∀ a, a ∈ l ↔ a ∈ m) : l.length = m.length :=
  Nat.le_antisymm (nodup_subO hl fun a ha => (h a).1 ha) (nodup_subO hm fun a ha => (h a).2 ha)
/-- A map of ints: key, value, when it was born. -/
structure ME where
  k : Int
  v : Int
  born : Nat
def valE (E : List ME) (a : Int) : Int := match E.find? fun x => x.k == a with | some x => x.v | none => 0
theorem valE_in {E : List ME} {a : Int} {x : ME} (hn : (E.map (·.k)).Nodup) (hx : x ∈ E) (ha : x.k = a) : valE E a = x.v := by
  unfold valE
  cases hf : E.find? fun x => x.k == a with
  | none =>
    rw [List.find?_eq_none] at hf
    exact absurd (by simpa using ha) (hf x hx)
  | some y =>
    have h1 := List.mem_of_find?_eq_some hf
    have h2 := List.find?_some hf
    simp only [beq_iff_eq] at h2
    have := nodupO_uniq hn h1 hx (h2.trans ha.symm)
    rw [this]
theorem valE_out {E : List ME} {a : Int} (h : ∀ x ∈ E, x.k ≠ a) : valE E a = 0 := by
  unfold valE
  cases hf : E.find? fun x => x.k == a with
  | none => rfl
  | some y =>
    have h1 := List.mem_of_find?_eq_some hf
    have h2 := List.find?_some hf
    simp only [beq_iff_eq] at h2
    exact absurd h2 (h y h1)
/-- The map's keys are what is taken; its values are f. -/
structure MapOk (s : OP) (E : List ME) : Prop where
  nodup : (E.map (·.k)).Nodup
  mem : ∀ a, (∃ x ∈ E, x.k = a) ↔ TknO s.A a
/-- The values are the sizes of the slots. -/
def SizesOk (s : OP) (E : List ME) : Prop := ∀ x ∈ E, ∃ c : Nat, c < 16 ∧ AtO s.A c x.k ∧ x.v = (szA c : Nat)
theorem MapOk.val {s : OP} {E : List ME} (h : MapOk s E) {a : Int} (ht : ¬ TknO s.A a) : valE E a = 0 := valE_out fun x hx e => ht ((h.mem a).1 ⟨x, hx, e⟩)
theorem MapOk.size {s : OP} {E : List ME} (h : MapOk s E) (hs : SizesOk s E) {a : Int} (ht : TknO s.A a) : ∃ c : Nat, c < 16 ∧ AtO s.A c a ∧ valE E a = (szA c : Nat) := by
  obtain ⟨x, hx, rfl⟩ := (h.mem a).2 ht
  obtain ⟨c, h1, h2, h3⟩ := hs x hx
  exact ⟨c, h1, h2, by rw [valE_in h.nodup hx rfl, h3]⟩
theorem MapOk.pos {s : OP} {E : List ME} (h : MapOk s E) (hs : SizesOk s E) (a : Int) : 0 < valE E a ↔ TknO s.A a := by
  constructor
  · intro hv
    apply Classical.byContradiction
    intro ht
    rw [h.val ht] at hv
    omega
  · intro ht
    obtain ⟨c, h1, -, h3⟩ := h.size hs ht
    have := szA_pos h1
    omega
theorem MapOk.same {s s' : OP} {E : List ME} (h : MapOk s E) (ht : ∀ a, TknO s'.A a ↔ TknO s.A a) : MapOk s' E := ⟨h.nodup, fun a => (h.mem a).trans (ht a).symm⟩
theorem SizesOk.same {pages : Nat} {s s' : OP} {E : List ME} (hg : OInv pages s) (h : SizesOk s E) (hm : MapOk s' E) (hs : SubO s'.A s.A) : SizesOk s' E := fun x hx => by
  obtain ⟨c, h1, h2, h3⟩ := h x hx
  exact ⟨c, h1, h2.keep hg ((hm.mem _).1 ⟨x, hx, rfl⟩) hs, h3⟩
theorem SizesOk.more {s s' : OP} {E : List ME} (h : SizesOk s E) (hs : SubO s.A s'.A) : SizesOk s' E := fun x hx => by
  obtain ⟨c, h1, h2, h3⟩ := h x hx
  exact ⟨c, h1, h2.sub hs, h3⟩
theorem MapOk.del {s s' : OP} {E : List ME} {at_ : Int} (h : MapOk s E) (ht : ∀ b, TknO s'.A b ↔ TknO s.A b ∧ b ≠ at_) : MapOk s' (E.filter fun x => x.k != at_) := by
  refine ⟨h.nodup.sublist ((List.filter_sublist).map _), fun a => ?_⟩
  rw [ht, ← h.mem a]
  constructor
  · rintro ⟨x, hx, rfl⟩
    obtain ⟨h1, h2⟩ := List.mem_filter.1 hx
    exact ⟨⟨x, h1, rfl⟩, by simpa using h2⟩
  · rintro ⟨⟨x, hx, rfl⟩, h2⟩
    exact ⟨x, List.mem_filter.2 ⟨hx, by simpa using h2⟩, rfl⟩
theorem SizesOk.del {s : OP} {E : List ME} (h : SizesOk s E) (p : ME → Bool) : SizesOk s (E.filter p) := fun x hx => h x (List.mem_filter.1 hx).1
/-- The slots of new are laid into the map, one after the other: the map stands between what was taken and what is. -/
structure MapMid (s : OP) (new : List Int) (k : Nat) (E : List ME) : Prop where
  nodup : (E.map (·.k)).Nodup
  mem : ∀ a, (∃ x ∈ E, x.k = a) ↔ TknO s.A a ∨ a ∈ new.take k
theorem MapMid.start {s : OP} {E : List ME} (h : MapOk s E) (new : List Int) : MapMid s new 0 E := ⟨h.nodup, fun a => by rw [h.mem]; simp⟩
theorem MapMid.fin {s s' : OP} {new : List Int} {E : List ME} (h : MapMid s new new.length E) (ht : ∀ b, TknO s'.A b ↔ TknO s.A b ∨ b ∈ new) : MapOk s' E := ⟨h.nodup, fun a => by rw [h.mem, ht, List.take_length]⟩
theorem MapMid.fresh {s : OP} {new : List Int} {k : Nat} {E : List ME} (h : MapMid s new k E) (hn : new.Nodup) (hf : ∀ a ∈ new, ¬ TknO s.A a) (hk : k < new.length) : ∀ x ∈ E, x.k ≠ new[k] := fun x hx e => by
  rcases (h.mem new[k]).1 ⟨x, hx, e⟩ with h1 | h1
  · exact hf _ (List.getElem_mem hk) h1
  · obtain ⟨j, hj, e2⟩ := List.mem_iff_getElem.1 h1
    rw [List.getElem_take] at e2
    rw [List.length_take] at hj
    have := (List.getElem_inj hn).1 e2
    omega
theorem MapMid.next {s : OP} {new : List Int} {k : Nat} {E : List ME} (h : MapMid s new k E) (hn : new.Nodup) (hf : ∀ a ∈ new, ¬ TknO s.A a) (hk : k < new.length) (v : Int) (b : Nat) : MapMid s new (k + 1) (E ++ [⟨new[k], v, b⟩]) := by
  have hfr := h.fresh hn hf hk
  refine ⟨?_, fun a => ?_⟩
  · rw [List.map_append, List.nodup_append]
    refine ⟨h.nodup, by simp, fun a ha b hb => ?_⟩
    obtain ⟨x, hx, rfl⟩ := List.mem_map.1 ha
    simp only [List.map_cons, List.map_nil, List.mem_singleton] at hb
    subst hb
    exact hfr x hx
  · rw [List.take_succ_eq_append_getElem hk, List.mem_append, ← or_assoc, ← h.mem a, List.mem_singleton]
    constructor
    · rintro ⟨x, hx, rfl⟩
      rcases List.mem_append.1 hx with hx | hx
      · exact .inl ⟨x, hx, rfl⟩
      · rw [List.mem_singleton.1 hx]; exact .inr rfl
    · rintro (⟨x, hx, rfl⟩ | rfl)
      · exact ⟨x, List.mem_append.2 (.inl hx), rfl⟩
      · exact ⟨_, List.mem_append.2 (.inr (List.mem_singleton.2 rfl)), rfl⟩
theorem SizesOk.next {s : OP} {E : List ME} (h : SizesOk s E) {a : Int} {c : Nat} (hc : c < 16) (ha : AtO s.A c a) (b : Nat) : SizesOk s (E ++ [⟨a, (szA c : Nat), b⟩]) := fun x hx => by
  rcases List.mem_append.1 hx with hx | hx
  · exact h x hx
  · rw [List.mem_singleton.1 hx]; exact ⟨c, hc, ha, rfl⟩
/-- As many entries as slots that are taken. -/
theorem MapOk.length {pages : Nat} {s : OP} {E : List ME} (hg : OInv pages s) (h : MapOk s E) : E.length = (takenOP s.A).length := by
  rw [show E.length = (E.map (·.k)).length from (List.length_map _).symm]
  apply len_of_memA h.nodup (takenOP_nodup hg)
  intro a
  rw [takenOP_mem, ← h.mem a, List.mem_map]
/-- Slots that are taken lie apart, in the memory. -/
theorem MapOk.apart {pages : Nat} {s : OP} {E : List ME} (hg : OInv pages s) (h : MapOk s E) (hs : SizesOk s E) {a : Int} (ha : TknO s.A a) : 0 ≤ a ∧ 0 < valE E a ∧ valE E a ≤ 512 ∧ a + valE E a ≤ 256 * pages ∧ ∀ b, TknO s.A b → a < b → a + valE E a ≤ b := by
  obtain ⟨c, h1, h2, h3⟩ := h.size hs ha
  have h2' := h2
  obtain ⟨x, hx, e1, i, hi, rfl⟩ := h2
  obtain rfl : x.cls = c := by omega
  have a1 := (hg.each x hx).addr_in hi
  have a2 := (hg.each x hx).fits
  have a3 := szA_pos h1
  rw [h3]
  refine ⟨by omega, by omega, ?_, by omega, ?_⟩
  · omega
  · rintro b ⟨y, hy, j, hj, -, rfl⟩ hlt
    have := hg.sep hx hy hi hj (by exact_mod_cast hlt)
    exact_mod_cast this
/-- What a call does to what is taken. -/
theorem doO_new {pages : Nat} {s : OP} (h : OGood pages s) (c : CallM) (h0 : 0 ≤ c.what) (h5 : c.what < 5) (h1 : c.what ≠ 1) (he : (doO s c).1.2 = 0) :
    (doO s c).1.1.Nodup ∧ (∀ a ∈ (doO s c).1.1, ¬ TknO s.A a ∧ AtO (doO s c).2.A c.cls a ∧ 0 ≤ c.cls ∧ c.cls < 16) ∧ (∀ b, TknO (doO s c).2.A b ↔ TknO s.A b ∨ b ∈ (doO s c).1.1) ∧ (∀ E, MapOk s E → SizesOk s E → SizesOk (doO s c).2 E) := by
  obtain ⟨what, cls, at_, n, pg⟩ := c
  simp only at h0 h5 h1 ⊢
  obtain rfl | rfl | rfl | rfl : what = 0 ∨ what = 2 ∨ what = 3 ∨ what = 4 := by omega
  · have hd : ∀ c : CallM, c.what = 0 → doO s c = (([(takeO s c.cls).1.1], (takeO s c.cls).1.2), (takeO s c.cls).2) := fun c e => by unfold doO; rw [if_pos e]
    rw [hd _ rfl] at he ⊢
    obtain ⟨t1, t2, t3, t4, t5⟩ := take_yesO h.inv he
    refine ⟨by simp, fun a ha => ?_, fun b => by rw [t2, List.mem_singleton], fun E _ hs => hs.more t4⟩
    rw [List.mem_singleton.1 ha]
    exact ⟨t1, t3, t5⟩
  · have hd : ∀ c : CallM, c.what = 2 → doO s c = someO s c.cls c.n := fun c e => by unfold doO; rw [if_neg (by omega), if_neg (by omega), if_pos e]
    rw [hd _ rfl] at he ⊢
    simp only at he ⊢
    unfold someO at he ⊢
    split at he
    · next hr =>
      rw [if_pos hr]
      obtain ⟨new, e1, e2, e3, e4, e5, e6⟩ := (some_isO n.toNat s cls [] h.inv).yes he
      rw [List.nil_append] at e1
      rw [e1]
      exact ⟨e2, fun a ha => ⟨(e3 a ha).1, (e3 a ha).2, e6 (List.ne_nil_of_mem ha)⟩, e4, fun E _ hs => hs.more e5⟩
    · cases he
  · have hd : ∀ c : CallM, c.what = 3 → doO s c = (([], (sealO s c.pg).1), (sealO s c.pg).2) := fun c e => by unfold doO; rw [if_neg (by omega), if_neg (by omega), if_neg (by omega), if_pos e]
    rw [hd _ rfl]
    have ht := (seal_invO h.inv pg).2
    exact ⟨by simp, by simp, by simpa using ht, fun E hm hs => hs.same h.inv (hm.same ht) (seal_sub s pg)⟩
  · have hd : ∀ c : CallM, c.what = 4 → doO s c = (([], (unsealO s c.pg).1), (unsealO s c.pg).2) := fun c e => by unfold doO; rw [if_neg (by omega), if_neg (by omega), if_neg (by omega), if_neg (by omega), if_pos e]
    rw [hd _ rfl]
    have ht := (unseal_invO h.inv pg).2
    exact ⟨by simp, by simp, by simpa using ht, fun E hm hs => hs.same h.inv (hm.same ht) (unseal_sub s pg)⟩
/-- An answer that isn't OK: nothing taken anew or given back. -/
theorem doO_no {pages : Nat} {s : OP} (h : OGood pages s) (c : CallM) (h0 : 0 ≤ c.what) (h5 : c.what < 5) (h1 : c.what ≠ 1) (he : (doO s c).1.2 ≠ 0) :
    (∀ b, TknO (doO s c).2.A b ↔ TknO s.A b) ∧ SubO (doO s c).2.A s.A := by
  obtain ⟨what, cls, at_, n, pg⟩ := c
  simp only at h0 h5 h1 ⊢
  obtain rfl | rfl | rfl | rfl : what = 0 ∨ what = 2 ∨ what = 3 ∨ what = 4 := by omega
  · have hd : ∀ c : CallM, c.what = 0 → doO s c = (([(takeO s c.cls).1.1], (takeO s c.cls).1.2), (takeO s c.cls).2) := fun c e => by unfold doO; rw [if_pos e]
    rw [hd _ rfl] at he ⊢
    simp only at he ⊢
    rw [take_noO h.inv he]
    exact ⟨fun _ => Iff.rfl, SubO.refl _⟩
  · have hd : ∀ c : CallM, c.what = 2 → doO s c = someO s c.cls c.n := fun c e => by unfold doO; rw [if_neg (by omega), if_neg (by omega), if_pos e]
    rw [hd _ rfl] at he ⊢
    simp only at he ⊢
    unfold someO at he ⊢
    split at he
    · next hr =>
      rw [if_pos hr, ((some_isO n.toNat s cls [] h.inv).no he).2.2]
      exact ⟨fun _ => Iff.rfl, SubO.refl _⟩
    · next hr =>
      rw [if_neg hr]
      exact ⟨fun _ => Iff.rfl, SubO.refl _⟩
  · have hd : ∀ c : CallM, c.what = 3 → doO s c = (([], (sealO s c.pg).1), (sealO s c.pg).2) := fun c e => by unfold doO; rw [if_neg (by omega), if_neg (by omega), if_neg (by omega), if_pos e]
    rw [hd _ rfl]
    exact ⟨(seal_invO h.inv pg).2, seal_sub s pg⟩
  · have hd : ∀ c : CallM, c.what = 4 → doO s c = (([], (unsealO s c.pg).1), (unsealO s c.pg).2) := fun c e => by unfold doO; rw [if_neg (by omega), if_neg (by omega), if_neg (by omega), if_neg (by omega), if_pos e]
    rw [hd _ rfl]
    exact ⟨(unseal_invO h.inv pg).2, unseal_sub s pg⟩

theorem doO_give {s : OP} (c : CallM) (e : c.what = 1) : doO s c = (([], (giveO s c.at_).1), (giveO s c.at_).2) := by
  unfold doO
  rw [if_neg (by omega), if_pos e]
theorem new_le {pages : Nat} {s : OP} (h : OInv pages s) {new : List Int} (hn : new.Nodup) (hs : ∀ a ∈ new, TknO s.A a) : new.length ≤ (takenOP s.A).length := by
  exact nodup_subO hn fun a ha => takenOP_mem.2 (hs a ha)

end Go.Proofs.YtlljejmblmjjnaaGreatDoor

/- A law's own map of ints: asked, written, struck; what OldheapApart's walk keeps. (printed by gen_tj.py) -/
namespace Go.Proofs.YtlljejmblmjjnaaGreatDoor
set_option linter.unusedVariables false
set_option linter.unusedSimpArgs false
open Go.RowKit Go.ChangeMaps

def mentry (f : Int → Value) (y : ME) : MapEntry := { key := .int .i64 y.k, val := f y.v, born := y.born }
def findM (k : Int) : List ME → Nat → Option (Nat × ME)
  | [], _ => none
  | x :: l, i => if x.k = k then some (i, x) else findM k l (i + 1)
theorem findNow_m (f : Int → Value) (k : Int) : ∀ (l : List ME) (i : Nat), Instr.findNow (.int .i64) (.int .i64 k) (l.map (mentry f)) i = some ((findM k l i).map fun p => (p.1, f p.2.v))
  | [], i => rfl
  | x :: l, i => by
    by_cases h : x.k = k
    · simp [Instr.findNow, mentry, Instr.sameNow, findM, h]
    · have h1 : (k == x.k) = false := by simp [Ne.symm h]
      have ih := findNow_m f k l (i + 1)
      simp only [List.map_cons, Instr.findNow, mentry, Instr.sameNow, if_true, h1, findM, h, if_false]
      simpa [mentry] using ih
theorem findM_find (k : Int) : ∀ (l : List ME) (i : Nat), (findM k l i).map (·.2) = l.find? fun x => x.k == k
  | [], _ => rfl
  | x :: l, i => by
    by_cases h : x.k = k
    · simp [findM, h]
    · simp [findM, h, findM_find k l (i + 1)]
theorem findM_erase (k : Int) : ∀ (l : List ME) (i j : Nat) (x : ME), findM k l i = some (j, x) → (l.map (·.k)).Nodup → i ≤ j ∧ l.eraseIdx (j - i) = l.filter fun y => y.k != k
  | [], i, j, x, h, _ => by simp [findM] at h
  | y :: l, i, j, x, h, hn => by
    simp only [List.map_cons, List.nodup_cons] at hn
    by_cases e : y.k = k
    · simp only [findM, e, if_true, Option.some.injEq, Prod.mk.injEq] at h
      obtain ⟨rfl, rfl⟩ := h
      refine ⟨Nat.le_refl _, ?_⟩
      simp only [Nat.sub_self, List.eraseIdx_zero, List.tail_cons, List.filter_cons, e, bne_self_eq_false, Bool.false_eq_true, if_false]
      symm
      rw [List.filter_eq_self]
      intro z hz
      have : z.k ≠ k := fun ez => hn.1 (by rw [e]; exact List.mem_map.2 ⟨z, hz, ez⟩)
      simp [this]
    · simp only [findM, e, if_false] at h
      obtain ⟨h1, h2⟩ := findM_erase k l (i + 1) j x h hn.2
      refine ⟨by omega, ?_⟩
      rw [show j - i = (j - (i + 1)) + 1 from by omega, List.eraseIdx_cons_succ, h2]
      simp [e]
theorem findM_none (k : Int) (l : List ME) (i : Nat) (h : findM k l i = none) : ∀ x ∈ l, x.k ≠ k := by
  have h1 := findM_find k l i
  rw [h] at h1
  intro x hx e
  have := (List.find?_eq_none.1 h1.symm) x hx
  simp [e] at this

theorem und_imap : Tryz.prog.underlying 29 = some (.map 3 3) := by kernel_rfl
theorem zero_int' : ∀ w, (zeroValue 3).run Tryz.prog w = .ok (.int .i64 0) w := fun w => by kernel_rfl
/-- The map of a law: where it lies, what stands in it. -/
def MapAt' (w : World) (mb : Nat) (f : Int → Value) (E : List ME) : Prop := ∃ clk, w.heap[mb]? = some (.map (E.map (mentry f)).toArray clk)
theorem MapAt'.turned {F : Nat → Prop} {w w' : World} {mb : Nat} {f : Int → Value} {E : List ME} (h : MapAt' w mb f E) (t : Turned F w w') (hF : ¬ F mb) : MapAt' w' mb f E := by
  obtain ⟨clk, h⟩ := h
  exact ⟨clk, (t.block _ (lt_of_block h) hF).trans h⟩
theorem MapAt'.below {w w' : World} {mb : Nat} {f : Int → Value} {E : List ME} (h : MapAt' w mb f E) (hb : Below w.heap.size w w') : MapAt' w' mb f E := by
  obtain ⟨clk, h⟩ := h
  exact ⟨clk, (hb.block _ (lt_of_block h)).trans h⟩
theorem MapAt'.lt {w : World} {mb : Nat} {f : Int → Value} {E : List ME} (h : MapAt' w mb f E) : mb < w.heap.size := by
  obtain ⟨clk, h⟩ := h
  exact lt_of_block h

theorem run_lookup_m {mt et : TypeId} {f : Int → Value} (hu : Tryz.prog.underlying mt = some (.map 3 et)) (hz : ∀ w, (zeroValue et).run Tryz.prog w = .ok (f 0) w) {w : World} {mb : Nat} {E : List ME} (h : MapAt' w mb f E) (k : Int) :
    (Instr.lookup mt (.map (some mb)) (.int .i64 k) false).run Tryz.prog w = .ok (f (valE E k)) w := by
  obtain ⟨clk, h⟩ := h
  have e : valE E k = match findM k E 0 with | some p => p.2.v | none => 0 := by
    unfold valE
    rw [← findM_find k E 0]
    cases findM k E 0 <;> rfl
  rw [e]
  have hf : ∀ w, (Instr.findKey 3 (.int .i64 k) (E.map (mentry f))).run Tryz.prog w = .ok ((findM k E 0).map fun p => (p.1, f p.2.v)) w := fun w => by
    simp [Instr.findKey, run_underlying und_intK, findNow_m]
  simp only [Instr.lookup, Sem.run_bind, run_underlying hu, Result.andThen, MapKept.run_getObj_map h, checkKey_intK]
  simp only [hf, Sem.run_pure]
  cases findM k E 0 with
  | none => simp [hz]
  | some p => simp
theorem run_update_m {mt et : TypeId} {f : Int → Value} (hu : Tryz.prog.underlying mt = some (.map 3 et)) {w : World} {mb : Nat} {E : List ME} (h : MapAt' w mb f E) (k : Int) (hk : ∀ x ∈ E, x.k ≠ k) (v : Int) :
    ∃ b blk, (Instr.mapUpdate mt (.map (some mb)) (.int .i64 k) (f v)).run Tryz.prog w = .ok () (setBlock w mb blk) ∧ MapAt' (setBlock w mb blk) mb f (E ++ [⟨k, v, b⟩]) := by
  have hlt := h.lt
  obtain ⟨clk, h⟩ := h
  have hn : findM k E 0 = none := by
    cases e : findM k E 0 with
    | none => rfl
    | some p =>
      have h1 := findM_find k E 0
      rw [e] at h1
      have h2 := List.find?_some h1.symm
      have h3 := List.mem_of_find?_eq_some h1.symm
      simp at h2
      exact absurd h2 (hk _ h3)
  have hf : ∀ w, (Instr.findKey 3 (.int .i64 k) (E.map (mentry f))).run Tryz.prog w = .ok ((findM k E 0).map fun p => (p.1, f p.2.v)) w := fun w => by
    simp [Instr.findKey, run_underlying und_intK, findNow_m]
  refine ⟨clk, .map ((E.map (mentry f)) ++ [MapEntry.mk (.int .i64 k) (f v) clk]).toArray (clk + 1), ?_, clk + 1, ?_⟩
  · simp only [Instr.mapUpdate, Sem.run_bind, run_underlying hu, Result.andThen, MapKept.run_getObj_map h, checkKey_intK]
    simp only [hf, hn, Option.map_none]
    simp [MapKept.run_setObj_map _ h, setBlock]
  · rw [List.map_append]
    rw [heap_setBlock_eq hlt]
    simp [mentry]
theorem run_delete_m {mt et : TypeId} {f : Int → Value} (hu : Tryz.prog.underlying mt = some (.map 3 et)) {w : World} {mb : Nat} {E : List ME} (h : MapAt' w mb f E) (hn : (E.map (·.k)).Nodup) (k : Int) :
    ∃ blk, (∀ ty, (Builtin.delete_ #[mt, 3] ty #[.map (some mb), .int .i64 k]).run Tryz.prog w = .ok (.tuple #[]) (setBlock w mb blk)) ∧ MapAt' (setBlock w mb blk) mb f (E.filter fun y => y.k != k) := by
  have hlt := h.lt
  obtain ⟨clk, h⟩ := h
  have hf : ∀ w, (Instr.findKey 3 (.int .i64 k) (E.map (mentry f))).run Tryz.prog w = .ok ((findM k E 0).map fun p => (p.1, f p.2.v)) w := fun w => by
    simp [Instr.findKey, run_underlying und_intK, findNow_m]
  refine ⟨.map ((E.filter fun y => y.k != k).map (mentry f)).toArray clk, fun ty => ?_, clk, heap_setBlock_eq hlt _⟩
  simp only [Builtin.delete_, List.getElem?_toArray, List.getElem?_cons_zero, List.getElem?_cons_succ, Sem.run_bind, run_underlying hu, Result.andThen, MapKept.run_getObj_map h, checkKey_intK]
  simp only [hf]
  cases e : findM k E 0 with
  | none =>
    have : E.filter (fun y => y.k != k) = E := by
      rw [List.filter_eq_self]
      intro x hx
      simpa using findM_none k E 0 e x hx
    rw [this]
    simp [MapKept.run_setObj_map _ h, setBlock]
  | some p =>
    obtain ⟨_, h2⟩ := findM_erase k E 0 p.1 p.2 e hn
    rw [← h2]
    simp [MapKept.run_setObj_map _ h, setBlock, ChangeMaps.map_eraseIdx]
theorem run_len_m {mt et : TypeId} {f : Int → Value} (hu : Tryz.prog.underlying mt = some (.map 3 et)) {w : World} {mb : Nat} {E : List ME} (h : MapAt' w mb f E) (ty : TypeId) :
    (Builtin.len_ #[mt] ty #[.map (some mb)]).run Tryz.prog w = .ok (.int .i64 E.length) w := by
  obtain ⟨clk, h⟩ := h
  simp [Builtin.len_, run_underlying hu, MapKept.run_getObj_map h, goInt]

theorem tail_two {α β : Type} {P G : α → β → Prop} {Goal : Prop} (h1 : (∀ a b, P a b → G a b) → Goal) (h2 : ∀ a b, P a b → G a b) : Goal := h1 h2
theorem QuietI.turned {F : Nat → Prop} {w w1 w2 : World} {x : Nat} {lv : Value} {H : OHL} {pages : Nat} {s : OP} (h : QuietI w w1 x lv H pages s) (t : Turned F w1 w2) (hF : ∀ k, H.F k → ¬ F k) (hx : ¬ F x) (h0 : ¬ F 0) (hL : ∀ g cs, w1.heap[g]? = some (.cells cs 42 (0, 0)) → ¬ F g) (hB : ∀ k, F k → w.heap.size ≤ k) : QuietI w w2 x lv H pages s :=
  ⟨⟨(t.block _ (lt_of_block h.at_.obj) hx).trans h.at_.obj, ownsRow_turned t h.at_.row hL, h.at_.heap.turned t h0 hF⟩, h.good, h.left, h.foot, h.x, h.below.trans (t.below hB h.below.size)⟩
/-- The heap stands, and the law's own map beside it. -/
structure ApartI (w wr : World) (x : Nat) (lv : Value) (H : OHL) (pages : Nat) (s : OP) (mb : Nat) (f : Int → Value) (E : List ME) : Prop where
  q : QuietI w wr x lv H pages s
  map : MapAt' wr mb f E
  off : ¬ H.F mb
  ne : mb ≠ x
  low : w.heap.size ≤ mb
  pos : 0 < w.heap.size
theorem ApartI.below' {w w1 w2 : World} {x : Nat} {lv : Value} {H : OHL} {pages : Nat} {s : OP} {mb : Nat} {f : Int → Value} {E : List ME} (h : ApartI w w1 x lv H pages s mb f E) (hb : Below w1.heap.size w1 w2) : ApartI w w2 x lv H pages s mb f E :=
  ⟨h.q.below' hb, h.map.below hb, h.off, h.ne, h.low, h.pos⟩
/-- A call on the heap. -/
theorem ApartI.done {w w1 w2 : World} {x : Nat} {lv : Value} {H : OHL} {pages : Nat} {s s' : OP} {mb : Nat} {f : Int → Value} {E : List ME} {res : List Int} {err : Int} {e : Ending} (h : ApartI w w1 x lv H pages s mb f E) (hg : OGood pages s') (hp : DoPost w1 x w.heap.size lv H pages s s' res err e w2) :
    ∃ v H', e = .returned (.tuple #[v, .int .i64 err]) ∧ Ints w2 w1.heap.size v res ∧ ApartI w w2 x lv H' pages s' mb f E ∧ H'.h = H.h ∧ H'.gr = H.gr ∧ Turned H.F w1 w2 := by
  obtain ⟨v, H', p1, p2, p3, p4, p5, p6, p7, p8⟩ := hp
  exact ⟨v, H', p1, p2, ⟨h.q.next p3 hg p4 p5 p6 p7 p8, h.map.turned p8 h.off, fun hk => (p7.foot _ hk).elim h.off (fun hh => by have := h.map.lt; omega), h.ne, h.low, h.pos⟩, p7.h, p7.gr, p8⟩
/-- A write into the map. -/
theorem ApartI.wrote {w w1 : World} {x : Nat} {lv : Value} {H : OHL} {pages : Nat} {s : OP} {mb : Nat} {f : Int → Value} {E E' : List ME} {blk : Obj} (h : ApartI w w1 x lv H pages s mb f E) (hm : MapAt' (setBlock w1 mb blk) mb f E') : ApartI w (setBlock w1 mb blk) x lv H pages s mb f E' := by
  have t : Turned (fun k => k = mb) w1 (setBlock w1 mb blk) := Turned.setBlock (F := fun k => k = mb) (Turned.refl _ _) (.inl rfl) _
  exact ⟨h.q.turned t (fun k hk e => h.off (e ▸ hk)) (fun e => h.ne e.symm) (fun e => by have := h.low; have := h.pos; omega) (fun g cs hg e => by obtain ⟨clk, hm⟩ := h.map; rw [e, hm] at hg; cases hg) (fun k e => by have := h.low; omega), hm, h.off, h.ne, h.low, h.pos⟩
theorem ApartI.start {w w1 : World} {x : Nat} {lv : Value} {H : OHL} {pages : Nat} {s : OP} (h : QuietI w w1 x lv H pages s) (h0 : 0 < w.heap.size) (f : Int → Value) : ApartI w (w1.alloc (.map #[] 0)) x lv H pages s w1.heap.size f [] := by
  have hb : Below w1.heap.size w1 (w1.alloc (.map #[] 0)) := Below.alloc (Below.refl _ _) (Nat.le_refl _) _
  refine ⟨h.below' hb, ⟨0, heap_alloc_new _ _⟩, fun hk => ?_, ?_, h.below.size, h0⟩
  · have := h.at_.heap.F_lt _ hk
    omega
  · have := lt_of_block h.at_.obj
    omega
theorem taken_bound {w w1 : World} {x : Nat} {lv : Value} {H : OHL} {pages : Nat} {s : OP} (h : QuietI w w1 x lv H pages s) : (takenOP s.A).length ≤ 10000 := by
  obtain ⟨bd1, bd2, bd3⟩ := h.at_.heap.bound
  have h1 := takenOP_bound h.good.inv.each
  omega
theorem s0_ok (pages : Nat) : MapOk (s0 pages) [] ∧ SizesOk (s0 pages) [] :=
  ⟨⟨List.nodup_nil, fun a => ⟨fun ⟨x, hx, _⟩ => (by cases hx), fun ⟨x, hx, _⟩ => (by cases hx)⟩⟩, fun x hx => (by cases hx)⟩

end Go.Proofs.YtlljejmblmjjnaaGreatDoor
