/- What is held, by address: plain lists (NewheapApart, NewheapBytes). -/
import Derived.Test.YtlljejmblmjjnaaGreatMp
import Derived.Test.YtlljejmblmjjnaaGreatLC
namespace Go.Proofs.YtlljejmblmjjnaaGreat
set_option linter.unusedVariables false
set_option linter.unusedSimpArgs false

theorem give_sub (s : HP) (a : Int) : SubA (giveP s a).2.A s.A := by
  have hi := giveP_is s a
  revert hi
  generalize giveP s a = q
  intro hi
  cases hi with
  | none => exact SubA.refl _
  | slot => exact SubA.refl _
  | twice => exact SubA.refl _
  | close x k hn hs hk he hc => exact fun z hz => ⟨z, (delP_mem.1 hz).1, rfl, rfl⟩
  | stay x k hn hs hk hc =>
    have hx := (nearP_mem hn).1
    intro z hz
    rcases (updP_mem (x := { x with L := k :: x.L }) ⟨x, hx, rfl⟩).1 hz with rfl | ⟨h1, -⟩
    · exact ⟨x, hx, rfl, rfl⟩
    · exact ⟨z, h1, rfl, rfl⟩
theorem mark_sub {A : List PS} {x : PS} (hx : x ∈ A) (b : Bool) : SubA (updP A { x with sealed := b }) A := by
  intro z hz
  rcases (updP_mem (x := { x with sealed := b }) ⟨x, hx, rfl⟩).1 hz with rfl | ⟨h1, -⟩
  · exact ⟨x, hx, rfl, rfl⟩
  · exact ⟨z, h1, rfl, rfl⟩
theorem seal_sub (s : HP) (p : Int) : SubA (sealP s p).2.A s.A := by
  have hi := sealP_is s p
  revert hi
  generalize sealP s p = q
  intro hi
  cases hi with
  | none => exact SubA.refl _
  | state => exact SubA.refl _
  | close x hg hs he => exact fun z hz => ⟨z, (delP_mem.1 hz).1, rfl, rfl⟩
  | mark x hg hs he => exact mark_sub (getP_mem hg).1 _
theorem unseal_sub (s : HP) (p : Int) : SubA (unsealP s p).2.A s.A := by
  have hi := unsealP_is s p
  revert hi
  generalize unsealP s p = q
  intro hi
  cases hi with
  | none => exact SubA.refl _
  | state => exact SubA.refl _
  | mark x hg hs => exact mark_sub (getP_mem hg).1 _
theorem AtA.uniq {pages : Nat} {s : HP} (h : HInv pages s) {c d a : Int} (h1 : AtA s.A c a) (h2 : AtA s.A d a) : c = d := by
  obtain ⟨x, hx, e1, i, hi, rfl⟩ := h1
  obtain ⟨y, hy, e2, j, hj, e⟩ := h2
  have := (h.tkn_uniq hx hy hi hj (by exact_mod_cast e)).1
  rw [← e1, ← e2, this]
theorem Tkn.at {A : List PS} {a : Int} (h : Tkn A a) : ∃ c : Int, AtA A c a := by
  obtain ⟨x, hx, k, h1, -, h2⟩ := h
  exact ⟨x.cls, x, hx, rfl, k, h1, h2⟩
/-- An address that stays taken stays a slot of its class. -/
theorem AtA.keep {pages : Nat} {s s' : HP} (h : HInv pages s) {c a : Int} (h1 : AtA s.A c a) (ht : Tkn s'.A a) (hs : SubA s'.A s.A) : AtA s'.A c a := by
  obtain ⟨d, hd⟩ := ht.at
  rw [h1.uniq h (hd.sub hs)]
  exact hd

theorem len_of_memA {l m : List Int} (hl : l.Nodup) (hm : m.Nodup) (h : ∀ a, a ∈ l ↔ a ∈ m) : l.length = m.length :=
  Nat.le_antisymm (nodup_sub hl fun a ha => (h a).1 ha) (nodup_sub hm fun a ha => (h a).2 ha)
/-- A map of ints: key, value, when it was born. -/
structure ME where
  k : Int
  v : Int
  born : Nat
def valE (E : List ME) (a : Int) : Int := match E.find? fun x => x.k == a with | some x => x.v | none => 0
theorem valE_in {E : List ME} {a : Int} {x : ME} (hn : (E.map (·.k)).Nodup) (hx : x ∈ E) (ha : x.k = a) : valE E a = x.v := by
  unfold valE
  cases hf : E.find? fun x => x.k == a with
  | none =>
    rw [List.find?_eq_none] at hf
    exact absurd (by simpa using ha) (hf x hx)
  | some y =>
    have h1 := List.mem_of_find?_eq_some hf
    have h2 := List.find?_some hf
    simp only [beq_iff_eq] at h2
    have := nodup_uniq hn h1 hx (h2.trans ha.symm)
    rw [this]
theorem valE_out {E : List ME} {a : Int} (h : ∀ x ∈ E, x.k ≠ a) : valE E a = 0 := by
  unfold valE
  cases hf : E.find? fun x => x.k == a with
  | none => rfl
  | some y =>
    have h1 := List.mem_of_find?_eq_some hf
    have h2 := List.find?_some hf
    simp only [beq_iff_eq] at h2
    exact absurd h2 (h y h1)
/-- The map's keys are what is taken; its values are f. -/
structure MapOk (s : HP) (E : List ME) : Prop where
  nodup : (E.map (·.k)).Nodup
  mem : ∀ a, (∃ x ∈ E, x.k = a) ↔ Tkn s.A a
/-- The values are the sizes of the slots. -/
def SizesOk (s : HP) (E : List ME) : Prop := ∀ x ∈ E, ∃ c : Nat, c < 12 ∧ AtA s.A c x.k ∧ x.v = (szB c : Nat)
theorem MapOk.val {s : HP} {E : List ME} (h : MapOk s E) {a : Int} (ht : ¬ Tkn s.A a) : valE E a = 0 := valE_out fun x hx e => ht ((h.mem a).1 ⟨x, hx, e⟩)
theorem MapOk.size {s : HP} {E : List ME} (h : MapOk s E) (hs : SizesOk s E) {a : Int} (ht : Tkn s.A a) : ∃ c : Nat, c < 12 ∧ AtA s.A c a ∧ valE E a = (szB c : Nat) := by
  obtain ⟨x, hx, rfl⟩ := (h.mem a).2 ht
  obtain ⟨c, h1, h2, h3⟩ := hs x hx
  exact ⟨c, h1, h2, by rw [valE_in h.nodup hx rfl, h3]⟩
theorem MapOk.pos {s : HP} {E : List ME} (h : MapOk s E) (hs : SizesOk s E) (a : Int) : 0 < valE E a ↔ Tkn s.A a := by
  constructor
  · intro hv
    apply Classical.byContradiction
    intro ht
    rw [h.val ht] at hv
    omega
  · intro ht
    obtain ⟨c, h1, -, h3⟩ := h.size hs ht
    have := szB_pos h1
    omega
theorem MapOk.same {s s' : HP} {E : List ME} (h : MapOk s E) (ht : ∀ a, Tkn s'.A a ↔ Tkn s.A a) : MapOk s' E := ⟨h.nodup, fun a => (h.mem a).trans (ht a).symm⟩
theorem SizesOk.same {pages : Nat} {s s' : HP} {E : List ME} (hg : HInv pages s) (h : SizesOk s E) (hm : MapOk s' E) (hs : SubA s'.A s.A) : SizesOk s' E := fun x hx => by
  obtain ⟨c, h1, h2, h3⟩ := h x hx
  exact ⟨c, h1, h2.keep hg ((hm.mem _).1 ⟨x, hx, rfl⟩) hs, h3⟩
theorem SizesOk.more {s s' : HP} {E : List ME} (h : SizesOk s E) (hs : SubA s.A s'.A) : SizesOk s' E := fun x hx => by
  obtain ⟨c, h1, h2, h3⟩ := h x hx
  exact ⟨c, h1, h2.sub hs, h3⟩
theorem MapOk.del {s s' : HP} {E : List ME} {at_ : Int} (h : MapOk s E) (ht : ∀ b, Tkn s'.A b ↔ Tkn s.A b ∧ b ≠ at_) : MapOk s' (E.filter fun x => x.k != at_) := by
  refine ⟨h.nodup.sublist ((List.filter_sublist).map _), fun a => ?_⟩
  rw [ht, ← h.mem a]
  constructor
  · rintro ⟨x, hx, rfl⟩
    obtain ⟨h1, h2⟩ := List.mem_filter.1 hx
    exact ⟨⟨x, h1, rfl⟩, by simpa using h2⟩
  · rintro ⟨⟨x, hx, rfl⟩, h2⟩
    exact ⟨x, List.mem_filter.2 ⟨hx, by simpa using h2⟩, rfl⟩
theorem SizesOk.del {s : HP} {E : List ME} (h : SizesOk s E) (p : ME → Bool) : SizesOk s (E.filter p) := fun x hx => h x (List.mem_filter.1 hx).1
/-- The slots of new are laid into the map, one after the other: the map stands between what was taken and what is. -/
structure MapMid (s : HP) (new : List Int) (k : Nat) (E : List ME) : Prop where
  nodup : (E.map (·.k)).Nodup
  mem : ∀ a, (∃ x ∈ E, x.k = a) ↔ Tkn s.A a ∨ a ∈ new.take k
theorem MapMid.start {s : HP} {E : List ME} (h : MapOk s E) (new : List Int) : MapMid s new 0 E := ⟨h.nodup, fun a => by rw [h.mem]; simp⟩
theorem MapMid.fin {s s' : HP} {new : List Int} {E : List ME} (h : MapMid s new new.length E) (ht : ∀ b, Tkn s'.A b ↔ Tkn s.A b ∨ b ∈ new) : MapOk s' E := ⟨h.nodup, fun a => by rw [h.mem, ht, List.take_length]⟩
theorem MapMid.fresh {s : HP} {new : List Int} {k : Nat} {E : List ME} (h : MapMid s new k E) (hn : new.Nodup) (hf : ∀ a ∈ new, ¬ Tkn s.A a) (hk : k < new.length) : ∀ x ∈ E, x.k ≠ new[k] := fun x hx e => by
  rcases (h.mem new[k]).1 ⟨x, hx, e⟩ with h1 | h1
  · exact hf _ (List.getElem_mem hk) h1
  · obtain ⟨j, hj, e2⟩ := List.mem_iff_getElem.1 h1
    rw [List.getElem_take] at e2
    rw [List.length_take] at hj
    have := (List.getElem_inj hn).1 e2
    omega
theorem MapMid.next {s : HP} {new : List Int} {k : Nat} {E : List ME} (h : MapMid s new k E) (hn : new.Nodup) (hf : ∀ a ∈ new, ¬ Tkn s.A a) (hk : k < new.length) (v : Int) (b : Nat) : MapMid s new (k + 1) (E ++ [⟨new[k], v, b⟩]) := by
  have hfr := h.fresh hn hf hk
  refine ⟨?_, fun a => ?_⟩
  · rw [List.map_append, List.nodup_append]
    refine ⟨h.nodup, by simp, fun a ha b hb => ?_⟩
    obtain ⟨x, hx, rfl⟩ := List.mem_map.1 ha
    simp only [List.map_cons, List.map_nil, List.mem_singleton] at hb
    subst hb
    exact hfr x hx
  · rw [List.take_succ_eq_append_getElem hk, List.mem_append, ← or_assoc, ← h.mem a, List.mem_singleton]
    constructor
    · rintro ⟨x, hx, rfl⟩
      rcases List.mem_append.1 hx with hx | hx
      · exact .inl ⟨x, hx, rfl⟩
      · rw [List.mem_singleton.1 hx]; exact .inr rfl
    · rintro (⟨x, hx, rfl⟩ | rfl)
      · exact ⟨x, List.mem_append.2 (.inl hx), rfl⟩
      · exact ⟨_, List.mem_append.2 (.inr (List.mem_singleton.2 rfl)), rfl⟩
theorem SizesOk.next {s : HP} {E : List ME} (h : SizesOk s E) {a : Int} {c : Nat} (hc : c < 12) (ha : AtA s.A c a) (b : Nat) : SizesOk s (E ++ [⟨a, (szB c : Nat), b⟩]) := fun x hx => by
  rcases List.mem_append.1 hx with hx | hx
  · exact h x hx
  · rw [List.mem_singleton.1 hx]; exact ⟨c, hc, ha, rfl⟩
/-- As many entries as slots that are taken. -/
theorem MapOk.length {pages : Nat} {s : HP} {E : List ME} (hg : HInv pages s) (h : MapOk s E) : E.length = (takenP s.A).length := by
  rw [show E.length = (E.map (·.k)).length from (List.length_map _).symm]
  apply len_of_memA h.nodup (takenP_nodup hg)
  intro a
  rw [takenP_mem, ← h.mem a, List.mem_map]
/-- Slots that are taken lie apart, in the memory. -/
theorem MapOk.apart {pages : Nat} {s : HP} {E : List ME} (hg : HInv pages s) (h : MapOk s E) (hs : SizesOk s E) {a : Int} (ha : Tkn s.A a) : 0 ≤ a ∧ 0 < valE E a ∧ valE E a ≤ 512 ∧ a + valE E a ≤ 256 * pages ∧ ∀ b, Tkn s.A b → a < b → a + valE E a ≤ b := by
  obtain ⟨c, h1, h2, h3⟩ := h.size hs ha
  have h2' := h2
  obtain ⟨x, hx, e1, i, hi, rfl⟩ := h2
  obtain rfl : x.cls = c := by omega
  have a1 := (hg.each x hx).addr_in hi
  have a2 := (hg.each x hx).fits
  have a3 := szB_pos h1
  rw [h3]
  refine ⟨by omega, by omega, ?_, by omega, ?_⟩
  · have : ∀ c, c < 12 → szB c ≤ 512 := by decide
    have := this _ h1
    omega
  · rintro b ⟨y, hy, j, hj, -, rfl⟩ hlt
    have := hg.sep hx hy hi hj (by exact_mod_cast hlt)
    exact_mod_cast this
/-- What a call does to what is taken. -/
theorem doP_new {pages : Nat} {s : HP} (h : HGood pages s) (c : CallM) (h0 : 0 ≤ c.what) (h5 : c.what < 5) (h1 : c.what ≠ 1) (he : (doP s c).1.2 = 0) :
    (doP s c).1.1.Nodup ∧ (∀ a ∈ (doP s c).1.1, ¬ Tkn s.A a ∧ AtA (doP s c).2.A c.cls a ∧ 0 ≤ c.cls ∧ c.cls < 12) ∧ (∀ b, Tkn (doP s c).2.A b ↔ Tkn s.A b ∨ b ∈ (doP s c).1.1) ∧ (∀ E, MapOk s E → SizesOk s E → SizesOk (doP s c).2 E) := by
  obtain ⟨what, cls, at_, n, pg, p, len, cap⟩ := c
  simp only at h0 h5 h1 ⊢
  obtain rfl | rfl | rfl | rfl : what = 0 ∨ what = 2 ∨ what = 3 ∨ what = 4 := by omega
  · have hd : ∀ c : CallM, c.what = 0 → doP s c = (([(takeP s c.cls).1.1], (takeP s c.cls).1.2), (takeP s c.cls).2) := fun c e => by unfold doP; rw [if_pos e]
    rw [hd _ rfl] at he ⊢
    obtain ⟨t1, t2, t3, t4, t5⟩ := take_yes' h he
    refine ⟨by simp, fun a ha => ?_, fun b => by rw [t2, List.mem_singleton], fun E _ hs => hs.more t4⟩
    rw [List.mem_singleton.1 ha]
    exact ⟨t1, t3, t5⟩
  · have hd : ∀ c : CallM, c.what = 2 → doP s c = someP s c.cls c.n := fun c e => by unfold doP; rw [if_neg (by omega), if_neg (by omega), if_pos e]
    rw [hd _ rfl] at he ⊢
    simp only at he ⊢
    unfold someP at he ⊢
    split at he
    · next hr =>
      rw [if_pos hr]
      obtain ⟨new, e1, e2, e3, e4, e5, e6⟩ := (some_is n.toNat s cls [] h).yes he
      rw [List.nil_append] at e1
      rw [e1]
      exact ⟨e2, fun a ha => ⟨(e3 a ha).1, (e3 a ha).2, e6 (List.ne_nil_of_mem ha)⟩, e4, fun E _ hs => hs.more e5⟩
    · cases he
  · have hd : ∀ c : CallM, c.what = 3 → doP s c = (([], (sealP s c.pg).1), (sealP s c.pg).2) := fun c e => by unfold doP; rw [if_neg (by omega), if_neg (by omega), if_neg (by omega), if_pos e]
    rw [hd _ rfl]
    have ht := (seal_good h pg).2
    exact ⟨by simp, by simp, by simpa using ht, fun E hm hs => hs.same h.inv (hm.same ht) (seal_sub s pg)⟩
  · have hd : ∀ c : CallM, c.what = 4 → doP s c = (([], (unsealP s c.pg).1), (unsealP s c.pg).2) := fun c e => by unfold doP; rw [if_neg (by omega), if_neg (by omega), if_neg (by omega), if_neg (by omega), if_pos e]
    rw [hd _ rfl]
    have ht := (unseal_good h pg).2
    exact ⟨by simp, by simp, by simpa using ht, fun E hm hs => hs.same h.inv (hm.same ht) (unseal_sub s pg)⟩
/-- An answer that isn't OK: nothing taken anew or given back. -/
theorem doP_no {pages : Nat} {s : HP} (h : HGood pages s) (c : CallM) (h0 : 0 ≤ c.what) (h5 : c.what < 5) (h1 : c.what ≠ 1) (he : (doP s c).1.2 ≠ 0) :
    (∀ b, Tkn (doP s c).2.A b ↔ Tkn s.A b) ∧ SubA (doP s c).2.A s.A := by
  obtain ⟨what, cls, at_, n, pg, p, len, cap⟩ := c
  simp only at h0 h5 h1 ⊢
  obtain rfl | rfl | rfl | rfl : what = 0 ∨ what = 2 ∨ what = 3 ∨ what = 4 := by omega
  · have hd : ∀ c : CallM, c.what = 0 → doP s c = (([(takeP s c.cls).1.1], (takeP s c.cls).1.2), (takeP s c.cls).2) := fun c e => by unfold doP; rw [if_pos e]
    rw [hd _ rfl] at he ⊢
    simp only at he ⊢
    rw [take_no' h.inv he]
    exact ⟨fun _ => Iff.rfl, SubA.refl _⟩
  · have hd : ∀ c : CallM, c.what = 2 → doP s c = someP s c.cls c.n := fun c e => by unfold doP; rw [if_neg (by omega), if_neg (by omega), if_pos e]
    rw [hd _ rfl] at he ⊢
    simp only at he ⊢
    unfold someP at he ⊢
    split at he
    · next hr =>
      rw [if_pos hr, ((some_is n.toNat s cls [] h).no he).2.2]
      exact ⟨fun _ => Iff.rfl, SubA.refl _⟩
    · next hr =>
      rw [if_neg hr]
      exact ⟨fun _ => Iff.rfl, SubA.refl _⟩
  · have hd : ∀ c : CallM, c.what = 3 → doP s c = (([], (sealP s c.pg).1), (sealP s c.pg).2) := fun c e => by unfold doP; rw [if_neg (by omega), if_neg (by omega), if_neg (by omega), if_pos e]
    rw [hd _ rfl]
    exact ⟨(seal_good h pg).2, seal_sub s pg⟩
  · have hd : ∀ c : CallM, c.what = 4 → doP s c = (([], (unsealP s c.pg).1), (unsealP s c.pg).2) := fun c e => by unfold doP; rw [if_neg (by omega), if_neg (by omega), if_neg (by omega), if_neg (by omega), if_pos e]
    rw [hd _ rfl]
    exact ⟨(unseal_good h pg).2, unseal_sub s pg⟩

theorem doP_give {s : HP} (c : CallM) (e : c.what = 1) : doP s c = (([], (giveP s c.at_).1), (giveP s c.at_).2) := by
  unfold doP
  rw [if_neg (by omega), if_pos e]
theorem new_le {pages : Nat} {s : HP} (h : HInv pages s) {new : List Int} (hn : new.Nodup) (hs : ∀ a ∈ new, Tkn s.A a) : new.length ≤ (takenP s.A).length := by
  exact nodup_sub hn fun a ha => takenP_mem.2 (hs a ha)

end Go.Proofs.YtlljejmblmjjnaaGreat
