/- All slots given back: plain lists. -/
import Derived.Test.YtlljejmblmjjnaaGreatMm
namespace Go.Proofs.YtlljejmblmjjnaaGreat
set_option linter.unusedVariables false
set_option linter.unusedSimpArgs false

theorem takenL_srt (S : SM) : (takenL S).Pairwise (· < ·) := by
  unfold takenL
  exact List.Pairwise.filter _ List.pairwise_lt_range
/-- Slots of one heap lie apart. -/
theorem HInv.sep {pages : Nat} {s : HP} (h : HInv pages s) {x y : PS} (hx : x ∈ s.A) (hy : y ∈ s.A) {i j : Nat} (hi : i < slB x.cls) (hj : j < slB y.cls) (hlt : x.addr i < y.addr j) : x.addr i + szB x.cls ≤ y.addr j := by
  have a1 := (h.each x hx).addr_in hi
  have a2 := (h.each y hy).addr_in hj
  have m1 := (h.each x hx).al
  have m2 := (h.each y hy).al
  by_cases e : x.page = y.page
  · obtain rfl := h.same hx hy e
    unfold PS.addr at *
    have : i < j := by
      apply Nat.lt_of_not_le
      intro hle
      have := Nat.mul_le_mul_right (szB x.cls) hle
      omega
    have := Nat.mul_le_mul_right (szB x.cls) this
    rw [Nat.succ_mul] at this
    omega
  · omega
theorem takenP_srt {pages : Nat} {s : HP} (h : HInv pages s) : (takenP s.A).Pairwise (· < ·) := by
  unfold takenP
  rw [List.pairwise_flatMap]
  refine ⟨fun x hx => ?_, ?_⟩
  · rw [List.pairwise_map]
    refine (takenL_srt x.S).imp ?_
    intro i j hij
    have hp := szB_pos (h.each x hx).cls
    unfold PS.addr
    have := Nat.mul_lt_mul_of_pos_right hij (show 0 < szB x.cls by omega)
    omega
  · refine List.Pairwise.imp_of_mem ?_ h.srt
    intro x y hx hy hxy a ha b hb
    obtain ⟨i, hi, rfl⟩ := List.mem_map.1 ha
    obtain ⟨j, hj, rfl⟩ := List.mem_map.1 hb
    have a1 := (h.each x hx).addr_in (takenL_mem.1 hi).1
    have a2 := (h.each y hy).addr_in (takenL_mem.1 hj).1
    have m1 := (h.each x hx).al
    have m2 := (h.each y hy).al
    have hp := szB_pos (h.each x hx).cls
    omega
theorem takenP_nodup {pages : Nat} {s : HP} (h : HInv pages s) : (takenP s.A).Nodup := (takenP_srt h).imp fun h e => by omega

/-- What stays when the addresses of a list are given back, one after the other. -/
def givesP : List Int → HP → HP
  | [], s => s
  | a :: l, s => givesP l (giveP s a).2
theorem gives_take {l : List Int} {k : Nat} (h : k < l.length) (s : HP) : givesP (l.take (k + 1)) s = (giveP (givesP (l.take k) s) l[k]).2 := by
  induction l generalizing k s with
  | nil => cases h
  | cons a l ih =>
    cases k with
    | zero => simp [givesP]
    | succ k =>
      rw [List.take_succ_cons, List.take_succ_cons, List.getElem_cons_succ]
      exact ih (Nat.lt_of_succ_lt_succ h) _
theorem gives_good {pages : Nat} : ∀ (l : List Int) {s : HP}, HGood pages s → HGood pages (givesP l s)
  | [], _, h => h
  | a :: l, _, h => gives_good l (give_good h a)
theorem gives_tkn {pages : Nat} {s : HP} (h : HGood pages s) {l : List Int} (hn : l.Nodup) (hl : ∀ a, a ∈ l ↔ Tkn s.A a) : ∀ {k : Nat}, k ≤ l.length → ∀ a, Tkn (givesP (l.take k) s).A a ↔ a ∈ l.drop k
  | 0, _, a => by rw [List.take_zero, List.drop_zero]; exact (hl a).symm
  | k + 1, hk, a => by
    have hk' : k < l.length := hk
    have ih := gives_tkn h hn hl (Nat.le_of_lt hk')
    have hg := gives_good (l.take k) h
    have hd : l.drop k = l[k] :: l.drop (k + 1) := List.drop_eq_getElem_cons hk'
    have hnd : (l[k] :: l.drop (k + 1)).Nodup := hd ▸ (hn.sublist (List.drop_sublist k l))
    rw [List.nodup_cons] at hnd
    obtain ⟨g1, g2⟩ := give_tkn hg l[k]
    have h0 : (giveP (givesP (l.take k) s) l[k]).1 = 0 := g1.2 ((ih _).2 (by rw [hd]; exact List.mem_cons_self))
    rw [gives_take hk', g2, ih, hd, List.mem_cons]
    constructor
    · rintro ⟨e | e, h2⟩
      · exact absurd e (h2 h0)
      · exact e
    · exact fun e => ⟨.inr e, fun _ he => hnd.1 (he ▸ e)⟩
theorem gives_zero {pages : Nat} {s : HP} (h : HGood pages s) {l : List Int} (hn : l.Nodup) (hl : ∀ a, a ∈ l ↔ Tkn s.A a) {k : Nat} (hk : k < l.length) : (giveP (givesP (l.take k) s) l[k]).1 = 0 :=
  (give_tkn (gives_good (l.take k) h) l[k]).1.2 ((gives_tkn h hn hl (Nat.le_of_lt hk) _).2 (by rw [List.drop_eq_getElem_cons hk]; exact List.mem_cons_self))
/-- A heap of which nothing is taken. -/
theorem none_empty {pages : Nat} {s : HP} (h : HInv pages s) (hn : ∀ a, ¬ Tkn s.A a) {x : PS} (hx : x ∈ s.A) : x.empty = true := by
  have hok := h.each x hx
  unfold PS.empty
  apply decide_eq_true
  have : (List.range (slB x.cls)).length = x.L.length := by
    apply len_of_mem List.nodup_range hok.nodup
    intro a
    rw [List.mem_range]
    constructor
    · intro ha
      apply Classical.byContradiction
      intro hc
      exact hn _ ⟨x, hx, a, ha, hc, rfl⟩
    · exact fun ha => hok.lt a ha
  rw [List.length_range] at this
  exact this.symm
theorem none_taken {s : HP} (hn : ∀ a, ¬ Tkn s.A a) : takenP s.A = [] := List.eq_nil_iff_forall_not_mem.2 fun a ha => hn a (takenP_mem.1 ha)
theorem none_rows {pages : Nat} {s : HP} (h : HGood pages s) (hn : ∀ a, ¬ Tkn s.A a) (c : Int) : (clsP s.A c).length ≤ 1 ∧ ∀ x ∈ clsP s.A c, x.sealed = false := by
  refine ⟨?_, fun x hx => ?_⟩
  · match hc : clsP s.A c with
    | [] => simp
    | [_] => simp
    | x :: y :: l =>
      exfalso
      have hs : (x :: y :: l).Pairwise fun x y => x.page < y.page := hc ▸ (h.inv.srt.filter _)
      have hxm : x ∈ clsP s.A c := by rw [hc]; exact List.mem_cons_self
      have hym : y ∈ clsP s.A c := by rw [hc]; exact List.mem_cons_of_mem _ List.mem_cons_self
      obtain ⟨hx1, hx2⟩ := List.mem_filter.1 hxm
      obtain ⟨hy1, hy2⟩ := List.mem_filter.1 hym
      have hlt := (List.pairwise_cons.1 hs).1 y List.mem_cons_self
      have := h.one.one x hx1 y hy1 (none_empty h.inv hn hx1) (none_empty h.inv hn hy1) (by simp at hx2 hy2; omega)
      omega
  · have hx1 := (List.mem_filter.1 hx).1
    exact h.one.opn x hx1 (none_empty h.inv hn hx1)
theorem sum_bound' {pages : Nat} : ∀ {l : List PS}, (∀ x ∈ l, x.Ok pages) → sumS l ≤ 128 * l.length
  | [], _ => Nat.zero_le _
  | x :: l, h => by
    have h2 := sum_bound' (l := l) (fun y hy => h y (List.mem_cons_of_mem _ hy))
    have hok := h x List.mem_cons_self
    have h4 := (slB_le hok.cls).2.1
    unfold sumS at *
    rw [List.map_cons, List.sum_cons, List.length_cons]
    omega
/-- A list, turned. -/
def turnI (l : List Int) (k : Nat) : List Int := l.drop k ++ l.take k
theorem turnI_mem {l : List Int} {k : Nat} (a : Int) : a ∈ turnI l k ↔ a ∈ l := by
  unfold turnI
  conv => rhs; rw [← List.take_append_drop k l]
  rw [List.mem_append, List.mem_append]
  exact Or.comm
theorem turnI_nodup {l : List Int} {k : Nat} (h : l.Nodup) : (turnI l k).Nodup := by
  have : (turnI l k).Perm l := List.perm_append_comm.trans (by rw [List.take_append_drop])
  exact this.nodup_iff.2 h
theorem turnI_length {l : List Int} {k : Nat} (h : k ≤ l.length) : (turnI l k).length = l.length := by
  unfold turnI
  rw [List.length_append, List.length_drop, List.length_take]
  omega

end Go.Proofs.YtlljejmblmjjnaaGreat
