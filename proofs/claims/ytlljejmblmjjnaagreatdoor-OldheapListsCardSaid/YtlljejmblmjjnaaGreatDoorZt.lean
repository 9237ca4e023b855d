/- ring: the lists in memory, by what stands in them. -/
import Derived.Test.YtlljejmblmjjnaaGreatDoorZs
import Derived.WalkKit
import Derived.WalkSpells
import Derived.WalkLawsBesides
import Derived.BigQuiet
import Derived.Lib.Hide
namespace Go.Proofs.YtlljejmblmjjnaaGreatDoor
set_option linter.unusedVariables false
set_option linter.unusedSimpArgs false
open Go.RowKit Go.ChangeMaps

/-- n items in 64 lists. -/
def RingIn (w : World) (r ib lb n : Nat) (R : Nat → List Nat) : Prop := ∃ it ls, RingAt w r ib lb it ls ∧ RingOk it ls R ∧ it.length = n ∧ ls.length = 64
def ringF (ib lb : Nat) : Nat → Prop := fun j => j = ib ∨ j = lb
theorem RingIn.turned {F : Nat → Prop} {w w' : World} {r ib lb n : Nat} {R : Nat → List Nat} (h : RingIn w r ib lb n R) (t : Turned F w w') (h1 : ¬ F r) (h2 : ¬ F ib) (h3 : ¬ F lb) : RingIn w' r ib lb n R := by
  obtain ⟨it, ls, a, b, c, d⟩ := h
  exact ⟨it, ls, a.turned t h1 h2 h3, b, c, d⟩
theorem RingIn.below {w w' : World} {r ib lb n : Nat} {R : Nat → List Nat} (h : RingIn w r ib lb n R) (hb : Below w.heap.size w w') : RingIn w' r ib lb n R :=
  h.turned (Turned.of_below (F := fun _ => False) hb (Nat.le_refl _)) (fun h => h) (fun h => h) (fun h => h)
theorem RingIn.blocks {w : World} {r ib lb n : Nat} {R : Nat → List Nat} (h : RingIn w r ib lb n R) : (∃ cs, w.heap[r]? = some (.cells cs 191 (0, 0))) ∧ (∃ cs, w.heap[ib]? = some (.cells cs 187 (0, 0))) ∧ (∃ cs, w.heap[lb]? = some (.cells cs 166 (0, 0))) := by
  obtain ⟨it, ls, a, b, c, d⟩ := h
  exact ⟨⟨_, a.obj⟩, ⟨_, a.items⟩, ⟨_, a.lists⟩⟩
theorem RingIn.nodup {w : World} {r ib lb n : Nat} {R : Nat → List Nat} (h : RingIn w r ib lb n R) {k : Nat} (hk : k < 64) : (R k).Nodup := by
  obtain ⟨it, ls, a, b, c, d⟩ := h
  exact b.nodup k (by omega)
theorem RingIn.lt {w : World} {r ib lb n : Nat} {R : Nat → List Nat} (h : RingIn w r ib lb n R) {k : Nat} (hk : k < 64) : ∀ q ∈ R k, q < n := fun q hq => by
  obtain ⟨it, ls, a, b, c, d⟩ := h
  rw [← c]
  exact b.lt (by omega) hq
theorem ring_end {it ls : List Tri} {R : Nat → List Nat} (h : RingOk it ls R) {k : Nat} (hk : k < ls.length) : ls[k].a = headOr (R k) (-1) ∧ ls[k].c = (R k).length := by
  obtain ⟨b, e⟩ := h.ends k hk
  rw [List.getElem?_eq_getElem hk] at e
  rw [Option.some.inj e]
  exact ⟨rfl, rfl⟩
theorem rgFirst {w : World} {r ib lb n : Nat} {R : Nat → List Nat} (h : RingIn w r ib lb n R) (k : Nat) (hk : k < 64) :
    Calls Tryz.prog 112 #[.pointer (some ⟨r, 0, none⟩), .int .i64 k] w fun e w' => e = .returned (.int .i64 (headOr (R k) (-1))) ∧ w = w' := by
  obtain ⟨it, ls, a, b, c, d⟩ := h
  have := rfirst_yes a k (by omega)
  rw [(ring_end b (by omega)).1] at this
  exact this
theorem rgLen {w : World} {r ib lb n : Nat} {R : Nat → List Nat} (h : RingIn w r ib lb n R) (k : Nat) (hk : k < 64) :
    Calls Tryz.prog 58 #[.pointer (some ⟨r, 0, none⟩), .int .i64 k] w fun e w' => e = .returned (.int .i64 ((R k).length : Nat)) ∧ w = w' := by
  obtain ⟨it, ls, a, b, c, d⟩ := h
  have := rglen_yes a k (by omega)
  rw [(ring_end b (by omega)).2] at this
  exact this
theorem RingOk.mem_iff {it ls : List Tri} {R : Nat → List Nat} (h : RingOk it ls R) {i k : Nat} (hi : i < it.length) (hk : k < ls.length) : it[i].a = (k : Int) ↔ i ∈ R k := by
  constructor
  · intro e
    apply Classical.byContradiction
    intro hno
    by_cases hf : ∀ m, m < ls.length → i ∉ R m
    · have := h.free i hi hf
      rw [List.getElem?_eq_getElem hi] at this
      have h2 : it[i].a = -1 := Option.some.inj this
      omega
    · obtain ⟨m, hm⟩ := Classical.not_forall.1 hf
      obtain ⟨hm, hi2⟩ := Classical.not_imp.1 hm
      obtain ⟨b, c, e2⟩ := h.list hm (Classical.not_not.1 hi2)
      rw [List.getElem?_eq_getElem hi] at e2
      have h2 : it[i].a = (m : Int) := congrArg Tri.a (Option.some.inj e2)
      have : m = k := by omega
      subst this
      exact hno (Classical.not_not.1 hi2)
  · intro hm
    obtain ⟨b, c, e2⟩ := h.list hk hm
    rw [List.getElem?_eq_getElem hi] at e2
    exact congrArg Tri.a (Option.some.inj e2)
theorem rgIn {w : World} {r ib lb n : Nat} {R : Nat → List Nat} (h : RingIn w r ib lb n R) (i : Nat) (hi : i < n) :
    ∃ z : Int, (∀ k : Nat, k < 64 → (z = (k : Int) ↔ i ∈ R k)) ∧ Calls Tryz.prog 105 #[.pointer (some ⟨r, 0, none⟩), .int .i64 i] w fun e w' => e = .returned (.int .i64 z) ∧ w = w' := by
  obtain ⟨it, ls, a, b, c, d⟩ := h
  exact ⟨_, fun k hk => b.mem_iff (by omega) (by omega), rin_yes a i (by omega)⟩
theorem rgAll {w : World} {r ib lb n : Nat} {R : Nat → List Nat} (h : RingIn w r ib lb n R) (k : Nat) (hk : k < 64) :
    Calls Tryz.prog 93 #[.pointer (some ⟨r, 0, none⟩), .int .i64 k] w fun e w' => ∃ v, e = .returned v ∧ w'.ownsRow w.heap.size 3 1 v (R k).length (intsV (intsN (R k))) ∧ Below w.heap.size w w' := by
  obtain ⟨it, ls, a, b, c, d⟩ := h
  have hk' : k < ls.length := by omega
  refine rall_any a k hk' (R k) ?_ (Nat.le_trans (b.len hk') a.ilen)
  rw [(ring_end b hk').1]
  exact seg_chain (b.seg k hk')
theorem rgPush {w : World} {r ib lb n : Nat} {R : Nat → List Nat} (h : RingIn w r ib lb n R) (k i : Nat) (hk : k < 64) (hi : i < n) (hno : ∀ m, m < 64 → i ∉ R m) :
    Calls Tryz.prog 109 #[.pointer (some ⟨r, 0, none⟩), .int .i64 k, .int .i64 i] w fun e w' => e = .returned (.int .i64 0) ∧ RingIn w' r ib lb n (updR R k (i :: R k)) ∧ Turned (ringF ib lb) w w' := by
  obtain ⟨it, ls, a, b, c, d⟩ := h
  have hk' : k < ls.length := by omega
  have hi' : i < it.length := by omega
  have hno' : ∀ m, m < ls.length → i ∉ R m := fun m hm => hno m (by omega)
  have hf := b.free i hi' hno'
  rw [List.getElem?_eq_getElem hi'] at hf
  obtain ⟨e1, e2⟩ := ring_end b hk'
  have hl := b.len hk'
  have hil := a.ilen
  have := rpush_any a k i hk' hi' (Option.some.inj hf) (by
    rw [e1]
    rcases headOr_mem (l := R k) with ⟨e3, -⟩ | ⟨q, m, e3, e4⟩
    · exact .inl e3
    · exact .inr ⟨q, e4, b.lt hk' (by rw [e3]; exact List.mem_cons_self)⟩) (by rw [e2]; omega)
  rw [e1, e2] at this
  obtain ⟨p1, p2, p3⟩ := b.push hk' hi' hno'
  refine this.mono ?_
  rintro e w' ⟨rfl, hr, ht⟩
  exact ⟨rfl, ⟨_, _, hr, p1, by rw [p2]; exact c, by rw [p3]; exact d⟩, ht⟩
theorem rgRemove {w : World} {r ib lb n : Nat} {R : Nat → List Nat} (h : RingIn w r ib lb n R) (i : Nat) (hi : i < n) :
    Calls Tryz.prog 108 #[.pointer (some ⟨r, 0, none⟩), .int .i64 i] w fun e w' => (∃ z : Int, e = .returned (.int .i64 z)) ∧ RingIn w' r ib lb n (delR R i) ∧ Turned (ringF ib lb) w w' := by
  obtain ⟨it, ls, a, b, c, d⟩ := h
  have hi' : i < it.length := by omega
  by_cases hno : ∀ m, m < ls.length → i ∉ R m
  · have hf := b.free i hi' hno
    rw [List.getElem?_eq_getElem hi'] at hf
    refine (rrem_no a i hi' (Option.some.inj hf)).mono ?_
    rintro e w' ⟨rfl, rfl⟩
    exact ⟨⟨_, rfl⟩, ⟨it, ls, a, b.absent hno, c, d⟩, Turned.refl _ _⟩
  · obtain ⟨k, hk⟩ := Classical.not_forall.1 hno
    obtain ⟨hk, hik⟩ := Classical.not_imp.1 hk
    have hik := Classical.not_not.1 hik
    obtain ⟨p, s, e, hip, his, -, hit, -⟩ := b.split hk hik
    have hl := b.len hk
    have hil := a.ilen
    have hlt : ∀ q ∈ R k, q < it.length := fun q hq => b.lt hk hq
    obtain ⟨p1, p2, p3⟩ := b.remove hk hik hit
    refine (rrem_any a k i _ _ ((R k).length : Nat) hk hi' hit (by rw [List.getElem?_eq_getElem hk]; show some (ls[k].c) = _; rw [(ring_end b hk).2]) (by omega) (by omega) ?_ ?_).mono ?_
    · rcases lastOr_mem (l := p) with ⟨e1, -⟩ | ⟨q, hq, e1⟩
      · exact .inl e1
      · exact .inr ⟨q, e1, hlt q (by rw [e]; exact List.mem_append_left _ hq), fun e2 => hip (e2 ▸ hq)⟩
    · rcases headOr_mem (l := s) with ⟨e1, -⟩ | ⟨q, m, e1, e2⟩
      · exact .inl e1
      · have hqs : q ∈ s := by rw [e1]; exact List.mem_cons_self
        exact .inr ⟨q, e2, hlt q (by rw [e]; exact List.mem_append_right _ (List.mem_cons_of_mem _ hqs)), fun e3 => his (e3 ▸ hqs)⟩
    · rintro e' w' ⟨rfl, hr, ht⟩
      exact ⟨⟨_, rfl⟩, ⟨_, _, hr, p1, by rw [p2]; exact c, by rw [p3]; exact d⟩, ht⟩

end Go.Proofs.YtlljejmblmjjnaaGreatDoor
