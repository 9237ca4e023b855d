/- The law of Order: when the histories are right, and that there is one order. -/
import Derived.Test.YtgcnbiccekaffaaGreatOs0
import Derived.Test.YtgcnbiccekaffaaGreatW
namespace Go.Proofs.YtgcnbiccekaffaaGreat
open Go.RowKit Go.ChangeMaps

def Timely (es : List EvM) (i : Nat) : Prop := (evAt es i).took ≠ 0 ∧ 1 ≤ (evAt es i).asked ∧ (evAt es i).asked < (evAt es i).took ∧ ((evAt es i).ended = 0 ∨ (evAt es i).took ≤ (evAt es i).ended)
def GoesBy (es : List EvM) (j i : Nat) : Prop := (evAt es j).took ≠ (evAt es i).took ∧ ((evAt es j).wk = (evAt es i).wk → (evAt es j).ended ≠ 0 ∧ (evAt es j).ended < (evAt es i).asked)
def Le (es : List EvM) (i j : Nat) : Prop := (evAt es i).took ≤ (evAt es j).took

theorem lastOf_spec {es : List EvM} {ps : List Nat} {w : Int} : (lastOf es ps w = none → ∀ j ∈ ps, (evAt es j).wk ≠ w) ∧ (∀ l, lastOf es ps w = some l → ∃ A B, ps = A ++ l :: B ∧ (evAt es l).wk = w ∧ ∀ b ∈ B, (evAt es b).wk ≠ w) := by
  constructor
  · intro h j hj e
    unfold lastOf at h
    have := List.find?_eq_none.1 h j (by simpa using hj)
    exact this (by simpa using e)
  · intro l h
    unfold lastOf at h
    obtain ⟨h1, us, bs, h2, h3⟩ := List.find?_eq_some_iff_append.1 h
    refine ⟨bs.reverse, us.reverse, ?_, by simpa using h1, fun b hb => ?_⟩
    · have := congrArg List.reverse h2
      simpa using this
    · have := h3 b (by simpa using hb)
      simpa using this

theorem step_iff {es : List EvM} {ps : List Nat} {i : Nat} (hs : (ps ++ [i]).Pairwise (Le es)) (ht : ∀ j ∈ ps ++ [i], Timely es j) (hg : ps.Pairwise (GoesBy es)) : stepOk es ps i = true ↔ ∀ j ∈ ps, GoesBy es j i := by
  have hle : ∀ j ∈ ps, Le es j i := fun j hj => (List.pairwise_append.1 hs).2.2 j hj i (by simp)
  have hps := (List.pairwise_append.1 hs).1
  unfold stepOk
  rw [Bool.and_eq_true]
  constructor
  · rintro ⟨h1, h2⟩ j hj
    constructor
    · cases hl : ps.getLast? with
      | none => rw [List.getLast?_eq_none_iff] at hl; subst hl; cases hj
      | some p =>
        rw [hl] at h1
        have h1' : (evAt es p).took ≠ (evAt es i).took := by simpa using h1
        obtain ⟨A, hA⟩ := List.getLast?_eq_some_iff.1 hl
        have hp := hle p (by rw [hA]; simp)
        have hjp : (evAt es j).took ≤ (evAt es p).took := by
          rw [hA] at hj hps
          rcases List.mem_append.1 hj with hj | hj
          · exact (List.pairwise_append.1 hps).2.2 j hj p (by simp)
          · obtain rfl : j = p := by simpa using hj
            exact Int.le_refl _
        unfold Le at hp
        omega
    · intro hw
      cases hl : lastOf es ps (evAt es i).wk with
      | none => exact absurd hw (lastOf_spec.1 hl j hj)
      | some l =>
        rw [hl] at h2
        have h2' : (evAt es l).ended ≠ 0 ∧ (evAt es l).ended < (evAt es i).asked := by
          have h3 : ¬ ((evAt es l).ended = 0 ∨ (evAt es i).asked ≤ (evAt es l).ended) := by simpa using h2
          omega
        obtain ⟨A, B, hAB, hwl, hB⟩ := lastOf_spec.2 l hl
        rw [hAB] at hj hg
        rcases List.mem_append.1 hj with hj | hj
        · have hjl := (List.pairwise_append.1 hg).2.2 j hj l (by simp)
          have h4 := hjl.2 (hw.trans hwl.symm)
          have htl := ht l (by rw [hAB]; simp)
          unfold Timely at htl
          omega
        · rcases List.mem_cons.1 hj with rfl | hj
          · exact h2'
          · exact absurd hw (hB j hj)
  · intro h
    constructor
    · cases hl : ps.getLast? with
      | none => rfl
      | some p =>
        have := (h p (List.mem_of_getLast? hl)).1
        simpa using this
    · cases hl : lastOf es ps (evAt es i).wk with
      | none => rfl
      | some l =>
        obtain ⟨A, B, hAB, hwl, _⟩ := lastOf_spec.2 l hl
        have := (h l (by rw [hAB]; simp)).2 hwl
        have h3 : ¬ ((evAt es l).ended = 0 ∨ (evAt es i).asked ≤ (evAt es l).ended) := by omega
        simpa using h3

theorem okFrom_iff {es : List EvM} : ∀ (r ps : List Nat), (ps ++ r).Pairwise (Le es) → (∀ j ∈ ps ++ r, Timely es j) → ps.Pairwise (GoesBy es) → (okFrom es ps r = true ↔ (ps ++ r).Pairwise (GoesBy es))
  | [], ps, _, _, hg => by simp [okFrom, hg]
  | i :: r, ps, hs, ht, hg => by
    have e : ps ++ i :: r = (ps ++ [i]) ++ r := by simp
    rw [e] at hs ht ⊢
    have hstep := step_iff (List.pairwise_append.1 hs).1 (fun j hj => ht j (List.mem_append_left _ hj)) hg
    unfold okFrom
    rw [Bool.and_eq_true, hstep]
    constructor
    · rintro ⟨h1, h2⟩
      have hg' : (ps ++ [i]).Pairwise (GoesBy es) := List.pairwise_append.2 ⟨hg, by simp, fun j hj k hk => by
        obtain rfl : k = i := by simpa using hk
        exact h1 j hj⟩
      exact (okFrom_iff r (ps ++ [i]) hs ht hg').1 h2
    · intro h
      have hg' := (List.pairwise_append.1 h).1
      exact ⟨fun j hj => (List.pairwise_append.1 hg').2.2 j hj i (by simp), (okFrom_iff r (ps ++ [i]) hs ht hg').2 h⟩

theorem clash_symm (x y : EvM) : clashE x y = clashE y x := by
  unfold clashE
  rw [Bool.beq_comm (a := y.took), Bool.beq_comm (a := y.wk), Bool.and_comm (!befE x y)]

theorem goes_clash {es : List EvM} {j i : Nat} (hj : Timely es j) (hi : Timely es i) (hle : Le es j i) : GoesBy es j i ↔ clashE (evAt es j) (evAt es i) = false := by
  unfold Timely at hj hi
  unfold Le at hle
  have hbef : befE (evAt es i) (evAt es j) = false := by
    unfold befE
    rw [Bool.eq_false_iff]
    intro h
    simp at h
    omega
  unfold GoesBy clashE
  rw [hbef]
  unfold befE
  simp
  constructor
  · rintro ⟨h1, h2⟩
    exact ⟨fun e => h1 e.symm, fun e => h2 e.symm⟩
  · rintro ⟨h1, h2⟩
    exact ⟨fun e => h1 e.symm, fun e => h2 e.symm⟩

theorem pick_mem {es : List EvM} {k i : Nat} : i ∈ pickK es k ↔ i < k ∧ (evAt es i).took ≠ 0 := by
  unfold pickK
  rw [List.mem_filter, List.mem_range, tookAt_ev]
  simp

theorem noClash_pairs {es : List EvM} {n : Nat} : NoClash es n ↔ (pickK es n).Pairwise (fun j i => clashE (evAt es j) (evAt es i) = false) := by
  unfold pickK
  rw [List.pairwise_filter, List.pairwise_iff_getElem]
  simp only [List.length_range, List.getElem_range, tookAt_ev]
  constructor
  · intro h j i hj hi hji h1 h2
    rw [clash_symm]
    exact h i j hi hji (by simpa using h2) (by simpa using h1)
  · intro h i j hi hj h1 h2
    rw [clash_symm]
    exact h j i (by omega) hi hj (by simpa using h2) (by simpa using h1)

theorem timely_all {es : List EvM} (h : es.all timelyE = true) {i : Nat} (hi : i ∈ pickK es es.length) : Timely es i := by
  obtain ⟨h1, h2⟩ := pick_mem.1 hi
  have := List.all_eq_true.1 h _ (List.getElem_mem h1)
  rw [evAt_get h1] at this
  unfold timelyE timelyB at this
  have h3 : ((evAt es i).took == 0) = false := by simpa using h2
  rw [h3, Bool.false_or] at this
  exact ⟨h2, of_decide_eq_true this⟩

/-- In the order in which they took effect, events are right just where no two clash. -/
theorem okFrom_good {es : List EvM} {ys : List Nat} (ht : es.all timelyE = true) (hp : ys.Perm (pickK es es.length)) (hs : ys.Pairwise (fun i j => tookAt es i ≤ tookAt es j)) : okFrom es [] ys = true ↔ GoodE es := by
  have hs' : ys.Pairwise (Le es) := hs.imp (fun {a b} h => by rw [tookAt_ev, tookAt_ev] at h; exact h)
  have htm : ∀ j ∈ ys, Timely es j := fun j hj => timely_all ht (hp.mem_iff.1 hj)
  rw [okFrom_iff ys [] hs' htm List.Pairwise.nil, List.nil_append]
  unfold GoodE
  rw [noClash_pairs]
  have hperm : (pickK es es.length).Pairwise (fun j i => clashE (evAt es j) (evAt es i) = false) ↔ ys.Pairwise (fun j i => clashE (evAt es j) (evAt es i) = false) :=
    (List.Perm.pairwise_iff (fun {a b} h => by rw [clash_symm]; exact h) hp).symm
  rw [hperm]
  constructor
  · intro h
    refine ⟨ht, ?_⟩
    refine List.Pairwise.imp_of_mem ?_ (h.and hs')
    intro a b ha hb hab
    exact (goes_clash (htm a ha) (htm b hb) hab.2).1 hab.1
  · rintro ⟨_, h⟩
    refine List.Pairwise.imp_of_mem ?_ (h.and hs')
    intro a b ha hb hab
    exact (goes_clash (htm a ha) (htm b hb) hab.2).2 hab.1

theorem one_order {es : List EvM} {xs ys : List Nat} (hg : GoodE es) (hx : xs.Perm (pickK es es.length)) (hy : ys.Perm (pickK es es.length)) (hsx : xs.Pairwise (fun i j => tookAt es i ≤ tookAt es j)) (hsy : ys.Pairwise (fun i j => tookAt es i ≤ tookAt es j)) : xs = ys := by
  refine List.Perm.eq_of_pairwise (le := fun i j => tookAt es i ≤ tookAt es j) ?_ hsx hsy (hx.trans hy.symm)
  intro a b ha hb h1 h2
  rw [tookAt_ev, tookAt_ev] at h1 h2
  obtain ⟨la, ta⟩ := pick_mem.1 (hx.mem_iff.1 ha)
  obtain ⟨lb, tb⟩ := pick_mem.1 (hy.mem_iff.1 hb)
  have he : (evAt es a).took = (evAt es b).took := Int.le_antisymm h1 h2
  rcases Nat.lt_trichotomy a b with h | h | h
  · have := hg.2 b a lb h tb ta
    rw [clashE, he] at this
    simp at this
  · exact h
  · have := hg.2 a b la h ta tb
    rw [clashE, he] at this
    simp at this

end Go.Proofs.YtgcnbiccekaffaaGreat
