/- ring, plain: lists of items along the links; an item comes to a list's front, an item goes. -/
import Derived.Test.YtlljejmblmjjnaaGreatDoorZC
namespace Go.Proofs.YtlljejmblmjjnaaGreatDoor
set_option linter.unusedVariables false
set_option linter.unusedSimpArgs false

def headOr (l : List Nat) (z : Int) : Int := match l with | [] => z | x :: _ => (x : Int)
def lastOr : List Nat → Int → Int
  | [], a => a
  | x :: l, _ => lastOr l x
/-- A part of a list: from the item ahead (a) to the item behind (z). -/
def SegR (it : List Tri) (k : Nat) : Int → List Nat → Int → Prop
  | _, [], _ => True
  | a, q :: l, z => it[q]? = some ⟨k, a, headOr l z⟩ ∧ SegR it k q l z
theorem headOr_append (l m : List Nat) (z : Int) : headOr (l ++ m) z = headOr l (headOr m z) := by cases l <;> rfl
theorem lastOr_append : ∀ (l m : List Nat) (a : Int), lastOr (l ++ m) a = lastOr m (lastOr l a)
  | [], _, _ => rfl
  | x :: l, m, _ => lastOr_append l m x
theorem seg_append {it : List Tri} {k : Nat} : ∀ {l m : List Nat} {a z : Int}, SegR it k a (l ++ m) z ↔ SegR it k a l (headOr m z) ∧ SegR it k (lastOr l a) m z
  | [], m, a, z => ⟨fun h => ⟨trivial, h⟩, fun h => h.2⟩
  | q :: l, m, a, z => by
    show (it[q]? = some ⟨k, a, headOr (l ++ m) z⟩ ∧ SegR it k q (l ++ m) z) ↔ (it[q]? = some ⟨k, a, headOr l (headOr m z)⟩ ∧ SegR it k q l (headOr m z)) ∧ SegR it k (lastOr l q) m z
    rw [headOr_append, seg_append, and_assoc]
theorem seg_congr {it it' : List Tri} {k : Nat} : ∀ {l : List Nat} {a z : Int}, SegR it k a l z → (∀ q ∈ l, it'[q]? = it[q]?) → SegR it' k a l z
  | [], _, _, _, _ => trivial
  | q :: l, a, z, h, he => ⟨(he q List.mem_cons_self).trans h.1, seg_congr h.2 fun x hx => he x (List.mem_cons_of_mem _ hx)⟩
theorem seg_mem {it : List Tri} {k : Nat} : ∀ {l : List Nat} {a z : Int}, SegR it k a l z → ∀ q ∈ l, ∃ b c, it[q]? = some ⟨k, b, c⟩
  | [], _, _, _, q, hq => absurd hq List.not_mem_nil
  | x :: l, a, z, h, q, hq => by
    rcases List.mem_cons.1 hq with rfl | hq
    · exact ⟨_, _, h.1⟩
    · exact seg_mem h.2 q hq
theorem seg_lt {it : List Tri} {k : Nat} {l : List Nat} {a z : Int} (h : SegR it k a l z) : ∀ q ∈ l, q < it.length := fun q hq => by
  obtain ⟨b, c, e⟩ := seg_mem h q hq
  exact (List.getElem?_eq_some_iff.1 e).1
theorem seg_chain {it : List Tri} {k : Nat} : ∀ {l : List Nat} {a : Int}, SegR it k a l (-1) → Chain it (headOr l (-1)) l
  | [], _, _ => rfl
  | q :: l, a, h => by
    obtain ⟨hq, e⟩ := List.getElem?_eq_some_iff.1 h.1
    refine ⟨rfl, hq, ?_⟩
    rw [e]
    exact seg_chain h.2
theorem getSet (it : List Tri) (i j : Nat) (z : Int) (q : Nat) : (setT it i j z)[q]? = if q = i then it[i]?.map (fun t => triSet t j z) else it[q]? := by
  unfold setT
  rw [List.getElem?_set]
  by_cases h : i = q
  · subst h
    rw [if_pos rfl, if_pos rfl, List.getD_eq_getElem?_getD]
    by_cases hl : i < it.length
    · rw [if_pos hl, List.getElem?_eq_getElem hl]; rfl
    · rw [if_neg hl, List.getElem?_eq_none (by omega)]; rfl
  · rw [if_neg h, if_neg (fun e => h e.symm)]
/-- The last item's link turns. -/
theorem seg_end {it it' : List Tri} {k : Nat} : ∀ {l : List Nat} {a z z' : Int}, SegR it k a l z → l.Nodup → (∀ q ∈ l, (q : Int) ≠ lastOr l (-1) → it'[q]? = it[q]?) → (∀ q ∈ l, (q : Int) = lastOr l (-1) → it'[q]? = it[q]?.map fun t => triSet t 2 z') → SegR it' k a l z'
  | [], _, _, _, _, _, _, _ => trivial
  | [x], a, z, z', h, _, _, h2 => by
    refine ⟨?_, trivial⟩
    rw [h2 x List.mem_cons_self rfl, h.1]
    rfl
  | x :: y :: l, a, z, z', h, hn, h1, h2 => by
    have hl : ∀ (l : List Nat) (y : Nat), lastOr l y = (y : Int) ∨ ∃ u ∈ l, lastOr l y = (u : Int) := by
      intro l
      induction l with
      | nil => intro y; exact .inl rfl
      | cons u l ih =>
        intro y
        rcases ih u with e | ⟨v, hv, e⟩
        · exact .inr ⟨u, List.mem_cons_self, e⟩
        · exact .inr ⟨v, List.mem_cons_of_mem _ hv, e⟩
    have hx : (x : Int) ≠ lastOr (x :: y :: l) (-1) := by
      show (x : Int) ≠ lastOr l y
      intro e
      have hxn := (List.nodup_cons.1 hn).1
      rcases hl l y with e2 | ⟨v, hv, e2⟩
      · have : x = y := by omega
        exact hxn (this ▸ List.mem_cons_self)
      · have : x = v := by omega
        exact hxn (this ▸ List.mem_cons_of_mem _ hv)
    refine ⟨(h1 x List.mem_cons_self hx).trans h.1, seg_end (l := y :: l) h.2 (List.nodup_cons.1 hn).2 (fun q hq e => h1 q (List.mem_cons_of_mem _ hq) e) fun q hq e => h2 q (List.mem_cons_of_mem _ hq) e⟩
/-- The first item's link turns. -/
theorem seg_front {it it' : List Tri} {k : Nat} {l : List Nat} {a a' z : Int} (h : SegR it k a l z) (h1 : ∀ q ∈ l, (q : Int) ≠ headOr l (-1) → it'[q]? = it[q]?) (hn : l.Nodup) (h2 : ∀ q ∈ l, (q : Int) = headOr l (-1) → it'[q]? = it[q]?.map fun t => triSet t 1 a') : SegR it' k a' l z := by
  cases l with
  | nil => trivial
  | cons x l =>
    refine ⟨?_, seg_congr h.2 fun q hq => h1 q (List.mem_cons_of_mem _ hq) (fun e => ?_)⟩
    · rw [h2 x List.mem_cons_self rfl, h.1]; rfl
    · have : q = x := Int.ofNat_inj.1 e
      exact (List.nodup_cons.1 hn).1 (this ▸ hq)

/-- Items in lists. -/
structure RingOk (it ls : List Tri) (R : Nat → List Nat) : Prop where
  seg : ∀ k, k < ls.length → SegR it k (-1) (R k) (-1)
  ends : ∀ k, k < ls.length → ∃ b, ls[k]? = some ⟨headOr (R k) (-1), b, (R k).length⟩
  nodup : ∀ k, k < ls.length → (R k).Nodup
  free : ∀ i, i < it.length → (∀ k, k < ls.length → i ∉ R k) → (it[i]?.map (·.a)) = some (-1)
def updR (R : Nat → List Nat) (k : Nat) (l : List Nat) : Nat → List Nat := fun j => if j = k then l else R j
def delR (R : Nat → List Nat) (i : Nat) : Nat → List Nat := fun j => (R j).erase i
theorem RingOk.list {it ls : List Tri} {R : Nat → List Nat} (h : RingOk it ls R) {k i : Nat} (hk : k < ls.length) (hi : i ∈ R k) : ∃ b c, it[i]? = some ⟨k, b, c⟩ := seg_mem (h.seg k hk) i hi
theorem RingOk.uniq {it ls : List Tri} {R : Nat → List Nat} (h : RingOk it ls R) {k m i : Nat} (hk : k < ls.length) (hm : m < ls.length) (hi : i ∈ R k) (hj : i ∈ R m) : k = m := by
  obtain ⟨b, c, e⟩ := h.list hk hi
  obtain ⟨b', c', e'⟩ := h.list hm hj
  rw [e] at e'
  injection (Option.some.inj e') with e1
  omega
theorem RingOk.lt {it ls : List Tri} {R : Nat → List Nat} (h : RingOk it ls R) {k i : Nat} (hk : k < ls.length) (hi : i ∈ R k) : i < it.length := seg_lt (h.seg k hk) i hi
theorem nodup_subO {α : Type} [DecidableEq α] : ∀ {l m : List α}, l.Nodup → (∀ a ∈ l, a ∈ m) → l.length ≤ m.length
  | [], _, _, _ => Nat.zero_le _
  | a :: l, m, h, hs => by
    obtain ⟨h1, h2⟩ := List.nodup_cons.1 h
    have ha := hs a List.mem_cons_self
    have := nodup_subO (m := m.erase a) h2 (fun b hb => (List.mem_erase_of_ne (by rintro rfl; exact h1 hb)).2 (hs b (List.mem_cons_of_mem _ hb)))
    have e := List.length_erase_of_mem ha
    have h0 := List.length_pos_of_mem ha
    rw [List.length_cons]
    omega
theorem nodup_len {l : List Nat} {n : Nat} (hn : l.Nodup) (h : ∀ q ∈ l, q < n) : l.length ≤ n := by
  have := nodup_subO hn (m := List.range n) (fun q hq => List.mem_range.2 (h q hq))
  rwa [List.length_range] at this
theorem RingOk.len {it ls : List Tri} {R : Nat → List Nat} (h : RingOk it ls R) {k : Nat} (hk : k < ls.length) : (R k).length ≤ it.length :=
  nodup_len (h.nodup k hk) (seg_lt (h.seg k hk))
theorem headOr_mem {l : List Nat} : headOr l (-1) = -1 ∧ l = [] ∨ ∃ q m, l = q :: m ∧ headOr l (-1) = (q : Int) := by
  cases l with
  | nil => exact .inl ⟨rfl, rfl⟩
  | cons q m => exact .inr ⟨q, m, rfl, rfl⟩

theorem frontI_get (it : List Tri) (k i : Nat) (f : Int) (hi : i < it.length) (q : Nat) : (frontI it k i f)[q]? = if q = i then some ⟨k, -1, f⟩ else it[q]? := by
  unfold frontI
  by_cases h : q = i
  · subst h
    rw [getSet, if_pos rfl, getSet, if_pos rfl, getSet, if_pos rfl, if_pos rfl, List.getElem?_eq_getElem hi]
    rfl
  · rw [getSet, if_neg h, getSet, if_neg h, getSet, if_neg h, if_neg h]
/-- An item comes to a list's front. -/
theorem RingOk.push {it ls : List Tri} {R : Nat → List Nat} (h : RingOk it ls R) {k i : Nat} (hk : k < ls.length) (hi : i < it.length) (hno : ∀ m, m < ls.length → i ∉ R m) :
    RingOk (pushI it k i (headOr (R k) (-1))) (pushL ls k i (headOr (R k) (-1)) (R k).length) (updR R k (i :: R k)) ∧ (pushI it k i (headOr (R k) (-1))).length = it.length ∧ (pushL ls k i (headOr (R k) (-1)) (R k).length).length = ls.length := by
  have hil : (pushI it k i (headOr (R k) (-1))).length = it.length := by
    unfold pushI frontI
    split <;> simp only [setT_length]
  have hll : (pushL ls k i (headOr (R k) (-1)) (R k).length).length = ls.length := by
    unfold pushL
    split <;> simp only [setT_length]
  have hget : ∀ q : Nat, (pushI it k i (headOr (R k) (-1)))[q]? = if q = i then some ⟨k, -1, headOr (R k) (-1)⟩ else if (q : Int) = headOr (R k) (-1) then it[q]?.map (fun t => triSet t 1 i) else it[q]? := by
    intro q
    unfold pushI
    rcases headOr_mem (l := R k) with ⟨e, -⟩ | ⟨f, m, e, e2⟩
    · rw [e, if_pos rfl, frontI_get _ _ _ _ hi]
      split
      · rfl
      · rw [if_neg (by omega)]
    · rw [e2, if_neg (by omega), Int.toNat_natCast, getSet, frontI_get _ _ _ _ hi]
      have hfi : f ≠ i := fun e3 => hno k hk (by rw [e, ← e3]; exact List.mem_cons_self)
      rw [frontI_get _ _ _ _ hi, if_neg hfi]
      by_cases hq : q = i
      · rw [if_neg (by omega), if_pos hq, if_pos hq]
      · rw [if_neg hq]
        by_cases hqf : q = f
        · rw [if_pos hqf, if_neg hq, if_pos (by omega), hqf]
        · rw [if_neg hqf, if_neg hq, if_neg (by omega)]
  have hends : ∀ m, m < ls.length → m ≠ k → (pushL ls k i (headOr (R k) (-1)) (R k).length)[m]? = ls[m]? := by
    intro m hm hne
    unfold pushL
    split
    · rw [getSet, if_neg hne, getSet, if_neg hne, getSet, if_neg hne]
    · rw [getSet, if_neg hne, getSet, if_neg hne]
  refine ⟨⟨?_, ?_, ?_, ?_⟩, hil, hll⟩
  · intro m hm
    rw [hll] at hm
    unfold updR
    by_cases hmk : m = k
    · subst hmk
      rw [if_pos rfl]
      refine ⟨by rw [hget, if_pos rfl], ?_⟩
      refine seg_front (h.seg m hm) (fun q hq hne => ?_) (h.nodup m hm) fun q hq he => ?_
      · rw [hget, if_neg (fun e : q = i => hno m hm (e ▸ hq)), if_neg hne]
      · rw [hget, if_neg (fun e : q = i => hno m hm (e ▸ hq)), if_pos he]
    · rw [if_neg hmk]
      refine seg_congr (h.seg m hm) fun q hq => ?_
      rw [hget, if_neg (fun e : q = i => hno m hm (e ▸ hq)), if_neg]
      intro e
      rcases headOr_mem (l := R k) with ⟨e2, -⟩ | ⟨f, l, e2, e3⟩
      · omega
      · have : q = f := by omega
        exact hmk (h.uniq hm hk hq (by rw [e2, this]; exact List.mem_cons_self))
  · intro m hm
    rw [hll] at hm
    unfold updR
    by_cases hmk : m = k
    · subst hmk
      rw [if_pos rfl]
      obtain ⟨b, hb⟩ := h.ends m hm
      unfold pushL
      split
      · rw [getSet, if_pos rfl, getSet, if_pos rfl, getSet, if_pos rfl, hb]
        exact ⟨_, rfl⟩
      · rw [getSet, if_pos rfl, getSet, if_pos rfl, hb]
        exact ⟨_, rfl⟩
    · rw [if_neg hmk, hends m hm hmk]
      exact h.ends m hm
  · intro m hm
    rw [hll] at hm
    unfold updR
    split
    · next e => subst e; exact List.nodup_cons.2 ⟨hno m hm, h.nodup m hm⟩
    · exact h.nodup m hm
  · intro q hq hfree
    rw [hil] at hq
    rw [hll] at hfree
    have hqi : q ≠ i := fun e => hfree k hk (by unfold updR; rw [if_pos rfl, e]; exact List.mem_cons_self)
    have hno2 : ∀ m, m < ls.length → q ∉ R m := fun m hm hh => hfree m hm (by
      unfold updR
      split
      · next e => subst e; exact List.mem_cons_of_mem _ hh
      · exact hh)
    have hf := h.free q hq hno2
    rw [hget, if_neg hqi, if_neg]
    · exact hf
    · intro e
      rcases headOr_mem (l := R k) with ⟨e2, -⟩ | ⟨f, l, e2, e3⟩
      · omega
      · have : q = f := by omega
        exact hno2 k hk (by rw [e2, this]; exact List.mem_cons_self)

/-- The rows behind a Remove. -/
def remI (it : List Tri) (i : Nat) (b c : Int) : List Tri :=
  let it1 := if b = -1 then it else setT it b.toNat 2 c
  let it2 := if c = -1 then it1 else setT it1 c.toNat 1 b
  setT (setT (setT it2 i 0 (-1)) i 1 (-1)) i 2 (-1)
def remL (ls : List Tri) (k : Nat) (b c n : Int) : List Tri :=
  let l1 := if b = -1 then setT ls k 0 c else ls
  let l2 := if c = -1 then setT l1 k 1 b else l1
  setT l2 k 2 (n - 1)
theorem lastOr_mem : ∀ {l : List Nat}, lastOr l (-1) = -1 ∧ l = [] ∨ ∃ q ∈ l, lastOr l (-1) = (q : Int)
  | [] => .inl ⟨rfl, rfl⟩
  | x :: l => by
    have hl : ∀ (l : List Nat) (y : Nat), lastOr l y = (y : Int) ∨ ∃ u ∈ l, lastOr l y = (u : Int) := by
      intro l
      induction l with
      | nil => intro y; exact .inl rfl
      | cons u l ih =>
        intro y
        rcases ih u with e | ⟨v, hv, e⟩
        · exact .inr ⟨u, List.mem_cons_self, e⟩
        · exact .inr ⟨v, List.mem_cons_of_mem _ hv, e⟩
    rcases hl l x with e | ⟨v, hv, e⟩
    · exact .inr ⟨x, List.mem_cons_self, e⟩
    · exact .inr ⟨v, List.mem_cons_of_mem _ hv, e⟩
theorem RingOk.split {it ls : List Tri} {R : Nat → List Nat} (h : RingOk it ls R) {k i : Nat} (hk : k < ls.length) (hi : i ∈ R k) :
    ∃ p s, R k = p ++ i :: s ∧ i ∉ p ∧ i ∉ s ∧ (R k).erase i = p ++ s ∧ it[i]? = some ⟨k, lastOr p (-1), headOr s (-1)⟩ ∧ SegR it k (-1) p i ∧ SegR it k i s (-1) ∧ p.Nodup ∧ s.Nodup ∧ (∀ q ∈ p, q ∉ s) := by
  obtain ⟨p, s, e⟩ := List.append_of_mem hi
  have hn := h.nodup k hk
  rw [e] at hn
  obtain ⟨n1, n2, n3⟩ := List.nodup_append.1 hn
  have hip : i ∉ p := fun hh => n3 i hh i List.mem_cons_self rfl
  have hseg := h.seg k hk
  rw [e, seg_append] at hseg
  refine ⟨p, s, e, hip, (List.nodup_cons.1 n2).1, ?_, hseg.2.1, hseg.1, hseg.2.2, n1, (List.nodup_cons.1 n2).2, fun q hq hs => n3 q hq q (List.mem_cons_of_mem _ hs) rfl⟩
  rw [e, List.erase_append_right _ hip, List.erase_cons_head]
theorem RingOk.remove {it ls : List Tri} {R : Nat → List Nat} (h : RingOk it ls R) {k i : Nat} {b c : Int} (hk : k < ls.length) (hi : i ∈ R k) (he : it[i]? = some ⟨k, b, c⟩) :
    RingOk (remI it i b c) (remL ls k b c (R k).length) (delR R i) ∧ (remI it i b c).length = it.length ∧ (remL ls k b c (R k).length).length = ls.length := by
  obtain ⟨p, s, e, hip, his, her, hit, hsp, hss, hnp, hns, hps⟩ := h.split hk hi
  have hlt := h.lt hk hi
  rw [hit] at he
  obtain ⟨rfl, rfl⟩ : lastOr p (-1) = b ∧ headOr s (-1) = c := by
    have := Option.some.inj he
    injection this with e1 e2 e3
    exact ⟨e2, e3⟩
  have hil : (remI it i (lastOr p (-1)) (headOr s (-1))).length = it.length := by
    unfold remI
    simp only [setT_length]
    split <;> split <;> simp only [setT_length]
  have hll : (remL ls k (lastOr p (-1)) (headOr s (-1)) (R k).length).length = ls.length := by
    unfold remL
    simp only [setT_length]
    split <;> split <;> simp only [setT_length]
  have hpl : ∀ q : Nat, (q : Int) = lastOr p (-1) → q ∈ p := fun q hq => by
    rcases lastOr_mem (l := p) with ⟨e1, -⟩ | ⟨u, hu, e1⟩
    · omega
    · have : q = u := by omega
      rw [this]; exact hu
  have hsh : ∀ q : Nat, (q : Int) = headOr s (-1) → q ∈ s := fun q hq => by
    rcases headOr_mem (l := s) with ⟨e1, -⟩ | ⟨u, l, e1, e2⟩
    · omega
    · have : q = u := by omega
      rw [this, e1]; exact List.mem_cons_self
  have hget : ∀ q : Nat, (remI it i (lastOr p (-1)) (headOr s (-1)))[q]? = if q = i then some ⟨-1, -1, -1⟩ else if (q : Int) = lastOr p (-1) then it[q]?.map (fun t => triSet t 2 (headOr s (-1))) else if (q : Int) = headOr s (-1) then it[q]?.map (fun t => triSet t 1 (lastOr p (-1))) else it[q]? := by
    intro q
    have hb : ∀ (j : Nat) (z : Int) (q : Nat), (if lastOr p (-1) = -1 then it else setT it (lastOr p (-1)).toNat j z)[q]? = if (q : Int) = lastOr p (-1) then it[q]?.map (fun t => triSet t j z) else it[q]? := by
      intro j z q
      split
      · next e1 => rw [if_neg (by omega)]
      · next e1 =>
        rcases lastOr_mem (l := p) with ⟨e2, -⟩ | ⟨u, hu, e2⟩
        · exact absurd e2 e1
        · rw [e2, Int.toNat_natCast, getSet]
          by_cases hq : q = u
          · rw [if_pos hq, if_pos (by omega), hq]
          · rw [if_neg hq, if_neg (by omega)]
    have hc : ∀ q : Nat, (if headOr s (-1) = -1 then (if lastOr p (-1) = -1 then it else setT it (lastOr p (-1)).toNat 2 (headOr s (-1))) else setT (if lastOr p (-1) = -1 then it else setT it (lastOr p (-1)).toNat 2 (headOr s (-1))) (headOr s (-1)).toNat 1 (lastOr p (-1)))[q]? = if (q : Int) = lastOr p (-1) then it[q]?.map (fun t => triSet t 2 (headOr s (-1))) else if (q : Int) = headOr s (-1) then it[q]?.map (fun t => triSet t 1 (lastOr p (-1))) else it[q]? := by
      intro q
      by_cases e1 : headOr s (-1) = -1
      · rw [if_pos e1, hb]
        split
        · rfl
        · rw [if_neg (by omega)]
      · rw [if_neg e1]
        rcases headOr_mem (l := s) with ⟨e2, -⟩ | ⟨u, l, e3, e2⟩
        · exact absurd e2 e1
        · have hus : u ∈ s := by rw [e3]; exact List.mem_cons_self
          have hul : (u : Int) ≠ lastOr p (-1) := fun e4 => hps u (hpl u e4) hus
          rw [e2, Int.toNat_natCast, getSet, ← e2, hb, hb]
          by_cases hq : q = u
          · subst hq
            rw [if_pos rfl, if_neg hul, if_neg hul, if_pos e2.symm]
          · rw [if_neg hq]
            split
            · rfl
            · rw [if_neg (by omega)]
    unfold remI
    simp only
    by_cases hq : q = i
    · subst hq
      have hql : (q : Int) ≠ lastOr p (-1) := fun e4 => hip (hpl q e4)
      have hqs : (q : Int) ≠ headOr s (-1) := fun e4 => his (hsh q e4)
      rw [getSet, if_pos rfl, getSet, if_pos rfl, getSet, if_pos rfl, if_pos rfl, hc, if_neg hql, if_neg hqs, hit]
      rfl
    · rw [getSet, if_neg hq, getSet, if_neg hq, getSet, if_neg hq, if_neg hq]
      exact hc q
  have hpm : ∀ q ∈ p, q ∈ R k := fun q hq => by rw [e]; exact List.mem_append_left _ hq
  have hsm : ∀ q ∈ s, q ∈ R k := fun q hq => by rw [e]; exact List.mem_append_right _ (List.mem_cons_of_mem _ hq)
  have hdel : ∀ m, m < ls.length → m ≠ k → (R m).erase i = R m := fun m hm hne => List.erase_of_not_mem fun hh => hne (h.uniq hm hk hh hi)
  refine ⟨⟨?_, ?_, ?_, ?_⟩, hil, hll⟩
  · intro m hm
    rw [hll] at hm
    unfold delR
    by_cases hmk : m = k
    · subst hmk
      rw [her, seg_append]
      refine ⟨seg_end hsp hnp (fun q hq hne => ?_) (fun q hq he => ?_), seg_front hss (fun q hq hne => ?_) hns (fun q hq he => ?_)⟩
      · rw [hget, if_neg (fun e1 : q = i => hip (e1 ▸ hq)), if_neg hne, if_neg (fun e1 => hps q hq (hsh q e1))]
      · rw [hget, if_neg (fun e1 : q = i => hip (e1 ▸ hq)), if_pos he]
      · rw [hget, if_neg (fun e1 : q = i => his (e1 ▸ hq)), if_neg (fun e1 => hps q (hpl q e1) hq), if_neg hne]
      · rw [hget, if_neg (fun e1 : q = i => his (e1 ▸ hq)), if_neg (fun e1 => hps q (hpl q e1) hq), if_pos he]
    · rw [hdel m hm hmk]
      refine seg_congr (h.seg m hm) fun q hq => ?_
      rw [hget, if_neg (fun e1 : q = i => hmk (h.uniq hm hk hq (e1 ▸ hi))), if_neg (fun e1 => hmk (h.uniq hm hk hq (hpm q (hpl q e1)))), if_neg (fun e1 => hmk (h.uniq hm hk hq (hsm q (hsh q e1))))]
  · intro m hm
    rw [hll] at hm
    unfold delR
    by_cases hmk : m = k
    · subst hmk
      rw [her]
      obtain ⟨b, hb⟩ := h.ends m hm
      have hh : headOr (R m) (-1) = if lastOr p (-1) = -1 then (i : Int) else headOr (p ++ s) (-1) := by
        rw [e]
        cases p with
        | nil => rfl
        | cons u p =>
          rw [if_neg]
          · rfl
          · rcases lastOr_mem (l := u :: p) with ⟨-, e1⟩ | ⟨v, -, e1⟩
            · cases e1
            · omega
      have hp0 : lastOr p (-1) = -1 → headOr s (-1) = headOr (p ++ s) (-1) := by
        intro e1
        rcases lastOr_mem (l := p) with ⟨-, e2⟩ | ⟨v, -, e2⟩
        · rw [e2]; rfl
        · omega
      have hlen : ((R m).length : Int) - 1 = (p ++ s).length := by
        rw [e, List.length_append, List.length_append, List.length_cons]
        omega
      unfold remL
      simp only
      rw [getSet, if_pos rfl]
      by_cases e1 : lastOr p (-1) = -1
      · rw [if_pos e1]
        by_cases e2 : headOr s (-1) = -1
        · rw [if_pos e2, getSet, if_pos rfl, getSet, if_pos rfl, hb, hlen, ← hp0 e1]
          exact ⟨_, rfl⟩
        · rw [if_neg e2, getSet, if_pos rfl, hb, hlen, ← hp0 e1]
          exact ⟨_, rfl⟩
      · rw [if_neg e1] at hh
        rw [if_neg e1]
        by_cases e2 : headOr s (-1) = -1
        · rw [if_pos e2, getSet, if_pos rfl, hb, hlen, ← hh]
          exact ⟨_, rfl⟩
        · rw [if_neg e2, hb, hlen, ← hh]
          exact ⟨_, rfl⟩
    · rw [hdel m hm hmk]
      unfold remL
      simp only
      have : (if headOr s (-1) = -1 then setT (if lastOr p (-1) = -1 then setT ls k 0 (headOr s (-1)) else ls) k 1 (lastOr p (-1)) else if lastOr p (-1) = -1 then setT ls k 0 (headOr s (-1)) else ls)[m]? = ls[m]? := by
        split <;> split <;> simp only [getSet, if_neg hmk]
      rw [getSet, if_neg hmk, this]
      exact h.ends m hm
  · intro m hm
    rw [hll] at hm
    exact (h.nodup m hm).erase i
  · intro q hq hfree
    rw [hil] at hq
    rw [hll] at hfree
    rw [hget]
    by_cases hqi : q = i
    · rw [if_pos hqi]; rfl
    · have hno2 : ∀ m, m < ls.length → q ∉ R m := fun m hm hh => hfree m hm ((List.mem_erase_of_ne hqi).2 hh)
      rw [if_neg hqi, if_neg (fun e1 => hno2 k hk (hpm q (hpl q e1))), if_neg (fun e1 => hno2 k hk (hsm q (hsh q e1)))]
      exact h.free q hq hno2
/-- An item that is in no list: nothing turns. -/
theorem RingOk.absent {it ls : List Tri} {R : Nat → List Nat} (h : RingOk it ls R) {i : Nat} (hi : ∀ m, m < ls.length → i ∉ R m) : RingOk it ls (delR R i) := by
  have e : ∀ m, m < ls.length → delR R i m = R m := fun m hm => List.erase_of_not_mem (hi m hm)
  refine ⟨fun m hm => by rw [e m hm]; exact h.seg m hm, fun m hm => by rw [e m hm]; exact h.ends m hm, fun m hm => by rw [e m hm]; exact h.nodup m hm, fun q hq hf => h.free q hq fun m hm hh => hf m hm (by rw [e m hm]; exact hh)⟩

end Go.Proofs.YtlljejmblmjjnaaGreatDoor
