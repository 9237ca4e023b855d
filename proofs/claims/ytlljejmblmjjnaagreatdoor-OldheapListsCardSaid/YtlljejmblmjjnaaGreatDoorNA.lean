/- General lemmas for the walks: worlds, what turns, rows of the call's own, regions by hand. -/
import Derived.Test.YtlljejmblmjjnaaGreatDoorProg
import Derived.WalkKit
import Derived.WalkSpells
import Derived.WalkLawsBesides
import Derived.BigQuiet
import Derived.Lib.Hide
import Derived.BigRegion
import Derived.StillTailTactics
import Derived.Deep.RegionHeld3
import Derived.Deep.RegionLaw
import Derived.Maps.RangeRun
import Derived.Laws.Rows
import Derived.StillTail
import Derived.Deep.Quiet
import Derived.Laws.BitsLemmas
import Derived.Deep.QuietTactic
import Derived.Laws.AppendOwn
namespace Go.Proofs.YtlljejmblmjjnaaGreatDoor
set_option linter.unusedVariables false
set_option linter.unusedSimpArgs false
open Go.RowKit Go.ChangeMaps

theorem bcell {W w1 : World} (hb : Below W.heap.size W w1) :
    (∀ b o, b < W.heap.size → w1.cell? ⟨b, o, none⟩ = W.cell? ⟨b, o, none⟩) ∧ (∀ b o, b < W.heap.size → w1.frozen? ⟨b, o, none⟩ = W.frozen? ⟨b, o, none⟩) :=
  ⟨fun b o h => hb.cell (p := ⟨b, o, none⟩) h, fun b o h => hb.frozen (p := ⟨b, o, none⟩) h⟩

/-- A cell that is there lies in the heap. -/
theorem cell_lt {w : World} {b o : Nat} {v : Value} (h : w.cell? ⟨b, o, none⟩ = some v) : b < w.heap.size := by
  unfold World.cell? at h
  by_cases hb : b < w.heap.size
  · exact hb
  · simp [Array.getElem?_eq_none (by omega : w.heap.size ≤ b)] at h

theorem Below.via {B S : Nat} {w W w1 : World} (h : Below S W w1) (hB : B ≤ S) (k : Below B w W) : Below B w w1 := k.trans (h.mono hB)

theorem ret_int {k : IntKind} {a b : Int} (h : a = b) : Ending.returned (.int k a) = .returned (.int k b) := by rw [h]
theorem ret_bool {a b : Bool} (h : a = b) : Ending.returned (.bool a) = .returned (.bool b) := by rw [h]

/-! ### what turns -/
structure Turned (F : Nat → Prop) (w w' : World) : Prop where
  os : w'.os = w.os
  tape : w'.tape = w.tape
  output : w'.output = w.output
  size : w.heap.size ≤ w'.heap.size
  block : ∀ k, k < w.heap.size → ¬ F k → w'.heap[k]? = w.heap[k]?

theorem Turned.refl (F : Nat → Prop) (w : World) : Turned F w w := ⟨rfl, rfl, rfl, Nat.le_refl _, fun _ _ _ => rfl⟩
theorem Turned.trans {F G : Nat → Prop} {a b c : World} (h : Turned F a b) (k : Turned G b c) (hg : ∀ x, G x → x < a.heap.size → F x) : Turned F a c :=
  ⟨k.os.trans h.os, k.tape.trans h.tape, k.output.trans h.output, Nat.le_trans h.size k.size,
    fun x hx hf => (k.block x (Nat.lt_of_lt_of_le hx h.size) (fun hh => hf (hg x hh hx))).trans (h.block x hx hf)⟩
theorem Turned.mono {F G : Nat → Prop} {a b : World} (h : Turned F a b) (hg : ∀ x, F x → x < a.heap.size → G x) : Turned G a b :=
  ⟨h.os, h.tape, h.output, h.size, fun x hx hf => h.block x hx (fun hh => hf (hg x hh hx))⟩
theorem Turned.of_below {F : Nat → Prop} {B : Nat} {a b : World} (h : Below B a b) (hB : a.heap.size ≤ B) : Turned F a b :=
  ⟨h.os, h.tape, h.output, h.size, fun x hx _ => h.block x (by omega)⟩
theorem Turned.below {F : Nat → Prop} {a b : World} (h : Turned F a b) {B : Nat} (hF : ∀ x, F x → B ≤ x) (hB : B ≤ a.heap.size) : Below B a b :=
  ⟨h.os, h.tape, h.output, h.size, fun x hx => h.block x (by omega) (fun hh => by have := hF x hh; omega)⟩
theorem Turned.setCell {F : Nat → Prop} {a w : World} (h : Turned F a w) {p : Addr} (hp : F p.block ∨ a.heap.size ≤ p.block) (u : Value) : Turned F a (w.setCell p u) := by
  refine h.trans (G := fun x => x = p.block) ⟨rfl, rfl, rfl, by simp [World.setCell], fun k _ hk => Below.heap_setCell _ _ _ _ hk⟩ ?_
  rintro x rfl hx
  rcases hp with hp | hp
  · exact hp
  · omega
theorem Turned.alloc {F : Nat → Prop} {a w : World} (h : Turned F a w) (o : Obj) : Turned F a (w.alloc o) :=
  h.trans (G := fun _ => False) (Turned.of_below ((Below.refl w.heap.size w).alloc (Nat.le_refl _) o) (Nat.le_refl _)) (fun _ hh _ => hh.elim)
theorem Turned.drew {F : Nat → Prop} {a w : World} (h : Turned F a w) : Turned F a w.drew := ⟨h.os, h.tape, h.output, h.size, h.block⟩
theorem heap_setBlock_ne (w : World) (r : Nat) (o : Obj) {k : Nat} (h : k ≠ r) : (setBlock w r o).heap[k]? = w.heap[k]? := by
  simp only [setBlock]
  rw [Array.getElem?_setIfInBounds_ne (Ne.symm h)]
theorem heap_setBlock_eq {w : World} {r : Nat} (h : r < w.heap.size) (o : Obj) : (setBlock w r o).heap[r]? = some o := by
  simp [setBlock, h]
theorem size_setBlock (w : World) (r : Nat) (o : Obj) : (setBlock w r o).heap.size = w.heap.size := by simp [setBlock]
theorem Turned.setBlock {F : Nat → Prop} {a w : World} (h : Turned F a w) {r : Nat} (hp : F r ∨ a.heap.size ≤ r) (o : Obj) : Turned F a (setBlock w r o) := by
  refine h.trans (G := fun x => x = r) ⟨rfl, rfl, rfl, by simp [ChangeMaps.setBlock], fun k _ hk => heap_setBlock_ne _ _ _ hk⟩ ?_
  rintro x rfl hx
  rcases hp with hp | hp
  · exact hp
  · omega

theorem lt_of_block {w : World} {k : Nat} {o : Obj} (h : w.heap[k]? = some o) : k < w.heap.size := (Array.getElem?_eq_some_iff.1 h).1

theorem cell_of_block {w : World} {b : Nat} {c : Array Value} {e : TypeId} {f : Nat × Nat} (h : w.heap[b]? = some (.cells c e f)) (i : Nat) : w.cell? ⟨b, i, none⟩ = c[i]? := by
  simp [World.cell?, h]
theorem frozen_of_block {w : World} {b : Nat} {c : Array Value} {e : TypeId} (h : w.heap[b]? = some (.cells c e (0, 0))) (i : Nat) : w.frozen? ⟨b, i, none⟩ = false := by
  simp [World.frozen?, h]
theorem heap_setCell_eq {w : World} {b i : Nat} {c : Array Value} {e : TypeId} {f : Nat × Nat} (h : w.heap[b]? = some (.cells c e f)) (v : Value) :
    (w.setCell ⟨b, i, none⟩ v).heap[b]? = some (.cells (c.setIfInBounds i v) e f) := by
  simp [World.setCell, Array.getElem?_modify, h]

/-- What was laid, and the count of draws. -/
structure Laid where
  objs : Array Obj
  drawn : Nat
instance : Nonempty Laid := ⟨⟨#[], 0⟩⟩

/-- w, and what was laid since. -/
def _root_.Go.World.ext (w : World) (X : Laid) : World := { w with heap := w.heap ++ X.objs, drawn := X.drawn }

theorem below_ext (w : World) (X : Laid) : Below w.heap.size w (w.ext X) := by
  refine ⟨rfl, rfl, rfl, by simp [World.ext], fun k hk => ?_⟩
  show (w.heap ++ X.objs)[k]? = _
  rw [Array.getElem?_append_left hk]

theorem ext_of_below {w w' : World} (h : Below w.heap.size w w') : ∃ X, w' = w.ext X := by
  refine ⟨⟨w'.heap.extract w.heap.size w'.heap.size, w'.drawn⟩, ?_⟩
  obtain ⟨hp, tp, dr, os, out⟩ := w'
  obtain ⟨h1, h2, h3, h4, h5⟩ := h
  simp only at h1 h2 h3 h4 h5
  subst h1 h2 h3
  simp only [World.ext, World.mk.injEq, and_true]
  apply Array.ext_getElem?
  intro i
  by_cases hi : i < w.heap.size
  · rw [Array.getElem?_append_left hi]; exact h5 i hi
  · rw [Array.getElem?_append_right (by omega)]
    simp only [Array.getElem?_extract]
    by_cases hj : i < hp.size
    · rw [if_pos (by omega), show w.heap.size + (i - w.heap.size) = i from by omega]
    · rw [if_neg (by omega)]; exact Array.getElem?_eq_none (by omega)

theorem below_of_ext {w w' : World} (h : ∃ X, w' = w.ext X) : Below w.heap.size w w' := by
  obtain ⟨X, rfl⟩ := h
  exact below_ext w X

theorem cell_lt' {w : World} {a : Addr} (h : (w.cell? a).isSome = true) : a.block < w.heap.size := by
  unfold World.cell? at h
  by_cases hb : a.block < w.heap.size
  · exact hb
  · simp [Array.getElem?_eq_none (by omega : w.heap.size ≤ a.block)] at h

@[go_sem] theorem cell?_ext (w : World) (X : Laid) (a : Addr) (h : (w.cell? a).isSome = true) : (w.ext X).cell? a = w.cell? a :=
  (below_ext w X).cell (cell_lt' h)
@[go_sem] theorem frozen?_ext (w : World) (X : Laid) (a : Addr) (h : (w.cell? a).isSome = true) : (w.ext X).frozen? a = w.frozen? a :=
  (below_ext w X).frozen (cell_lt' h)

theorem wp_region_quiet_ext {P : Program} {id : Nat} {Q : Exit → Act → World → Prop} {a : Act} {w : World} {l : List Oper} (hm : P.follows .mixedOrders = true) (hB : Region.lexB .any l.toArray = true)
    (h : wpQuiet P l.toArray (fun w' => ∃ X, w' = w.ext X) (fun a' => ∀ w', (∃ X, w' = w.ext X) → Q .normal a' w') l a) : (Code.region id l.toArray true).wp P Q a w :=
  wp_region_quiet (C := fun w' => ∃ X, w' = w.ext X) hm hB (ext_of_below (w := w) ((Below.refl _ w).drew)) (by simpa using h)

theorem Calls.ext_of {P : Program} {f : FuncId} {args : Array Value} {w : World} {X : Laid} {v : Value}
    (h : Calls P f args (w.ext X) fun e w' => e = .returned v ∧ Below (w.ext X).heap.size (w.ext X) w') : Calls P f args (w.ext X) fun e w' => e = .returned v ∧ ∃ Y, w' = w.ext Y :=
  h.mono fun _ _ ⟨he, hb⟩ => ⟨he, ext_of_below ((below_ext w X).trans (hb.mono (below_ext w X).size))⟩
theorem Calls.ext_same {P : Program} {f : FuncId} {args : Array Value} {w : World} {X : Laid} {v : Value}
    (h : Calls P f args (w.ext X) fun e w' => e = .returned v ∧ w.ext X = w') : Calls P f args (w.ext X) fun e w' => e = .returned v ∧ ∃ Y, w' = w.ext Y :=
  h.mono fun _ _ ⟨he, hb⟩ => ⟨he, X, hb.symm⟩

theorem cell_past {w W : World} {B b o : Nat} {v : Value} (hb : Below B w W) (hB : b < B) (h : w.cell? ⟨b, o, none⟩ = some v) : W.cell? ⟨b, o, none⟩ = some v := by
  rw [hb.cell (p := ⟨b, o, none⟩) hB]; exact h

theorem turned_cell {G : Nat → Prop} {w W : World} (t : Turned G w W) {b o : Nat} {v : Value} (hg : ¬ G b) (h : w.cell? ⟨b, o, none⟩ = some v) : W.cell? ⟨b, o, none⟩ = some v := by
  have := t.block b (cell_lt h) hg
  unfold World.cell? at h ⊢
  simp only [this]
  exact h

theorem ownsRow_below {w W : World} {base : Nat} {e : TypeId} {size n : Nat} {v : Value} {xs : List Value} (h : w.ownsRow base e size v n xs) (hb : Below w.heap.size w W) : W.ownsRow base e size v n xs := by
  refine ⟨h.1, ?_⟩
  rcases h.2 with h0 | ⟨g, cap, cur, rfl, h1, h2, h3⟩
  · exact .inl h0
  · exact .inr ⟨g, cap, cur, rfl, h1, (hb.block _ (lt_of_block h2)).trans h2, h3⟩

/-- What of F turned, and what came. -/
def Tn (F : Nat → Prop) (w w' : World) : Prop := Turned F w w'
theorem Tn.trans {F : Nat → Prop} {a b c : World} (h : Tn F a b) (k : Tn F b c) : Tn F a c := Turned.trans h k (fun _ h _ => h)
theorem Tn.size {F : Nat → Prop} {a b : World} (h : Tn F a b) : a.heap.size ≤ b.heap.size := Turned.size h
theorem Tn.setCell {F : Nat → Prop} {a w : World} (h : Tn F a w) {p : Addr} (hp : F p.block) (u : Value) : Tn F a (w.setCell p u) := Turned.setCell h (.inl hp) u
theorem tof {F : Nat → Prop} {a b : World} (h : Below a.heap.size a b) : Tn F a b := Turned.of_below h (Nat.le_refl _)
theorem fge {F : Nat → Prop} {n n' : Nat} (h : ∀ k, n ≤ k → F k) (hn : n ≤ n') : ∀ k, n' ≤ k → F k := fun k hk => h k (Nat.le_trans hn hk)
theorem own_mono {w : World} {base base' : Nat} {e : TypeId} {size : Nat} {v : Value} {n : Nat} {xs : List Value} (h : w.ownsRow base e size v n xs) (hb : base' ≤ base) : w.ownsRow base' e size v n xs :=
  ⟨h.1, h.2.imp id fun ⟨g, cap, cur, h1, h2, h3⟩ => ⟨g, cap, cur, h1, Nat.le_trans hb h2, h3⟩⟩
theorem own_ge {F : Nat → Prop} {w : World} {base : Nat} {e : TypeId} {size : Nat} {v : Value} {n : Nat} {xs : List Value} (h : w.ownsRow base e size v n xs) (hF : ∀ k, base ≤ k → F k) : ∀ g, v.ownBlock = some g → F g := fun g hg => hF g (h.lt g hg).1

theorem own_slice2 {w : World} {base n size : Nat} {T : TypeId} {v : Value} {xs : List Value} (h : w.ownsRow base T size v n xs) : ∃ p c, v = .slice p n c := by
  rcases h.2 with ⟨h0, h1⟩ | ⟨g, cap, cur, h0, _⟩
  · exact ⟨none, 0, by rw [h0, h1]⟩
  · exact ⟨_, _, h0⟩

theorem lay_grown {B : Nat} {W0 w1 w3 : World} {v : Value} {k : Nat} {xs : List Value} {o : Obj} {T : TypeId} {size : Nat} (hb : Below B W0 w1) (hr : w1.ownsRow B T size v k xs) (hg : (w1.alloc o).grownBy w3 v.ownBlock) (hB : B < W0.heap.size) : Below B W0 w3 :=
  Below.grown (hb.alloc (Nat.le_trans (Nat.le_of_lt hB) hb.size) o) hg (by have := hb.size; simp; omega) (fun j e => (hr.lt j e).1)

/-- A row of blocks of another type is none of the growing row. -/
theorem row_ne {w : World} {base n g : Nat} {e e' : TypeId} {size : Nat} {v : Value} {xs : List Value} {cur : Array Value} (h : w.ownsRow base e size v n xs) (hg : w.heap[g]? = some (.cells cur e' (0, 0))) (hne : e ≠ e') : some g ≠ v.ownBlock := by
  rcases h.2 with ⟨rfl, h0⟩ | ⟨g2, cap, cur2, rfl, hb, hg2, _⟩
  · simp [Value.ownBlock]
  · intro e1
    have e2 : g = g2 := Option.some.inj e1
    subst e2
    rw [hg] at hg2
    simp at hg2
    exact hne hg2.2.symm

/-- append on a row of the call's own, as one step of a region that draws. -/
theorem step_append_own {P : Program} {ops : Array Oper} {o : Oper} {a : Act} {w : World} {K : Act → World → Prop} {Q : Exit → Act → World → Prop} {E : Prop} (hgd : o.guard = none) (s x : Operand) (t : TypeId)
    (ho : o.op = .call { callee := .builtin .append, args := #[s, x], argTypes := #[t, t] })
    (base : Nat) (e : TypeId) (i : TypeInfo) (z : Value) (size bytes : Nat) (ht : P.underlying t = some (.slice e)) (hi : P.info? e = some i) (hz : i.zero = some z)
    (hsize : i.size = size) (hby : i.bytes = bytes) (hzs : z.cells.size = size) (hsz : 0 < size)
    (v : Value) (n : Nat) (xs : List Value) (hs : a.eval s = v) (hown : w.ownsRow base e size v n xs)
    (ad : Addr) (m c : Nat) (news : List Value) (hx : a.eval x = .slice (some ad) m c) (hl : news.length = m * size) (hnews : ∀ j u, news[j]? = some u → w.cell? (ad.add j) = some u) (h1 : ∀ u ∈ news, u.oneCell' = true)
    (h63 : n + m ≤ maxLen) (hbytes : (n + m) * bytes ≤ 140737488355328) (hbase : base ≤ w.heap.size)
    (h : ∀ v' w', w'.ownsRow base e size v' (n + m) (xs ++ news) → w.grownBy w' v.ownBlock → (v' = .slice none 0 0 ↔ v = .slice none 0 0 ∧ m = 0) → K (a.put o.dst v') w') :
    if Region.wanted o (yielded ops a.tmps) = true then Oper.wp P o a w K Q else E := by
  have hw : Region.wanted o (yielded ops a.tmps) = true := by simp [Region.wanted, hgd]
  rw [if_pos hw]
  exact wp_append_own w s x t ho base e i z size bytes ht hi hz hsize hby hzs hsz v n xs hs hown ad m c news hx hl hnews h1 h63 hbytes hbase h

/-! ### a region, by hand: what holds of the world may change on the way -/
theorem wpAnyH_mono {P : Program} {md : Region.Mode} {ops : Array Oper} {Q : Exit → Act → World → Prop} {S S' : World → Prop} (hS : ∀ w, S' w → S w) :
    ∀ (fuel : Nat) (listed : Array Bool) (a : Act) (w : World), wpAnyH P md ops Q S' fuel listed a w → wpAnyH P md ops Q S fuel listed a w
  | 0, _, _, _, h => h
  | fuel + 1, _, _, _, h => ⟨h.1, fun i hi => wpOp_mono (fun a' w' h' => ⟨hS w' h'.1, wpAnyH_mono hS fuel _ a' w' h'.2⟩) (h.2 i hi)⟩

/-- Bytes laid from a on. -/
def putR (bs : List Int) (a : Nat) (ds : List Int) : List Int := bs.take a ++ (ds ++ bs.drop (a + ds.length))

theorem putR_get (bs : List Int) (a : Nat) (ds : List Int) (h : a + ds.length ≤ bs.length) (k : Nat) : (putR bs a ds)[k]? = if a ≤ k ∧ k < a + ds.length then ds[k - a]? else bs[k]? := by
  unfold putR
  have hl : (bs.take a).length = a := by rw [List.length_take]; omega
  by_cases h1 : k < a
  · rw [List.getElem?_append_left (by omega), List.getElem?_take, if_pos h1, if_neg (by omega)]
  · rw [List.getElem?_append_right (by omega), hl]
    by_cases h2 : k < a + ds.length
    · rw [List.getElem?_append_left (by omega), if_pos ⟨by omega, h2⟩]
    · rw [List.getElem?_append_right (by omega), if_neg (by omega), List.getElem?_drop]
      congr 1
      omega

theorem putR_length (bs : List Int) (a : Nat) (ds : List Int) (h : a + ds.length ≤ bs.length) : (putR bs a ds).length = bs.length := by
  simp only [putR, List.length_append, List.length_take, List.length_drop]
  omega

theorem putR_nil (bs : List Int) (a : Nat) : putR bs a [] = bs := by simp [putR]

theorem putR_succ (bs : List Int) (a : Nat) (ds : List Int) (v : Int) (h : a + ds.length < bs.length) : (putR bs a ds).set (a + ds.length) v = putR bs a (ds ++ [v]) := by
  apply List.ext_getElem?
  intro i
  have hl : (ds ++ [v]).length = ds.length + 1 := by simp
  rw [putR_get bs a (ds ++ [v]) (by omega), List.getElem?_set, putR_get bs a ds (by omega), putR_length bs a ds (by omega), hl]
  by_cases h1 : a + ds.length = i
  · subst h1
    rw [if_pos rfl, if_pos h, if_pos (by omega), List.getElem?_append_right (by omega)]
    simp
  · rw [if_neg h1]
    by_cases h2 : a ≤ i ∧ i < a + ds.length
    · rw [if_pos h2, if_pos (by omega), List.getElem?_append_left (by omega)]
    · rw [if_neg h2, if_neg (by omega)]


end Go.Proofs.YtlljejmblmjjnaaGreatDoor

/- A region that draws: quiet operations (they may lay blocks) ahead of a tail whose order is forced. -/
namespace Go.Proofs.YtlljejmblmjjnaaGreatDoor
set_option linter.unusedVariables false
set_option linter.unusedSimpArgs false
open Go.RowKit Go.ChangeMaps

section
variable {P : Program} {ops : Array Oper} {md : Region.Mode} {C : World → Prop}

/-- The first f picks all lie ahead of n, each quiet; then L. -/
def headQ (P : Program) (md : Region.Mode) (ops : Array Oper) (C : World → Prop) (n : Nat) (L : Array Bool → Act → Prop) : Nat → Array Bool → Act → Prop
  | 0, done, a => L done a
  | f + 1, done, a => Region.ready md ops done ≠ [] ∧ ∀ i ∈ Region.ready md ops done, i < n ∧ qOp P ops C i (headQ P md ops C n L f (done.setIfInBounds i true)) a

theorem any_of_headQ {n g : Nat} {L : Array Bool → Act → Prop} {Q : Exit → Act → World → Prop} (hL : ∀ done a w, C w → L done a → wpAny P md ops Q g done a w) :
    ∀ (f : Nat) (done : Array Bool) (a : Act) (w : World), C w → headQ P md ops C n L f done a → wpAny P md ops Q (f + g) done a w := by
  intro f
  induction f with
  | zero => intro done a w hw h; rw [Nat.zero_add]; exact hL _ _ _ hw h
  | succ f ih =>
    intro done a w hw h
    rw [Nat.add_right_comm]
    exact ⟨fun h0 => absurd h0 h.1, fun i hi => wpOp_of_qOp hw (fun a' w' hw' k => ih _ a' w' hw' k) (h.2 i hi).2⟩

theorem headQ_first {n i : Nat} {o : Oper} {v : Value} {L : Array Bool → Act → Prop} (ho : ops[i]? = some o) (hsel : ∀ (j : Nat) (o : Oper) cs b, ops[j]? = some o → o.op ≠ .select cs b)
    (hs : Region.sinkB md ops n = true) (hc : Region.chainB md ops n = true) (hn : n < ops.size) (hin : i < n) (hL : ∀ done a, L done a → ∀ j ∈ Region.ready md ops done, n ≤ j) :
    ∀ (f : Nat) (done : Array Bool) (a : Act), HeadInv md ops n done →
      (∀ j p, ops[j]? = some p → j ≠ i → done.getD j true = false → (∀ e ∈ p.after, Region.binds md e = true → e.on ≠ i) → o.apart ops p = true) →
      i ∈ Region.ready md ops done → YieldsIn P ops C o v a → headQ P md ops C n L f (done.setIfInBounds i true) (a.put o.dst v) → headQ P md ops C n L (f + 1) done a := by
  intro f
  induction f with
  | zero =>
    intro done a inv _ hr hy H
    have hun := (mem_ready.1 hr).1
    refine ⟨fun h => (by rw [h] at hr; cases hr), fun j hj => ?_⟩
    have hjn : j < n := Nat.lt_of_not_le fun h => tail_waits hs hc hn inv _ i rfl hin hun j h hj
    refine ⟨hjn, ?_⟩
    by_cases e : j = i
    · subst e
      exact hy.qOp ho H
    · exact absurd (hL _ _ H j (ready_mono hj e)) (by omega)
  | succ f ih =>
    intro done a inv hfree hr hy H
    have hun := (mem_ready.1 hr).1
    refine ⟨fun h => (by rw [h] at hr; cases hr), fun j hj => ?_⟩
    have hjn : j < n := Nat.lt_of_not_le fun h => tail_waits hs hc hn inv _ i rfl hin hun j h hj
    refine ⟨hjn, ?_⟩
    by_cases e : j = i
    · subst e
      exact hy.qOp ho H
    · obtain ⟨hjun, p, hp, hall⟩ := mem_ready.1 hj
      have hno : ∀ e ∈ p.after, Region.binds md e = true → e.on ≠ i := fun e he hb h => by
        have h1 := hall e he hb
        rw [h, getD_both hun] at h1
        cases h1
      refine qOp_mono (fun a' h3 => ih (done.setIfInBounds j true) a' (inv.set hj hjn) (fun k q hq hki hk hno' => hfree k q hq hki ?_ hno') (ready_mono hr (Ne.symm e)) h3.1 ?_)
        (qOp_put hp (hfree j p hp e hjun hno) (fun cs b => hsel i o cs b ho) (fun cs b => hsel j p cs b hp) hy (H.2 j (ready_mono hj e)).2)
      · by_cases hjk : j = k
        · rw [← hjk]; exact hjun
        · rwa [getD_set_ne true hjk] at hk
      · rw [Array.setIfInBounds_comm _ _ e]
        exact h3.2

theorem headQ_lex {n g : Nat} {K : Act → Prop} (hsel : Region.noSelect ops = true) (hs : Region.sinkB md ops n = true) (hc : Region.chainB md ops n = true) (hn : n < ops.size) :
    ∀ (l : List Oper) (k : Nat) (done : Array Bool) (a : Act), (∀ j, j < l.length → l[j]? = ops[k + j]?) → k + l.length = n → HeadInv md ops n done →
    Region.lexHead md ops g l.length k done = true → wpQuiet P ops C K l a → headQ P md ops C n (fun d a' => Region.seqB md ops g n d = true ∧ K a') l.length done a
  | [], k, done, a, _, hk, _, hB, h => by
    simp only [List.length_nil, Nat.add_zero] at hk
    subst hk
    exact ⟨hB, h⟩
  | o :: l, k, done, a, hl, hk, inv, hB, h => by
    simp only [List.length_cons] at hk
    have ho : ops[k]? = some o := (hl 0 (by simp)).symm
    simp only [List.length_cons, Region.lexHead, Bool.and_eq_true] at hB
    have hr : k ∈ Region.ready md ops done := by simpa using hB.1.1
    have hst : qOp P ops C k (wpQuiet P ops C K l) a := by unfold qOp; simp only [ho]; exact h
    obtain ⟨v, hy, hK⟩ := yieldsIn_of_qOp ho hst
    refine headQ_first ho (Region.noSelect_spec hsel) hs hc hn (by omega) (fun d a' hL => seqB_ready hL.1) l.length done a inv (Region.free_spec ho hB.1.2) hr hy ?_
    refine headQ_lex hsel hs hc hn l (k + 1) _ _ (fun j hj => ?_) (by omega) (inv.set hr (by omega)) hB.2 hK
    have := hl (j + 1) (by simp; omega)
    rw [List.getElem?_cons_succ] at this
    rw [this]
    congr 1
    omega

theorem wp_region_quiet_tail {id : Nat} {Q : Exit → Act → World → Prop} {a : Act} {w : World} {l : List Oper} (n : Nat) (hm : P.follows .mixedOrders = true) (hB : Region.lexTailB .any l.toArray n = true) (hC : C { w with drawn := w.drawn + 1 })
    (h : wpQuiet P l.toArray C (fun a' => ∀ w', C w' → wpList P l.toArray Q (l.drop n) a' w') (l.take n) a) : (Code.region id l.toArray true).wp P Q a w := by
  simp only [Region.lexTailB, Bool.and_eq_true, decide_eq_true_eq] at hB
  obtain ⟨⟨⟨⟨hsel, hn⟩, hs⟩, hc⟩, hlex⟩ := hB
  have hn' : n < l.length := by simpa using hn
  have htl : (l.take n).length = n := by rw [List.length_take]; omega
  have hdl : (l.drop n).length = l.toArray.size - n := by simp
  have inv0 : HeadInv .any l.toArray n (Array.replicate l.toArray.size false) :=
    ⟨by simp, fun j oj _ hl => (by rw [getD_replicate_false] at hl; cases hl), fun t _ ht => getD_in (by simpa using ht) (getD_replicate_false _ _)⟩
  have H := headQ_lex (P := P) (C := C) (md := .any) (g := l.toArray.size - n) hsel hs hc hn (l.take n) 0 _ a (fun j hj => by rw [htl] at hj; simp [hj]) (by omega) inv0 (by rw [htl]; exact hlex) h
  refine wp_region_any hm ?_
  have := any_of_headQ (Q := Q) (g := l.toArray.size - n) (fun done a' w' hw' hL => by
    have := wpAny_of_seq (P := P) (md := .any) (Q' := Q) (l.drop n) n done a' w' (fun j => by simp [List.getElem?_drop]) (by rw [hdl]; exact hL.1) (hL.2 w' hw')
    rwa [hdl] at this) _ _ _ _ hC H
  rw [htl, show n + (l.toArray.size - n) = l.toArray.size by omega] at this
  exact this

theorem wp_region_quiet_tail_ext {id : Nat} {Q : Exit → Act → World → Prop} {a : Act} {w : World} {l : List Oper} (n : Nat) (hm : P.follows .mixedOrders = true) (hB : Region.lexTailB .any l.toArray n = true)
    (h : wpQuiet P l.toArray (fun w' => ∃ X, w' = w.ext X) (fun a' => ∀ w', (∃ X, w' = w.ext X) → wpList P l.toArray Q (l.drop n) a' w') (l.take n) a) : (Code.region id l.toArray true).wp P Q a w :=
  wp_region_quiet_tail (C := fun w' => ∃ X, w' = w.ext X) n hm hB (ext_of_below (w := w) ((Below.refl _ w).drew)) h
end

end Go.Proofs.YtlljejmblmjjnaaGreatDoor

/- Fields of 64-bit words, and words in bytes: plain arithmetic. -/
namespace Go.Proofs.YtlljejmblmjjnaaGreatDoor
set_option linter.unusedVariables false
set_option linter.unusedSimpArgs false
open Go.RowKit

theorem wrap_u64' (n : Int) : IntKind.u64.wrap n = n % 18446744073709551616 := by simp [IntKind.wrap, IntKind.bits, IntKind.signed]
theorem wraps_u64 (n : Int) (h0 : 0 ≤ n) (h1 : n < 2 ^ 64) : IntKind.u64.wrap n = n := by rw [wrap_u64']; omega

theorem ofInt_nat (n : Nat) : BitVec.ofInt 64 (n : Int) = BitVec.ofNat 64 n := BitVec.ofInt_natCast 64 n

theorem or_join {x y : Int} (i : Nat) (hi : i ≤ 64) (hx0 : 0 ≤ x) (hx1 : x < 2 ^ 64) (hx : x % 2 ^ i = 0) (hy0 : 0 ≤ y) (hy : y < 2 ^ i) : bits .or .u64 x y = x + y := by
  refine bits_join .u64 64 (by decide) wraps_u64 i x y hx0 hx hx1 hy0 hy ?_
  have : (2 : Int) ^ i ≤ 2 ^ 64 := by exact_mod_cast Nat.pow_le_pow_right (by decide) hi
  omega
theorem or_comm64 (x y : Int) : bits .or .u64 x y = bits .or .u64 y x := by
  simp only [bits]
  rw [BitVec.or_comm]
theorem or_join' {x y : Int} (i : Nat) (hi : i ≤ 64) (hx0 : 0 ≤ x) (hx1 : x < 2 ^ 64) (hx : x % 2 ^ i = 0) (hy0 : 0 ≤ y) (hy : y < 2 ^ i) : bits .or .u64 y x = y + x := by
  rw [or_comm64, or_join i hi hx0 hx1 hx hy0 hy, Int.add_comm]
theorem and_low {x : Int} (i : Nat) (hi : i ≤ 64) (h0 : 0 ≤ x) (h1 : x < 2 ^ 64) : bits .and .u64 x (2 ^ i - 1) = x % 2 ^ i := bits_mask .u64 64 (by decide) wraps_u64 i hi x h0 h1

theorem andNot_nat (x y r : Nat) (hx : x < 2 ^ 64) (hy : y < 2 ^ 64) (hr : r < 2 ^ 64) (h : ∀ j, j < 64 → r.testBit j = (x.testBit j && !y.testBit j)) : bits .andNot .u64 (x : Int) (y : Int) = r := by
  have e : (BitVec.ofNat 64 x &&& ~~~(BitVec.ofNat 64 y)).toNat = r := by
    apply Nat.eq_of_testBit_eq
    intro j
    rw [BitVec.testBit_toNat, BitVec.getLsbD_and, BitVec.getLsbD_not, BitVec.getLsbD_ofNat, BitVec.getLsbD_ofNat]
    by_cases hj : j < 64
    · rw [h j hj]
      simp [hj]
    · have h1 : r.testBit j = false := Nat.testBit_lt_two_pow (Nat.lt_of_lt_of_le hr (Nat.pow_le_pow_right (by decide) (by omega)))
      rw [h1]
      simp [hj]
  show IntKind.u64.wrap ((BitVec.ofInt 64 (x : Int) &&& ~~~(BitVec.ofInt 64 (y : Int))).toNat : Int) = r
  rw [ofInt_nat, ofInt_nat, e]
  exact wraps_u64 _ (Int.natCast_nonneg _) (by exact_mod_cast hr)

theorem andNot_high (x m i : Nat) (hx : x < 2 ^ i) (hi : i ≤ 64) (hm : 2 ^ i * m < 2 ^ 64) : bits .andNot .u64 (x : Int) ((2 ^ i * m : Nat) : Int) = x := by
  have hx64 : x < 2 ^ 64 := Nat.lt_of_lt_of_le hx (Nat.pow_le_pow_right (by decide) hi)
  refine andNot_nat x (2 ^ i * m) x hx64 hm hx64 fun j _ => ?_
  by_cases hj : j < i
  · rw [Nat.testBit_two_pow_mul]
    simp [hj]
  · have h1 : x.testBit j = false := Nat.testBit_lt_two_pow (Nat.lt_of_lt_of_le hx (Nat.pow_le_pow_right (by decide) (by omega)))
    rw [h1]
    rfl
theorem andNot_low (x i : Nat) (hx : x < 2 ^ i) (hi : i ≤ 64) : bits .andNot .u64 (x : Int) ((2 ^ i - 1 : Nat) : Int) = 0 := by
  have hx64 : x < 2 ^ 64 := Nat.lt_of_lt_of_le hx (Nat.pow_le_pow_right (by decide) hi)
  have hp : 2 ^ i ≤ 2 ^ 64 := Nat.pow_le_pow_right (by decide) hi
  have hpos := Nat.two_pow_pos i
  refine andNot_nat x (2 ^ i - 1) 0 hx64 (by omega) (by omega) fun j _ => ?_
  rw [Nat.zero_testBit, Nat.testBit_two_pow_sub_one]
  by_cases hj : j < i
  · simp [hj]
  · have h1 : x.testBit j = false := Nat.testBit_lt_two_pow (Nat.lt_of_lt_of_le hx (Nat.pow_le_pow_right (by decide) (by omega)))
    rw [h1]
    rfl

/-! ### words in bytes -/
def wordN (bs : List Int) (a : Nat) : Nat → Int
  | 0 => 0
  | k + 1 => wordN bs a k + bs.getD (a + k) 0 * 256 ^ k
def ByteL (bs : List Int) : Prop := ∀ v ∈ bs, 0 ≤ v ∧ v ≤ 255
def bytesK (v : Int) (n : Nat) : List Int := (List.range n).map fun k => v / 256 ^ k % 256

theorem getD_byte {bs : List Int} (h : ByteL bs) (k : Nat) : 0 ≤ bs.getD k 0 ∧ bs.getD k 0 ≤ 255 := by
  rw [List.getD_eq_getElem?_getD]
  cases hc : bs[k]? with
  | none => simp
  | some v => exact h v (List.mem_of_getElem? hc)

theorem wordN_lt {bs : List Int} (h : ByteL bs) (a : Nat) : ∀ n : Nat, 0 ≤ wordN bs a n ∧ wordN bs a n < 256 ^ n
  | 0 => by simp [wordN]
  | n + 1 => by
    have ih := wordN_lt h a n
    have hb := getD_byte h (a + n)
    have hp : (0 : Int) < 256 ^ n := Int.pow_pos (by decide)
    rw [wordN, Int.pow_succ]
    generalize (256 : Int) ^ n = p at *
    generalize bs.getD (a + n) 0 = v at *
    constructor
    · have := Int.mul_nonneg hb.1 (Int.le_of_lt hp)
      omega
    · have : v * p ≤ 255 * p := Int.mul_le_mul_of_nonneg_right hb.2 (Int.le_of_lt hp)
      omega

theorem bytesK_length (v : Int) (n : Nat) : (bytesK v n).length = n := by simp [bytesK]
theorem bytesK_get (v : Int) {n k : Nat} (h : k < n) : (bytesK v n)[k]? = some (v / 256 ^ k % 256) := by simp [bytesK, h]
theorem bytesK_ok (v : Int) (n : Nat) : ByteL (bytesK v n) := fun u hu => by
  obtain ⟨k, _, rfl⟩ := List.mem_map.1 hu
  omega

theorem wordN_congr {bs bs' : List Int} {a n : Nat} (h : ∀ k, k < n → bs.getD (a + k) 0 = bs'.getD (a + k) 0) : wordN bs a n = wordN bs' a n := by
  induction n with
  | zero => rfl
  | succ n ih => rw [wordN, wordN, ih (fun k hk => h k (by omega)), h n (by omega)]

theorem wordN_put_same {bs : List Int} {a : Nat} (v : Int) : ∀ {n m : Nat}, n ≤ m → a + m ≤ bs.length → 0 ≤ v → wordN (putR bs a (bytesK v m)) a n = v % 256 ^ n
  | 0, m, _, _, _ => by simp [wordN, Int.emod_one]
  | n + 1, m, hnm, hm, hv => by
    rw [wordN, wordN_put_same v (by omega) hm hv, List.getD_eq_getElem?_getD, putR_get _ _ _ (by rw [bytesK_length]; exact hm), bytesK_length, if_pos (by omega), show a + n - a = n from by omega, bytesK_get v (by omega)]
    show v % 256 ^ n + v / 256 ^ n % 256 * 256 ^ n = v % 256 ^ (n + 1)
    obtain ⟨u, rfl⟩ := Int.eq_ofNat_of_zero_le hv
    have := Nat.mod_pow_succ (x := u) (b := 256) (k := n)
    have h2 : ((u % 256 ^ (n + 1) : Nat) : Int) = ((u % 256 ^ n + 256 ^ n * (u / 256 ^ n % 256) : Nat) : Int) := by rw [this]
    have h3 : ((256 ^ n : Nat) : Int) = (256 : Int) ^ n := by simp
    have h4 : ((256 ^ (n + 1) : Nat) : Int) = (256 : Int) ^ (n + 1) := by simp
    rw [Int.natCast_add, Int.natCast_mul, Int.natCast_emod, Int.natCast_emod, Int.natCast_emod, Int.natCast_ediv, h3, h4] at h2
    rw [h2, Int.mul_comm ((256 : Int) ^ n)]
    rfl

theorem wordN_put_apart {bs ds : List Int} {a b n : Nat} (hb : b + ds.length ≤ bs.length) (h : a + n ≤ b ∨ b + ds.length ≤ a) : wordN (putR bs b ds) a n = wordN bs a n :=
  wordN_congr fun k hk => by
    rw [List.getD_eq_getElem?_getD, List.getD_eq_getElem?_getD, putR_get _ _ _ hb, if_neg (by omega)]

theorem putR_ok {bs ds : List Int} {a : Nat} (h : ByteL bs) (hd : ByteL ds) : ByteL (putR bs a ds) := fun v hv => by
  unfold putR at hv
  rcases List.mem_append.1 hv with hv | hv
  · exact h v (List.mem_of_mem_take hv)
  · rcases List.mem_append.1 hv with hv | hv
    · exact hd v hv
    · exact h v (List.mem_of_mem_drop hv)

end Go.Proofs.YtlljejmblmjjnaaGreatDoor

/- cells: part, number, Load, Store. -/
namespace Go.Proofs.YtlljejmblmjjnaaGreatDoor
set_option linter.unusedVariables false
set_option linter.unusedSimpArgs false
open Go.RowKit Go.ChangeMaps

def bytesC (bs : List Int) : Array Value := (bs.map (Value.int .u8)).toArray

/-- A memory: its struct's block, its bytes' block. -/
structure CellsAt (w : World) (c b : Nat) (bs : List Int) : Prop where
  obj : w.heap[c]? = some (.cells #[.slice (some ⟨b, 0, none⟩) bs.length bs.length] 174 (0, 0))
  bytes : w.heap[b]? = some (.cells (bytesC bs) 5 (0, 0))
  ok : ByteL bs
  len : bs.length ≤ 1048576

theorem CellsAt.ne {w : World} {c b : Nat} {bs : List Int} (h : CellsAt w c b bs) : c ≠ b := fun e => by
  have h1 := h.obj
  rw [e, h.bytes] at h1
  simp at h1
theorem CellsAt.turned {F : Nat → Prop} {w w' : World} {c b : Nat} {bs : List Int} (h : CellsAt w c b bs) (t : Turned F w w') (hc : ¬ F c) (hb : ¬ F b) : CellsAt w' c b bs :=
  ⟨(t.block _ (lt_of_block h.obj) hc).trans h.obj, (t.block _ (lt_of_block h.bytes) hb).trans h.bytes, h.ok, h.len⟩
theorem CellsAt.below {w w' : World} {c b : Nat} {bs : List Int} (h : CellsAt w c b bs) (hb : Below w.heap.size w w') : CellsAt w' c b bs :=
  h.turned (Turned.of_below (F := fun _ => False) hb (Nat.le_refl _)) (fun h => h) (fun h => h)
theorem CellsAt.cell {w : World} {c b : Nat} {bs : List Int} (h : CellsAt w c b bs) {k : Nat} (hk : k < bs.length) : w.cell? ⟨b, k, none⟩ = some (.int .u8 (bs.getD k 0)) := by
  rw [cell_of_block h.bytes, bytesC, List.getElem?_toArray, List.getElem?_map, List.getElem?_eq_getElem hk, List.getD_eq_getElem?_getD, List.getElem?_eq_getElem hk]
  rfl

theorem bytesK_succ (v : Int) (k : Nat) : bytesK v (k + 1) = bytesK v k ++ [v / 256 ^ k % 256] := by
  unfold bytesK
  rw [List.range_succ, List.map_append]
  rfl

theorem bytesC_set (bs : List Int) (i : Nat) (v : Int) : (bytesC bs).setIfInBounds i (.int .u8 v) = bytesC (bs.set i v) := by
  unfold bytesC
  apply Array.toList_inj.1
  simp [List.map_set]

theorem CellsAt.put {w w' : World} {c b a : Nat} {bs ds : List Int} (h : CellsAt w c b bs) (t : Turned (fun j => j = b) w w') (hy : w'.heap[b]? = some (.cells (bytesC (putR bs a ds)) 5 (0, 0))) (hd : ByteL ds) (hfit : a + ds.length ≤ bs.length) : CellsAt w' c b (putR bs a ds) := by
  have hl := putR_length bs a ds hfit
  refine ⟨?_, hy, putR_ok h.ok hd, by rw [hl]; exact h.len⟩
  rw [hl]
  exact (t.block _ (lt_of_block h.obj) h.ne).trans h.obj

def StoreDone (w : World) (c b : Nat) (bs' : List Int) (e : Ending) (w' : World) : Prop :=
  e = .returned (.int .i64 0) ∧ CellsAt w' c b bs' ∧ Turned (fun j => j = b) w w'

theorem info_byte : (Tryz.prog.info? 5).map (fun i => (i.zero, i.size, i.bytes)) = some (some (.int .u8 0), 1, 1) := by kernel_rfl
theorem und_bytes : Tryz.prog.underlying 130 = some (.slice 5) := by kernel_rfl
theorem run_make_bytes (n : Nat) (hn : n ≤ 1048576) (w : World) :
    (Instr.makeSlice 130 (.int .i64 n) (.int .i64 n)).run Tryz.prog w = .ok (.slice (some ⟨w.heap.size, 0, none⟩) n n) (w.alloc (.cells (bytesC (List.replicate n 0)) 5)) := by
  obtain ⟨i0, hi, hz0, hz1, hz2⟩ := info_parts info_byte
  have := run_make (P := Tryz.prog) w _ _ i0 _ und_bytes hi hz0 .i64 .i64 n n (by omega) (by omega) (by rw [hz2]; omega) (by omega)
  rw [this, hz1]
  have e : madeCells #[.int .u8 0] n = bytesC (List.replicate n 0) := by
    apply Array.ext_getElem?
    intro i
    simp only [madeCells, bytesC, Array.getElem?_map, List.getElem?_toArray, List.getElem?_map, List.getElem?_replicate, Array.getElem?_range]
    by_cases h : i < n
    · simp [h, Nat.mod_one]
    · simp [h]
  simp only [Int.toNat_natCast, Value.cells, Nat.mul_one, e]

def CellsNewPost (w : World) (n : Nat) (e : Ending) (w' : World) : Prop :=
  e = .returned (.tuple #[.pointer (some ⟨w.heap.size + 1, 0, none⟩), .int .i64 0]) ∧ CellsAt w' (w.heap.size + 1) w.heap.size (List.replicate n 0) ∧ Below w.heap.size w w' ∧ w'.heap.size = w.heap.size + 2

set_option maxHeartbeats 400000 in
theorem cellsNew_yes (n : Nat) (w : World) (h : n ≤ 1048576) : Calls Tryz.prog 73 #[.int .i64 n] w (CellsNewPost w n) := by
  have hmk := run_make_bytes n h
  have h1 : ¬ (n : Int) < 0 := by omega
  have h2 : ¬ (1048576 : Int) < n := by omega
  go_enter Tryz.func73, Tryz.ntmps73
  go_wp2
  go_ret2
  refine ⟨by simp, ⟨?_, ?_, fun v hv => by rw [List.mem_replicate] at hv; omega, by rw [List.length_replicate]; exact h⟩, (by repeat (first | exact Below.refl _ _ | assumption | refine Below.alloc ?_ (by first | omega | (simp <;> omega)) _ | refine Below.drew ?_ | refine Below.setCell ?_ (by first | omega | (simp <;> omega)) _ | refine Below.via (by assumption) (by first | omega | (simp <;> omega)) ?_)), by simp⟩
  · rw [List.length_replicate]
    exact heap_alloc2_new _ _ _
  · exact heap_alloc2_old _ _ _

end Go.Proofs.YtlljejmblmjjnaaGreatDoor

/- bits: New, word, Set, Test. -/
namespace Go.Proofs.YtlljejmblmjjnaaGreatDoor
set_option linter.unusedVariables false
set_option linter.unusedSimpArgs false
open Go.RowKit Go.ChangeMaps

def wordsC (ws : List Nat) : Array Value := (ws.map fun (x : Nat) => Value.int .u64 (x : Int)).toArray
def tstB (ws : List Nat) (k : Nat) : Bool := (ws.getD (k / 64) 0).testBit (k % 64)
def setB (ws : List Nat) (k : Nat) : List Nat := ws.set (k / 64) (ws.getD (k / 64) 0 ||| 2 ^ (k % 64))

/-- A row of bits: its struct's block, its words' block. -/
structure RowAt (w : World) (r b n : Nat) (ws : List Nat) : Prop where
  obj : w.heap[r]? = some (.cells #[.int .i64 n, .slice (some ⟨b, 0, none⟩) ws.length ws.length] 154 (0, 0))
  words : w.heap[b]? = some (.cells (wordsC ws) 148 (0, 0))
  len : ws.length = (n + 63) / 64
  most : n ≤ 4096
  ok : ∀ x ∈ ws, x < 2 ^ 64

theorem RowAt.ne {w : World} {r b n : Nat} {ws : List Nat} (h : RowAt w r b n ws) : r ≠ b := fun e => by
  have h1 := h.obj
  rw [e, h.words] at h1
  simp at h1
theorem RowAt.turned {F : Nat → Prop} {w w' : World} {r b n : Nat} {ws : List Nat} (h : RowAt w r b n ws) (t : Turned F w w') (hr : ¬ F r) (hb : ¬ F b) : RowAt w' r b n ws :=
  ⟨(t.block _ (lt_of_block h.obj) hr).trans h.obj, (t.block _ (lt_of_block h.words) hb).trans h.words, h.len, h.most, h.ok⟩
theorem RowAt.below {w w' : World} {r b n : Nat} {ws : List Nat} (h : RowAt w r b n ws) (hb : Below w.heap.size w w') : RowAt w' r b n ws :=
  h.turned (Turned.of_below (F := fun _ => False) hb (Nat.le_refl _)) (fun h => h) (fun h => h)

theorem getD_word {ws : List Nat} (h : ∀ x ∈ ws, x < 2 ^ 64) (i : Nat) : ws.getD i 0 < 2 ^ 64 := by
  rw [List.getD_eq_getElem?_getD]
  cases hc : ws[i]? with
  | none => simp
  | some v => exact h v (List.mem_of_getElem? hc)

theorem and_two (x j : Nat) : x &&& 2 ^ j = if x.testBit j = true then 2 ^ j else 0 := by
  apply Nat.eq_of_testBit_eq
  intro i
  rw [Nat.testBit_and, Nat.testBit_two_pow]
  by_cases h : j = i
  · subst h
    by_cases hx : x.testBit j = true
    · rw [if_pos hx, Nat.testBit_two_pow]; simp [hx]
    · rw [if_neg hx]; simp [hx]
  · by_cases hx : x.testBit j = true
    · rw [if_pos hx, Nat.testBit_two_pow]; simp [h]
    · rw [if_neg hx]; simp [h]

theorem and_bit (x j : Nat) (hx : x < 2 ^ 64) (hj : j < 64) : (bits .and .u64 (x : Int) ((2 ^ j : Nat) : Int) != 0) = x.testBit j := by
  have hp : 2 ^ j < 2 ^ 64 := Nat.pow_lt_pow_right (by decide) hj
  rw [(bits_nat .u64 64 (by decide) wraps_u64 x (2 ^ j) hx hp).1, and_two]
  have := Nat.two_pow_pos j
  cases x.testBit j
  · simp
  · simp only [if_pos]
    rw [bne_iff_ne]
    omega
theorem or_bit (x j : Nat) (hx : x < 2 ^ 64) (hj : j < 64) : bits .or .u64 (x : Int) ((2 ^ j : Nat) : Int) = ((x ||| 2 ^ j : Nat) : Int) := by
  have hp : 2 ^ j < 2 ^ 64 := Nat.pow_lt_pow_right (by decide) hj
  exact (bits_nat .u64 64 (by decide) wraps_u64 x (2 ^ j) hx hp).2

theorem setB_length (ws : List Nat) (k : Nat) : (setB ws k).length = ws.length := by simp [setB]
theorem setB_ok {ws : List Nat} (h : ∀ x ∈ ws, x < 2 ^ 64) (k : Nat) : ∀ x ∈ setB ws k, x < 2 ^ 64 := fun x hx => by
  rcases List.mem_or_eq_of_mem_set hx with hx | rfl
  · exact h x hx
  · exact Nat.or_lt_two_pow (getD_word h _) (Nat.pow_lt_pow_right (by decide) (Nat.mod_lt _ (by decide)))
theorem tst_set {ws : List Nat} {k j : Nat} (hk : k / 64 < ws.length) : tstB (setB ws k) j = (decide (j = k) || tstB ws j) := by
  unfold tstB setB
  rw [List.getD_eq_getElem?_getD, List.getElem?_set]
  by_cases h : k / 64 = j / 64
  · rw [if_pos h, if_pos hk, Option.getD_some, Nat.testBit_or, Nat.testBit_two_pow, ← h]
    by_cases hjk : j = k
    · subst hjk
      simp
    · have : ¬ k % 64 = j % 64 := fun e => hjk (by omega)
      simp [this, hjk]
  · rw [if_neg h, ← List.getD_eq_getElem?_getD]
    have : ¬ j = k := fun e => h (by rw [e])
    simp [this]

set_option maxHeartbeats 400000 in
theorem word_no (r b n : Nat) (ws : List Nat) (k : Int) (w : World) (h : RowAt w r b n ws) (hk : k < 0 ∨ (n : Int) ≤ k) :
    Calls Tryz.prog 146 #[.pointer (some ⟨r, 0, none⟩), .int .i64 k] w fun e w' => e = .returned (.tuple #[.pointer none, .int .u64 0]) ∧ Below w.heap.size w w' := by
  have c0 : w.cell? ⟨r, 0, none⟩ = some (.int .i64 n) := by rw [cell_of_block h.obj]; rfl
  clear h
  by_cases h1 : k < 0
  · clear hk
    go_enter Tryz.func146, Tryz.ntmps146
    go_wp2
    go_ret2
    exact ⟨rfl, Below.refl _ _⟩
  · have h2 : (n : Int) ≤ k := by omega
    clear hk
    go_enter Tryz.func146, Tryz.ntmps146
    go_wp2
    go_ret2
    exact ⟨rfl, Below.refl _ _⟩

set_option maxHeartbeats 400000 in
theorem word_yes (r b n : Nat) (ws : List Nat) (k : Nat) (w : World) (h : RowAt w r b n ws) (hk : k < n) :
    Calls Tryz.prog 146 #[.pointer (some ⟨r, 0, none⟩), .int .i64 k] w fun e w' => e = .returned (.tuple #[.pointer (some ⟨b, k / 64, none⟩), .int .u64 ((2 ^ (k % 64) : Nat) : Int)]) ∧ Below w.heap.size w w' := by
  have c0 : w.cell? ⟨r, 0, none⟩ = some (.int .i64 n) := by rw [cell_of_block h.obj]; rfl
  have c1 : w.cell? ⟨r, 1, none⟩ = some (.slice (some ⟨b, 0, none⟩) ws.length ws.length) := by rw [cell_of_block h.obj]; rfl
  have hl := h.len
  have hm := h.most
  have h1 : ¬ (k : Int) < 0 := by omega
  have h2 : ¬ n ≤ k := by omega
  have hq : IntKind.i64.wrap ((k : Int).tdiv 64) = ((k / 64 : Nat) : Int) := by
    rw [IntKind.wrap_i64, Int.tdiv_eq_ediv_of_nonneg (by omega)]
    omega
  have hr : (k : Int).tmod 64 = ((k % 64 : Nat) : Int) := by
    rw [Int.tmod_eq_emod_of_nonneg (by omega)]
    omega
  have hi : (0 : Int) ≤ ((k / 64 : Nat) : Int) ∧ ((k / 64 : Nat) : Int) < ws.length := by omega
  have hi3 : k / 64 < ws.length := by omega
  have hsd : (0 : Int) ≤ ((k % 64 : Nat) : Int) ∧ ((k % 64 : Nat) : Int) < 64 := by omega
  clear h
  go_enter Tryz.func146, Tryz.ntmps146
  go_wp2
  (refine wp_region_quiet_ext (by kernel_rfl) (by kernel_rfl) ?_; (repeat (first | go_big_quiet_step ((fail)) | quiet_step ((fail)))); refine wpQuiet_nil ?_; intro w1 hw1; obtain hb := below_of_ext hw1; clear hw1; obtain ⟨hc, hf⟩ := bcell hb; have hz := hb.size; (try simp at hz))
  have hsw : IntKind.u64.wrap (2 ^ (k % 64)) = ((2 ^ (k % 64) : Nat) : Int) := by
    have hp : 2 ^ (k % 64) < 2 ^ 64 := Nat.pow_lt_pow_right (by decide) (Nat.mod_lt _ (by decide))
    have := wraps_u64 ((2 ^ (k % 64) : Nat) : Int) (Int.natCast_nonneg _) (by exact_mod_cast hp)
    simpa using this
  rw [hsw]
  have HBq := Lib.hid hb
  clear hb hc hf hsw
  go_wp2
  go_ret2
  exact ⟨rfl, HBq.out⟩

def SetPost (w : World) (r b n : Nat) (ws : List Nat) (k : Int) (e : Ending) (w' : World) : Prop :=
  if 0 ≤ k ∧ k < n ∧ tstB ws k.toNat = false then e = .returned (.bool true) ∧ RowAt w' r b n (setB ws k.toNat) ∧ Turned (fun j => j = b) w w' else e = .returned (.bool false) ∧ Below w.heap.size w w'

theorem wordsC_get {ws : List Nat} {i : Nat} (h : i < ws.length) : (wordsC ws)[i]? = some (.int .u64 ((ws.getD i 0 : Nat) : Int)) := by
  rw [wordsC, List.getElem?_toArray, List.getElem?_map, List.getElem?_eq_getElem h, List.getD_eq_getElem?_getD, List.getElem?_eq_getElem h]
  rfl

set_option maxHeartbeats 400000 in
theorem set_any (r b n : Nat) (ws : List Nat) (k : Int) (w : World) (h : RowAt w r b n ws) :
    Calls Tryz.prog 115 #[.pointer (some ⟨r, 0, none⟩), .int .i64 k] w (SetPost w r b n ws k) := by
  by_cases hk : 0 ≤ k ∧ k < n
  · obtain ⟨k, rfl⟩ := Int.eq_ofNat_of_zero_le hk.1
    have hkn : k < n := by omega
    have hl := h.len
    have hw := Lib.hid (word_yes r b n ws k w h hkn)
    have hx := getD_word h.ok (k / 64)
    have hj : k % 64 < 64 := Nat.mod_lt _ (by decide)
    have hab := and_bit (ws.getD (k / 64) 0) (k % 64) hx hj
    have hob := or_bit (ws.getD (k / 64) 0) (k % 64) hx hj
    have g0 : w.cell? ⟨b, k / 64, none⟩ = some (.int .u64 ((ws.getD (k / 64) 0 : Nat) : Int)) := by rw [cell_of_block h.words, wordsC_get (by omega)]
    cases ht : tstB ws k
    · have hpost : ∀ (w1 : World), Below w.heap.size w w1 → SetPost w r b n ws (k : Int) (.returned (.bool true)) (w1.setCell ⟨b, k / 64, none⟩ (.int .u64 ((ws.getD (k / 64) 0 ||| 2 ^ (k % 64) : Nat) : Int))) := fun w1 hb => by
        unfold SetPost
        rw [if_pos ⟨by omega, by omega, by rw [Int.toNat_natCast]; exact ht⟩, Int.toNat_natCast]
        have h1 := h.below hb
        refine ⟨rfl, ⟨?_, ?_, by rw [setB_length]; exact h.len, h.most, setB_ok h.ok k⟩, Turned.setCell (F := fun j => j = b) (p := ⟨b, k / 64, none⟩) (Turned.of_below hb (Nat.le_refl _)) (.inl rfl) _⟩
        · rw [Below.heap_setCell _ _ _ _ h1.ne, setB_length]
          exact h1.obj
        · rw [heap_setCell_eq h1.words]
          congr 1
          unfold wordsC setB
          apply Obj.cells.injEq .. |>.mpr
          refine ⟨?_, rfl, rfl⟩
          apply Array.toList_inj.1
          simp [List.map_set]
      have HP := Lib.hid hpost
      have hfz : w.frozen? ⟨b, k / 64, none⟩ = false := frozen_of_row _ _ _ _ _ h.words
      have hz : (bits .and .u64 ((ws.getD (k / 64) 0 : Nat) : Int) ((2 ^ (k % 64) : Nat) : Int) != 0) = false := by rw [hab]; exact ht
      have HOB := Lib.hid hob
      have HB := Lib.hid (cell_lt g0)
      clear h hab hob hpost hl hk ht hx
      generalize ws.getD (k / 64) 0 = x at *
      generalize 2 ^ (k % 64) = pw at *
      go_enter Tryz.func115, Tryz.ntmps115
      go_wp2_with (fail)
      refine hw.out.mono ?_
      rintro e w1 ⟨rfl, hb⟩
      have g1 := cell_past hb (cell_lt g0) g0
      have f1 : w1.frozen? ⟨b, k / 64, none⟩ = false := (hb.frozen (p := ⟨b, k / 64, none⟩) HB.out).trans hfz
      have HBq := Lib.hid hb
      clear hb
      have HP2 := Lib.hid (HP.out w1 HBq.out)
      rw [← HOB.out] at HP2
      go_wp2
      go_ret
      exact HP2.out
    · have hz : (bits .and .u64 ((ws.getD (k / 64) 0 : Nat) : Int) ((2 ^ (k % 64) : Nat) : Int) != 0) = true := by rw [hab]; exact ht
      have hpost : ∀ (w1 : World), Below w.heap.size w w1 → SetPost w r b n ws (k : Int) (.returned (.bool false)) w1 := fun w1 hb => by
        unfold SetPost
        rw [if_neg (fun hh => by rw [Int.toNat_natCast, ht] at hh; cases hh.2.2)]
        exact ⟨rfl, hb⟩
      have HP := Lib.hid hpost
      clear h hab hob hl hk ht hpost hx
      generalize ws.getD (k / 64) 0 = x at *
      generalize 2 ^ (k % 64) = pw at *
      go_enter Tryz.func115, Tryz.ntmps115
      go_wp2_with (fail)
      refine hw.out.mono ?_
      rintro e w1 ⟨rfl, hb⟩
      have g1 := cell_past hb (cell_lt g0) g0
      go_wp2
      go_ret
      exact HP.out w1 hb
  · have hw := Lib.hid (word_no r b n ws k w h (by omega))
    have hpost : ∀ (w1 : World), Below w.heap.size w w1 → SetPost w r b n ws k (.returned (.bool false)) w1 := fun w1 hb => by
      unfold SetPost
      rw [if_neg (fun hh => hk ⟨hh.1, hh.2.1⟩)]
      exact ⟨rfl, hb⟩
    have HP := Lib.hid hpost
    clear h hk hpost
    go_enter Tryz.func115, Tryz.ntmps115
    go_wp2_with (fail)
    refine hw.out.mono ?_
    rintro e w1 ⟨rfl, hb⟩
    go_wp2
    go_ret
    exact HP.out w1 hb

end Go.Proofs.YtlljejmblmjjnaaGreatDoor

/- bits.New. -/
namespace Go.Proofs.YtlljejmblmjjnaaGreatDoor
set_option linter.unusedVariables false
set_option linter.unusedSimpArgs false
open Go.RowKit Go.ChangeMaps

theorem info_word : (Tryz.prog.info? 148).map (fun i => (i.zero, i.size, i.bytes)) = some (some (.int .u64 0), 1, 8) := by kernel_rfl
theorem und_words : Tryz.prog.underlying 145 = some (.slice 148) := by kernel_rfl
theorem run_make_words (n : Nat) (hn : n ≤ 1048576) (w : World) :
    (Instr.makeSlice 145 (.int .i64 n) (.int .i64 n)).run Tryz.prog w = .ok (.slice (some ⟨w.heap.size, 0, none⟩) n n) (w.alloc (.cells (wordsC (List.replicate n 0)) 148)) := by
  obtain ⟨i0, hi, hz0, hz1, hz2⟩ := info_parts info_word
  have := run_make (P := Tryz.prog) w _ _ i0 _ und_words hi hz0 .i64 .i64 n n (by omega) (by omega) (by rw [hz2]; omega) (by omega)
  rw [this, hz1]
  have e : madeCells #[.int .u64 0] n = wordsC (List.replicate n 0) := by
    apply Array.ext_getElem?
    intro i
    simp only [madeCells, wordsC, Array.getElem?_map, List.getElem?_toArray, List.getElem?_map, List.getElem?_replicate, Array.getElem?_range]
    by_cases h : i < n
    · simp [h, Nat.mod_one]
    · simp [h]
  simp only [Int.toNat_natCast, Value.cells, Nat.mul_one, e]

def BitsNewPost (w : World) (n m : Nat) (e : Ending) (w' : World) : Prop :=
  e = .returned (.tuple #[.pointer (some ⟨w.heap.size + 1, 0, none⟩), .int .i64 0]) ∧ RowAt w' (w.heap.size + 1) w.heap.size n (List.replicate m 0) ∧ Below w.heap.size w w' ∧ w'.heap.size = w.heap.size + 2

set_option maxRecDepth 4000 in
set_option maxHeartbeats 400000 in
theorem bitsNew_core (n m : Nat) (hm : m = (n + 63) / 64) (w : World) (h : n ≤ 4096) : Calls Tryz.prog 114 #[.int .i64 n] w (BitsNewPost w n m) := by
  have hmk := run_make_words m (by omega)
  have h1 : ¬ (n : Int) < 0 := by omega
  have h2 : ¬ (4096 : Int) < n := by omega
  have hq : ((n : Int) + 64 - 1) / 64 = (m : Int) := by omega
  have HM := Lib.hid hm
  clear hm
  go_enter Tryz.func114, Tryz.ntmps114
  go_wp2
  go_ret2
  refine ⟨by simp, ⟨?_, ?_, by rw [List.length_replicate]; exact HM.out, h, fun v hv => by rw [List.mem_replicate] at hv; omega⟩, (by repeat (first | exact Below.refl _ _ | assumption | refine Below.alloc ?_ (by first | omega | (simp <;> omega)) _ | refine Below.drew ?_ | refine Below.setCell ?_ (by first | omega | (simp <;> omega)) _ | refine Below.via (by assumption) (by first | omega | (simp <;> omega)) ?_)), by simp⟩
  · rw [List.length_replicate]
    exact heap_alloc2_new _ _ _
  · exact heap_alloc2_old _ _ _

theorem bitsNew_yes (n : Nat) (w : World) (h : n ≤ 4096) : Calls Tryz.prog 114 #[.int .i64 n] w (BitsNewPost w n ((n + 63) / 64)) := bitsNew_core n _ rfl w h

theorem tst_none (n j : Nat) : tstB (List.replicate n 0) j = false := by
  unfold tstB
  rw [List.getD_eq_getElem?_getD, List.getElem?_replicate]
  by_cases h : j / 64 < n
  · simp [h]
  · simp [h]

end Go.Proofs.YtlljejmblmjjnaaGreatDoor

/- pack: fields of words. -/
namespace Go.Proofs.YtlljejmblmjjnaaGreatDoor
set_option linter.unusedVariables false
set_option linter.unusedSimpArgs false
open Go.RowKit Go.ChangeMaps

set_option maxHeartbeats 400000 in
theorem wide_yes (d : Nat) (h1 : 1 ≤ d) (h2 : d ≤ 64) (w : World) : Calls Tryz.prog 176 #[.int .i64 d] w fun e w' => e = .returned (.bool true) ∧ w' = w := by
  have c1 : (1 : Int) ≤ (d : Int) := by omega
  have c2 : (d : Int) ≤ 64 := by omega
  go_enter Tryz.func176, Tryz.ntmps176
  go_wp2
  go_ret
  exact ⟨rfl, rfl⟩

theorem mask_shift (d : Nat) (h2 : d ≤ 64) : (18446744073709551615 : Int) / 2 ^ (64 - d) = ((2 ^ d - 1 : Nat) : Int) := by
  have hp : 2 ^ d * 2 ^ (64 - d) = 2 ^ 64 := by rw [← Nat.pow_add]; congr 1; omega
  have h1 : 0 < 2 ^ (64 - d) := Nat.two_pow_pos _
  have h3 : 0 < 2 ^ d := Nat.two_pow_pos _
  have e : (18446744073709551615 : Nat) / 2 ^ (64 - d) = 2 ^ d - 1 := by
    generalize 2 ^ d = a at *
    generalize 2 ^ (64 - d) = b at *
    obtain ⟨a', rfl⟩ : ∃ a', a = a' + 1 := ⟨a - 1, by omega⟩
    rw [Nat.add_mul, Nat.one_mul] at hp
    have hb : 18446744073709551615 = a' * b + (b - 1) := by omega
    rw [hb, Nat.add_comm, Nat.add_mul_div_right _ _ h1, Nat.div_eq_of_lt (by omega)]
    omega
  rw [← e]
  simp

set_option maxHeartbeats 400000 in
theorem mask_yes (d : Nat) (h1 : 1 ≤ d) (h2 : d ≤ 64) (w : World) : Calls Tryz.prog 159 #[.int .i64 d] w fun e w' => e = .returned (.int .u64 ((2 ^ d - 1 : Nat) : Int)) ∧ w' = w := by
  have hc := mask_shift d h2
  go_enter Tryz.func159, Tryz.ntmps159
  go_wp2
  go_ret
  exact ⟨rfl, rfl⟩

set_option maxHeartbeats 400000 in
theorem right_yes (s d : Nat) (h1 : 1 ≤ d) (h2 : s + d ≤ 64) (w : World) : Calls Tryz.prog 158 #[.agg #[.int .i64 s, .int .i64 d]] w fun e w' => e = .returned (.bool true) ∧ Below w.heap.size w w' := by
  have c1 : (0 : Int) ≤ (s : Int) := by omega
  have c2 : (s : Int) < 64 := by omega
  have c3 : (s : Int) ≤ 64 - (d : Int) := by omega
  have hw := fun w => wide_yes d h1 (by omega) w
  go_enter Tryz.func158, Tryz.ntmps158
  go_wp2_with (go_at_call 176; refine (hw _).mono ?_; rintro e w1 ⟨rfl, rfl⟩)
  go_ret
  exact ⟨rfl, (by repeat (first | exact Below.refl _ _ | assumption | refine Below.alloc ?_ (by first | omega | (simp <;> omega)) _ | refine Below.drew ?_ | refine Below.setCell ?_ (by first | omega | (simp <;> omega)) _ | refine Below.via (by assumption) (by first | omega | (simp <;> omega)) ?_))⟩

theorem put_val (x s d v : Nat) (h1 : 1 ≤ d) (h2 : s + d ≤ 64) (hx : x < 2 ^ s) (hv : v < 2 ^ d) :
    bits .or .u64 (bits .andNot .u64 (x : Int) (IntKind.u64.wrap (((2 ^ d - 1 : Nat) : Int) * 2 ^ s))) (IntKind.u64.wrap ((v : Int) * 2 ^ s)) = ((x + v * 2 ^ s : Nat) : Int) := by
  have hp : 2 ^ d * 2 ^ s ≤ 2 ^ 64 := by rw [← Nat.pow_add]; exact Nat.pow_le_pow_right (by decide) (by omega)
  have hps : 0 < 2 ^ s := Nat.two_pow_pos s
  have hpd : 0 < 2 ^ d := Nat.two_pow_pos d
  have hcs : ((2 ^ s : Nat) : Int) = 2 ^ s := by simp
  have hm : (2 ^ d - 1) * 2 ^ s < 2 ^ 64 := Nat.lt_of_lt_of_le (Nat.mul_lt_mul_of_pos_right (by omega) hps) hp
  have hv2 : v * 2 ^ s < 2 ^ 64 := Nat.lt_of_lt_of_le (Nat.mul_lt_mul_of_pos_right hv hps) hp
  have e1 : IntKind.u64.wrap (((2 ^ d - 1 : Nat) : Int) * 2 ^ s) = ((2 ^ s * (2 ^ d - 1) : Nat) : Int) := by
    rw [← hcs, ← Int.natCast_mul, Nat.mul_comm]
    exact wraps_u64 _ (Int.natCast_nonneg _) (by rw [Nat.mul_comm]; exact_mod_cast hm)
  have e2 : IntKind.u64.wrap ((v : Int) * 2 ^ s) = ((v * 2 ^ s : Nat) : Int) := by
    rw [← hcs, ← Int.natCast_mul]
    exact wraps_u64 _ (Int.natCast_nonneg _) (by exact_mod_cast hv2)
  rw [e1, e2, andNot_high x (2 ^ d - 1) s hx (by omega) (by rw [Nat.mul_comm]; exact hm)]
  rw [or_join' (x := ((v * 2 ^ s : Nat) : Int)) s (by omega) (Int.natCast_nonneg _) (by exact_mod_cast hv2) (by rw [Int.natCast_mul, hcs]; exact Int.mul_emod_left _ _) (Int.natCast_nonneg _) (by exact_mod_cast hx)]
  exact (Int.natCast_add _ _).symm

theorem mask_b (d : Nat) (h1 : 1 ≤ d) (h2 : d ≤ 64) (w : World) : Calls Tryz.prog 159 #[.int .i64 d] w fun e w' => e = .returned (.int .u64 ((2 ^ d - 1 : Nat) : Int)) ∧ Below w.heap.size w w' :=
  (mask_yes d h1 h2 w).mono fun _ _ h => ⟨h.1, h.2 ▸ Below.refl _ _⟩

set_option maxHeartbeats 400000 in
theorem put_asc (x s d v : Nat) (h1 : 1 ≤ d) (h2 : s + d ≤ 64) (hx : x < 2 ^ s) (hv : v < 2 ^ d) (w : World) :
    Calls Tryz.prog 175 #[.int .u64 x, .agg #[.int .i64 s, .int .i64 d], .int .u64 v] w fun e w' => e = .returned (.tuple #[.int .u64 ((x + v * 2 ^ s : Nat) : Int), .bool true]) ∧ Below w.heap.size w w' := by
  have hr := Lib.hid (fun w => right_yes s d h1 h2 w)
  have hm := Lib.hid (fun w => mask_b d h1 (by omega) w)
  have hlow := andNot_low v d hv (by omega)
  generalize hM : ((2 ^ d - 1 : Nat) : Int) = M at hlow hm
  have hM' := Lib.hid hM
  clear hM
  go_enter Tryz.func175, Tryz.ntmps175
  go_wp2_with (first | (go_at_call 158; refine (hr.out _).mono ?_; rintro e w1 ⟨rfl, hb⟩; obtain ⟨hc, hf⟩ := bcell hb; have hz := hb.size; (try simp at hz)) | (go_at_call 159; refine (hm.out _).mono ?_; rintro e w2 ⟨rfl, hb2⟩; obtain ⟨hc2, hf2⟩ := bcell hb2; have hz2 := hb2.size; (try simp at hz2)))
  have Y0 : w2.cell? ⟨w.heap.size, 0, none⟩ = some (.int .i64 s) := by rw [hc2 _ _ (by first | omega | (simp <;> omega)), hc _ _ (by simp)]; simp [go_sem]
  have Y1 : w2.cell? ⟨w.heap.size, 1, none⟩ = some (.int .i64 d) := by rw [hc2 _ _ (by first | omega | (simp <;> omega)), hc _ _ (by simp)]; simp [go_sem]
  have HB := Lib.hid (show Below w.heap.size w w2 from (by repeat (first | exact Below.refl _ _ | assumption | refine Below.alloc ?_ (by first | omega | (simp <;> omega)) _ | refine Below.drew ?_ | refine Below.setCell ?_ (by first | omega | (simp <;> omega)) _ | refine Below.via (by assumption) (by first | omega | (simp <;> omega)) ?_)))
  clear hc hf hc2 hf2 hb hb2
  have hsd : (0 : Int) ≤ (s : Int) ∧ (s : Int) < 64 := by omega
  (refine wp_region_quiet_ext (by kernel_rfl) (by kernel_rfl) ?_; (repeat (first | go_big_quiet_step ((go_at_call 159; refine Calls.ext_of (hm.out _))) | quiet_step ((go_at_call 159; refine Calls.ext_of (hm.out _))))); refine wpQuiet_nil ?_; intro w3 hw3; obtain hb3 := below_of_ext hw3; clear hw3; obtain ⟨hc3, hf3⟩ := bcell hb3; have hz3 := hb3.size; (try simp at hz3))
  have hval : bits .or .u64 (bits .andNot .u64 (x : Int) (IntKind.u64.wrap (M * 2 ^ s))) (IntKind.u64.wrap ((v : Int) * 2 ^ s)) = ((x + v * 2 ^ s : Nat) : Int) := by
    rw [← hM'.out]
    exact put_val x s d v h1 h2 hx hv
  rw [hval]
  go_wp2
  go_ret2
  exact ⟨rfl, Below.via hb3 (by omega) HB.out⟩

end Go.Proofs.YtlljejmblmjjnaaGreatDoor

/- pack: Get, Apart. -/
namespace Go.Proofs.YtlljejmblmjjnaaGreatDoor
set_option linter.unusedVariables false
set_option linter.unusedSimpArgs false
open Go.RowKit Go.ChangeMaps

theorem get_val (x s d : Nat) (h2 : s + d ≤ 64) (hx : x < 2 ^ 64) :
    bits .and .u64 ((x : Int) / 2 ^ s) ((2 ^ d - 1 : Nat) : Int) = ((x / 2 ^ s % 2 ^ d : Nat) : Int) := by
  have hpd : 0 < 2 ^ d := Nat.two_pow_pos d
  have hcs : ((2 ^ s : Nat) : Int) = 2 ^ s := by simp
  have hcd : ((2 ^ d : Nat) : Int) = 2 ^ d := by simp
  have e : ((2 ^ d - 1 : Nat) : Int) = (2 : Int) ^ d - 1 := by rw [← hcd]; omega
  have hle : x / 2 ^ s ≤ x := Nat.div_le_self _ _
  rw [e, ← hcs, ← Int.natCast_ediv, and_low d (by omega) (Int.natCast_nonneg _) (by exact_mod_cast Nat.lt_of_le_of_lt hle hx), ← hcd]
  exact (Int.natCast_emod _ _).symm

set_option maxHeartbeats 400000 in
theorem get_yes (x s d : Nat) (h1 : 1 ≤ d) (h2 : s + d ≤ 64) (hx : x < 2 ^ 64) (w : World) :
    Calls Tryz.prog 136 #[.int .u64 x, .agg #[.int .i64 s, .int .i64 d]] w fun e w' => e = .returned (.tuple #[.int .u64 ((x / 2 ^ s % 2 ^ d : Nat) : Int), .bool true]) ∧ Below w.heap.size w w' := by
  have hr := Lib.hid (fun w => right_yes s d h1 h2 w)
  have hm := Lib.hid (fun w => mask_b d h1 (by omega) w)
  have hval := get_val x s d h2 hx
  generalize ((2 ^ d - 1 : Nat) : Int) = M at hval hm
  have hV := Lib.hid hval
  clear hval
  go_enter Tryz.func136, Tryz.ntmps136
  go_wp2_with (go_at_call 158; refine (hr.out _).mono ?_; rintro e w1 ⟨rfl, hb⟩; obtain ⟨hc, hf⟩ := bcell hb; have hz := hb.size; (try simp at hz))
  have Y0 : w1.cell? ⟨w.heap.size, 0, none⟩ = some (.int .i64 s) := by rw [hc _ _ (by simp)]; simp [go_sem]
  have Y1 : w1.cell? ⟨w.heap.size, 1, none⟩ = some (.int .i64 d) := by rw [hc _ _ (by simp)]; simp [go_sem]
  have HB := Lib.hid (show Below w.heap.size w w1 from (by repeat (first | exact Below.refl _ _ | assumption | refine Below.alloc ?_ (by first | omega | (simp <;> omega)) _ | refine Below.drew ?_ | refine Below.setCell ?_ (by first | omega | (simp <;> omega)) _ | refine Below.via (by assumption) (by first | omega | (simp <;> omega)) ?_)))
  clear hc hf hb
  have hsd : (0 : Int) ≤ (s : Int) ∧ (s : Int) < 64 := by omega
  (refine wp_region_quiet_ext (by kernel_rfl) (by kernel_rfl) ?_; (repeat (first | go_big_quiet_step ((go_at_call 159; refine Calls.ext_of (hm.out _))) | quiet_step ((go_at_call 159; refine Calls.ext_of (hm.out _))))); refine wpQuiet_nil ?_; intro w3 hw3; obtain hb3 := below_of_ext hw3; clear hw3; obtain ⟨hc3, hf3⟩ := bcell hb3; have hz3 := hb3.size; (try simp at hz3))
  rw [hV.out]
  go_wp2
  go_ret2
  exact ⟨rfl, Below.via hb3 (by omega) HB.out⟩

/-! ### rows of fields -/
def fieldsC (fs : List (Nat × Nat)) : Array Value := (fs.flatMap fun f => [Value.int .i64 (f.1 : Int), Value.int .i64 (f.2 : Int)]).toArray
def sumW (fs : List (Nat × Nat)) (k : Nat) : Nat := ((fs.take k).map Prod.snd).sum
/-- Fields that lie one behind the other, from bit 0 on. -/
def AscF (fs : List (Nat × Nat)) : Prop := ∀ k (h : k < fs.length), fs[k].1 = sumW fs k ∧ 1 ≤ fs[k].2 ∧ sumW fs (k + 1) = sumW fs k + fs[k].2 ∧ sumW fs (k + 1) ≤ 64
theorem fieldsC_get {fs : List (Nat × Nat)} {k : Nat} (h : k < fs.length) : (fieldsC fs)[k * 2]? = some (.int .i64 (fs[k].1 : Int)) ∧ (fieldsC fs)[k * 2 + 1]? = some (.int .i64 (fs[k].2 : Int)) := by
  unfold fieldsC
  simp only [List.getElem?_toArray]
  induction fs generalizing k with
  | nil => simp at h
  | cons f r ih =>
    cases k with
    | zero => simp
    | succ k =>
      have hk : k < r.length := by simpa using h
      have := ih hk
      simp only [List.flatMap_cons, List.cons_append, List.nil_append, show (k + 1) * 2 = k * 2 + 1 + 1 from by omega, List.getElem?_cons_succ, List.getElem_cons_succ]
      exact this

theorem own_val (a d : Nat) (h2 : a + d ≤ 64) : IntKind.u64.wrap (((2 ^ d - 1 : Nat) : Int) * 2 ^ a) = ((2 ^ a * (2 ^ d - 1) : Nat) : Int) := by
  have hp : 2 ^ d * 2 ^ a ≤ 2 ^ 64 := by rw [← Nat.pow_add]; exact Nat.pow_le_pow_right (by decide) (by omega)
  have hps : 0 < 2 ^ a := Nat.two_pow_pos a
  have hpd : 0 < 2 ^ d := Nat.two_pow_pos d
  have hcs : ((2 ^ a : Nat) : Int) = 2 ^ a := by simp
  have hm : (2 ^ d - 1) * 2 ^ a < 2 ^ 64 := Nat.lt_of_lt_of_le (Nat.mul_lt_mul_of_pos_right (by omega) hps) hp
  rw [← hcs, ← Int.natCast_mul, Nat.mul_comm]
  exact wraps_u64 _ (Int.natCast_nonneg _) (by rw [Nat.mul_comm]; exact_mod_cast hm)
theorem own_and (a d : Nat) (h2 : a + d ≤ 64) : bits .and .u64 ((2 ^ a - 1 : Nat) : Int) ((2 ^ a * (2 ^ d - 1) : Nat) : Int) = 0 := by
  have hp : 2 ^ a * 2 ^ d ≤ 2 ^ 64 := by rw [← Nat.pow_add]; exact Nat.pow_le_pow_right (by decide) (by omega)
  have hps : 0 < 2 ^ a := Nat.two_pow_pos a
  have hpd : 0 < 2 ^ d := Nat.two_pow_pos d
  have hp2 : 2 ^ a ≤ 2 ^ 64 := Nat.pow_le_pow_right (by decide) (by omega)
  have hm : 2 ^ a * (2 ^ d - 1) < 2 ^ 64 := Nat.lt_of_lt_of_le (Nat.mul_lt_mul_of_pos_left (by omega) hps) hp
  rw [(bits_nat .u64 64 (by decide) wraps_u64 _ _ (by omega) hm).1, Nat.and_comm, Nat.and_two_pow_sub_one_eq_mod, Nat.mul_mod_right]
  rfl
theorem own_or (a d : Nat) (h2 : a + d ≤ 64) : bits .or .u64 ((2 ^ a - 1 : Nat) : Int) ((2 ^ a * (2 ^ d - 1) : Nat) : Int) = ((2 ^ (a + d) - 1 : Nat) : Int) := by
  have hp : 2 ^ a * 2 ^ d ≤ 2 ^ 64 := by rw [← Nat.pow_add]; exact Nat.pow_le_pow_right (by decide) (by omega)
  have hps : 0 < 2 ^ a := Nat.two_pow_pos a
  have hpd : 0 < 2 ^ d := Nat.two_pow_pos d
  have hca : ((2 ^ a : Nat) : Int) = 2 ^ a := by simp
  have hm : 2 ^ a * (2 ^ d - 1) < 2 ^ 64 := Nat.lt_of_lt_of_le (Nat.mul_lt_mul_of_pos_left (by omega) hps) hp
  rw [or_join' (x := ((2 ^ a * (2 ^ d - 1) : Nat) : Int)) a (by omega) (Int.natCast_nonneg _) (by exact_mod_cast hm) (by rw [Int.natCast_mul, hca]; exact Int.mul_emod_right _ _) (Int.natCast_nonneg _) (by rw [← hca]; omega)]
  rw [Nat.pow_add, Nat.mul_sub, Nat.mul_one, ← Int.natCast_add]
  congr 1
  have : 2 ^ a ≤ 2 ^ a * 2 ^ d := Nat.le_mul_of_pos_right _ hpd
  omega

set_option maxHeartbeats 800000 in
theorem apart_yes (b cap : Nat) (fs : List (Nat × Nat)) (ha : AscF fs) (w : World) (hl : fs.length < 1000) (hf : w.heap[b]? = some (.cells (fieldsC fs) 206 (0, 0))) :
    Calls Tryz.prog 135 #[.slice (some ⟨b, 0, none⟩) fs.length cap] w fun e w' => e = .returned (.bool true) ∧ Below w.heap.size w w' := by
  have hbl := lt_of_block hf
  have HF := Lib.hid hf
  have HA := Lib.hid ha
  clear hf ha
  go_enter Tryz.func135, Tryz.ntmps135
  go_wp2
  go_loopw [3, 9] (fun u i wr => ∃ k : Nat, k ≤ fs.length ∧ i = .int .i64 k ∧ u = .int .u64 ((2 ^ sumW fs k - 1 : Nat) : Int) ∧ Below w.heap.size w wr) (fun _ i _ => fs.length - (intOf i).toNat)
  case atStart => exact ⟨0, Nat.zero_le _, rfl, rfl, Below.refl _ _⟩
  case round =>
    obtain ⟨k, hk, rfl, rfl, hbw⟩ := hrel
    by_cases hlt : k < fs.length
    · have hgr := (hbw.block _ hbl).trans HF.out
      have y0 : wr.cell? ⟨b, k * 2, none⟩ = some (.int .i64 (fs[k].1 : Int)) := by rw [cell_of_block hgr]; exact (fieldsC_get hlt).1
      have y1 : wr.cell? ⟨b, k * 2 + 1, none⟩ = some (.int .i64 (fs[k].2 : Int)) := by rw [cell_of_block hgr]; exact (fieldsC_get hlt).2
      obtain ⟨q1, q2, q3, q4⟩ := HA.out k hlt
      have hsum := Lib.hid q3
      generalize hs : fs[k].1 = s at *
      generalize hd : fs[k].2 = d at *
      rw [← q1]
      have HN := Lib.hid (show sumW fs (k + 1) = s + d by omega)
      have hi1 : (0 : Int) ≤ k ∧ (k : Int) < fs.length := by omega
      have hkw : IntKind.i64.wrap ((k : Int) + 1) = (k : Int) + 1 := by rw [IntKind.wrap_i64]; omega
      have hr := Lib.hid (fun w => right_yes s d q2 (by omega) w)
      have hm := Lib.hid (fun w => mask_b d q2 (by omega) w)
      have hv1 := own_val s d (by omega)
      have hv2 := own_and s d (by omega)
      have hv3 := own_or s d (by omega)
      have HB := Lib.hid hbw
      have hszb := hbw.size
      clear hgr hsum q1 q3 hs hd hbw
      generalize ((2 ^ d - 1 : Nat) : Int) = M at hv1 hm
      generalize ((2 ^ s * (2 ^ d - 1) : Nat) : Int) = O at hv1 hv2 hv3
      generalize hX : ((2 ^ s - 1 : Nat) : Int) = X at hv2 hv3
      generalize hY : ((2 ^ (s + d) - 1 : Nat) : Int) = Y at hv3
      have HY := Lib.hid hY
      clear hX hY
      have hsd : (0 : Int) ≤ (s : Int) ∧ (s : Int) < 64 := by have := HN.out; omega
      go_wp2_with (go_at_call 158; refine (hr.out _).mono ?_; rintro e w1 ⟨rfl, hb⟩; obtain ⟨hc, hf⟩ := bcell hb; have hz := hb.size; (try simp at hz))
      have Y0 : w1.cell? ⟨wr.heap.size, 0, none⟩ = some (.int .i64 s) := by rw [hc _ _ (by simp)]; simp [go_sem]
      have Y1 : w1.cell? ⟨wr.heap.size, 1, none⟩ = some (.int .i64 d) := by rw [hc _ _ (by simp)]; simp [go_sem]
      have HB1 := Lib.hid (show Below w.heap.size w w1 from Below.via hb (by simp; omega) (HB.out.alloc hszb _))
      have hs1 := HB1.out.size
      clear hc hf hb y0 y1
      (refine wp_region_quiet_ext (by kernel_rfl) (by kernel_rfl) ?_; (repeat (first | go_big_quiet_step ((go_at_call 159; refine Calls.ext_of (hm.out _))) | quiet_step ((go_at_call 159; refine Calls.ext_of (hm.out _))))); refine wpQuiet_nil ?_; intro w3 hw3; obtain hb3 := below_of_ext hw3; clear hw3; obtain ⟨hc3, hf3⟩ := bcell hb3; have hz3 := hb3.size; (try simp at hz3))
      have HB3 := Lib.hid (show Below w.heap.size w w3 from Below.via hb3 (by omega) HB1.out)
      clear hc3 hf3 hb3
      go_wp2
      go_roundw
      case rel => exact ⟨k + 1, by omega, by go_num, by rw [HN.out, ← HY.out], HB3.out⟩
      case measure => simp [intOf]; omega
    · obtain rfl : k = fs.length := by omega
      go_wp2
      go_ret
      exact ⟨rfl, hbw⟩

end Go.Proofs.YtlljejmblmjjnaaGreatDoor

/- pack: Pack. -/
namespace Go.Proofs.YtlljejmblmjjnaaGreatDoor
set_option linter.unusedVariables false
set_option linter.unusedSimpArgs false
open Go.RowKit Go.ChangeMaps

def packN (fs : List (Nat × Nat)) (vs : List Nat) : Nat → Nat
  | 0 => 0
  | k + 1 => packN fs vs k + vs.getD k 0 * 2 ^ sumW fs k
def FitsF (fs : List (Nat × Nat)) (vs : List Nat) : Prop := ∀ k (h : k < fs.length), vs.getD k 0 < 2 ^ fs[k].2
theorem packN_lt {fs : List (Nat × Nat)} {vs : List Nat} (ha : AscF fs) (hv : FitsF fs vs) : ∀ k, k ≤ fs.length → packN fs vs k < 2 ^ sumW fs k
  | 0, _ => Nat.two_pow_pos _
  | k + 1, h => by
    have ih := packN_lt ha hv k (by omega)
    obtain ⟨_, _, q3, _⟩ := ha k (by omega)
    have hk := hv k (by omega)
    rw [packN, q3, Nat.pow_add]
    generalize 2 ^ sumW fs k = a at *
    generalize 2 ^ (fs[k]'(by omega)).2 = b at *
    have : (vs.getD k 0 + 1) * a ≤ b * a := Nat.mul_le_mul_right _ hk
    rw [Nat.add_mul, Nat.one_mul] at this
    rw [Nat.mul_comm a b]
    omega

set_option maxHeartbeats 1000000 in
theorem pack_yes (b cap c cap2 : Nat) (fs : List (Nat × Nat)) (vs : List Nat) (ha : AscF fs) (hv : FitsF fs vs) (hvl : vs.length = fs.length) (w : World) (hl : fs.length < 1000)
    (hf : w.heap[b]? = some (.cells (fieldsC fs) 206 (0, 0))) (hw : w.heap[c]? = some (.cells (wordsC vs) 148 (0, 0))) :
    Calls Tryz.prog 155 #[.slice (some ⟨b, 0, none⟩) fs.length cap, .slice (some ⟨c, 0, none⟩) fs.length cap2] w fun e w' => e = .returned (.tuple #[.int .u64 (packN fs vs fs.length : Int), .bool true]) ∧ Below w.heap.size w w' := by
  have hbl := lt_of_block hf
  have hcl := lt_of_block hw
  have hap := Lib.hid (fun w => apart_yes b cap fs ha w hl)
  have HF := Lib.hid hf
  have HW := Lib.hid hw
  have HA := Lib.hid ha
  have HV := Lib.hid hv
  clear hf hw ha hv
  go_enter Tryz.func155, Tryz.ntmps155
  go_wp2_with (go_at_call 135; refine (hap.out _ HF.out).mono ?_; rintro e w1 ⟨rfl, hb⟩)
  have HB1 := Lib.hid hb
  have hs1 := hb.size
  clear hb
  go_loopw [6, 23] (fun u i wr => ∃ k : Nat, k ≤ fs.length ∧ i = .int .i64 k ∧ u = .int .u64 (packN fs vs k : Int) ∧ Below w.heap.size w wr) (fun _ i _ => fs.length - (intOf i).toNat)
  case atStart => exact ⟨0, Nat.zero_le _, rfl, rfl, HB1.out⟩
  case round =>
    obtain ⟨k, hk, rfl, rfl, hbw⟩ := hrel
    by_cases hlt : k < fs.length
    · have hgr := (hbw.block _ hbl).trans HF.out
      have hgw := (hbw.block _ hcl).trans HW.out
      have y0 : wr.cell? ⟨b, k * 2, none⟩ = some (.int .i64 (fs[k].1 : Int)) := by rw [cell_of_block hgr]; exact (fieldsC_get hlt).1
      have y1 : wr.cell? ⟨b, k * 2 + 1, none⟩ = some (.int .i64 (fs[k].2 : Int)) := by rw [cell_of_block hgr]; exact (fieldsC_get hlt).2
      have y2 : wr.cell? ⟨c, k, none⟩ = some (.int .u64 ((vs.getD k 0 : Nat) : Int)) := by rw [cell_of_block hgw, wordsC_get (by omega)]
      have hput := packN_lt HA.out HV.out k (by omega)
      have hfit := HV.out k hlt
      obtain ⟨q1, q2, q3, q4⟩ := HA.out k hlt
      have hnext : packN fs vs (k + 1) = packN fs vs k + vs.getD k 0 * 2 ^ fs[k].1 := by rw [packN, q1]
      rw [← q1] at hput
      have hP := Lib.hid (fun w => put_asc (packN fs vs k) fs[k].1 fs[k].2 (vs.getD k 0) q2 (by omega) hput hfit w)
      have HN := Lib.hid hnext
      clear hput hfit hnext q1 q2 q3 q4 hgr hgw
      generalize fs[k].1 = s at *
      generalize fs[k].2 = d at *
      generalize vs.getD k 0 = v at *
      generalize hp : packN fs vs k + v * 2 ^ s = p at *
      generalize packN fs vs k = x at *
      clear hp
      have hi1 : (0 : Int) ≤ k ∧ (k : Int) < fs.length := by omega
      have hkw : IntKind.i64.wrap ((k : Int) + 1) = (k : Int) + 1 := by rw [IntKind.wrap_i64]; omega
      have HB := Lib.hid hbw
      have hszb := hbw.size
      clear hbw
      go_wp2
      have Y2 : (wr.alloc (Obj.cells #[Value.int IntKind.i64 s, Value.int IntKind.i64 d] 206)).cell? ⟨c, k, none⟩ = some (.int .u64 v) := by rw [World.cell?_alloc_past _ _ _ (Nat.lt_of_lt_of_le hcl hszb)]; exact y2
      (refine wp_region_quiet_ext (by kernel_rfl) (by kernel_rfl) ?_; (repeat (first | go_big_quiet_step ((go_at_call 175; refine Calls.ext_of (hP.out _))) | quiet_step ((go_at_call 175; refine Calls.ext_of (hP.out _))))); refine wpQuiet_nil ?_; intro w3 hw3; obtain hb3 := below_of_ext hw3; clear hw3; obtain ⟨hc3, hf3⟩ := bcell hb3; have hz3 := hb3.size; (try simp at hz3))
      have HB3 := Lib.hid (show Below w.heap.size w w3 from Below.via hb3 (by simp; omega) (HB.out.alloc hszb _))
      clear hc3 hf3 hb3
      go_wp2
      go_roundw
      case rel => exact ⟨k + 1, by omega, by go_num, by rw [HN.out], HB3.out⟩
      case measure => simp [intOf]; omega
    · obtain rfl : k = fs.length := by omega
      go_wp2
      go_ret2
      exact ⟨rfl, hbw⟩

end Go.Proofs.YtlljejmblmjjnaaGreatDoor

/- pack: Unpack. -/
namespace Go.Proofs.YtlljejmblmjjnaaGreatDoor
set_option linter.unusedVariables false
set_option linter.unusedSimpArgs false
open Go.RowKit Go.ChangeMaps

def unpackN (x : Nat) (fs : List (Nat × Nat)) : List Nat := fs.map fun f => x / 2 ^ f.1 % 2 ^ f.2
def wordsV (ws : List Nat) : List Value := ws.map fun (x : Nat) => Value.int .u64 (x : Int)
theorem cell_one_new (w : World) (a : Value) (T : TypeId) : ∀ j u, [a][j]? = some u → (w.alloc (.cells #[a] T)).cell? ((⟨w.heap.size, 0, none⟩ : Addr).add j) = some u := fun j u hu => by
  match j with
  | 0 => simp at hu; subst hu; simp [go_sem, Addr.add]
  | j + 1 => simp at hu

set_option maxHeartbeats 1000000 in
theorem unpack_yes (x b cap : Nat) (fs : List (Nat × Nat)) (ha : AscF fs) (hx : x < 2 ^ 64) (w : World) (hl : fs.length < 1000) (hf : w.heap[b]? = some (.cells (fieldsC fs) 206 (0, 0))) :
    Calls Tryz.prog 94 #[.int .u64 x, .slice (some ⟨b, 0, none⟩) fs.length cap] w
      fun e w' => ∃ v, e = .returned (.tuple #[v, .bool true]) ∧ w'.ownsRow w.heap.size 148 1 v fs.length (wordsV (unpackN x fs)) ∧ Below w.heap.size w w' := by
  obtain ⟨i0, hi, hz0, hz1, hz2⟩ := info_parts info_word
  have hbl := lt_of_block hf
  have hap := Lib.hid (fun w => apart_yes b cap fs ha w hl)
  have HF := Lib.hid hf
  have HA := Lib.hid ha
  clear hf ha
  go_enter Tryz.func94, Tryz.ntmps94
  go_wp2_with (go_at_call 135; refine (hap.out _ HF.out).mono ?_; rintro e w1 ⟨rfl, hb⟩)
  have HB1 := Lib.hid hb
  have hs1 := hb.size
  clear hb
  go_loopw [6, 16] (fun u i wr => ∃ k : Nat, k ≤ fs.length ∧ i = .int .i64 k ∧ wr.ownsRow w.heap.size 148 1 u k (wordsV (unpackN x (fs.take k))) ∧ Below w.heap.size w wr) (fun _ i _ => fs.length - (intOf i).toNat)
  case atStart => exact ⟨0, Nat.zero_le _, rfl, World.ownsRow_nil _ _ _ _, HB1.out⟩
  case round =>
    obtain ⟨k, hk, rfl, hrow, hbw⟩ := hrel
    by_cases hlt : k < fs.length
    · have hgr := (hbw.block _ hbl).trans HF.out
      have y0 : wr.cell? ⟨b, k * 2, none⟩ = some (.int .i64 (fs[k].1 : Int)) := by rw [cell_of_block hgr]; exact (fieldsC_get hlt).1
      have y1 : wr.cell? ⟨b, k * 2 + 1, none⟩ = some (.int .i64 (fs[k].2 : Int)) := by rw [cell_of_block hgr]; exact (fieldsC_get hlt).2
      obtain ⟨q1, q2, q3, q4⟩ := HA.out k hlt
      have hG := Lib.hid (fun w => get_yes x fs[k].1 fs[k].2 q2 (by omega) hx w)
      have HT := Lib.hid (show wordsV (unpackN x (fs.take (k + 1))) = wordsV (unpackN x (fs.take k)) ++ [.int .u64 ((x / 2 ^ fs[k].1 % 2 ^ fs[k].2 : Nat) : Int)] by
        rw [List.take_succ_eq_append_getElem hlt]; unfold unpackN wordsV; rw [List.map_append, List.map_append]; rfl)
      clear q1 q2 q3 q4 hgr
      generalize x / 2 ^ fs[k].1 % 2 ^ fs[k].2 = v at *
      generalize fs[k].1 = s at *
      generalize fs[k].2 = d at *
      have hi1 : (0 : Int) ≤ k ∧ (k : Int) < fs.length := by omega
      have hkw : IntKind.i64.wrap ((k : Int) + 1) = (k : Int) + 1 := by rw [IntKind.wrap_i64]; omega
      have HB := Lib.hid hbw
      have hszb := hbw.size
      clear hbw
      go_wp2_with (first
        | (go_at_call 136; refine (hG.out _).mono ?_; rintro e w2 ⟨rfl, hb2⟩; have HB2 := Lib.hid (show Below w.heap.size w w2 from Below.via hb2 (by simp; omega) (HB.out.alloc hszb _)); have hrow2 := Lib.hid (ownsRow_below (hrow.alloc _) hb2); have hsz2 := hb2.size; clear hb2)
        | (at_builtin; refine wpList_append_own _ rfl _ _ 145 rfl w.heap.size 148 i0 (.int .u64 0) 1 8 und_words hi hz0 hz1 hz2 rfl (by decide) _ _ _ rfl (hrow2.out.alloc _) ⟨w2.heap.size, 0, none⟩ 1 1 [.int .u64 v] rfl rfl (cell_one_new _ _ _) (fun u hu => by simp at hu; rcases hu with rfl; rfl) (by unfold maxLen; omega) (by omega) (by have := HB2.out.size; simp; omega) ?_; intro v' w3 hown' hgrow3 hnil3))
      have hB3 : Below w.heap.size w w3 := Below.grown (HB2.out.alloc HB2.out.size _) hgrow3 (by have := HB2.out.size; simp; omega) (fun j e => (hrow2.out.lt j e).1)
      go_wp2
      go_roundw
      case rel => exact ⟨k + 1, by omega, by go_num, by rw [HT.out]; exact hown', hB3⟩
      case measure => simp [intOf]; omega
    · obtain rfl : k = fs.length := by omega
      have hend := Lib.hid hrow
      clear hrow
      go_wp2
      go_ret2
      have h1 := hend.out
      rw [List.take_length] at h1
      exact ⟨_, rfl, h1, hbw⟩

end Go.Proofs.YtlljejmblmjjnaaGreatDoor

/- How many bits of a word are set: by adding neighbours. Plain numbers. -/
namespace Go.Proofs.YtlljejmblmjjnaaGreatDoor
set_option linter.unusedVariables false
set_option linter.unusedSimpArgs false

/-- The set bits below n. -/
def onL (x n : Nat) : List Nat := (List.range n).filter fun k => x.testBit k
def ones (x n : Nat) : Nat := (onL x n).length
theorem ones_le (x n : Nat) : ones x n ≤ n := by
  have := List.length_filter_le (fun k => x.testBit k) (List.range n)
  rw [List.length_range] at this
  exact this
theorem ones_succ (x n : Nat) : ones x (n + 1) = ones x n + if x.testBit n then 1 else 0 := by
  unfold ones onL
  rw [List.range_succ, List.filter_append, List.length_append]
  cases h : x.testBit n <;> simp [h]
theorem lane_bit (b q : Nat) (hb : b < 256) (j : Nat) : (b + 256 * q).testBit j = if j < 8 then b.testBit j else q.testBit (j - 8) := by
  rw [Nat.add_comm, show 256 = 2 ^ 8 from rfl]
  exact Nat.testBit_two_pow_mul_add q hb j
theorem and_lane (b q c m : Nat) (hb : b < 256) (hc : c < 256) : (b + 256 * q) &&& (c + 256 * m) = (b &&& c) + 256 * (q &&& m) := by
  have hbc : b &&& c < 256 := Nat.lt_of_le_of_lt Nat.and_le_left hb
  apply Nat.eq_of_testBit_eq
  intro j
  rw [Nat.testBit_and, lane_bit b q hb, lane_bit c m hc, lane_bit _ _ hbc]
  by_cases h : j < 8
  · rw [if_pos h, if_pos h, if_pos h, Nat.testBit_and]
  · rw [if_neg h, if_neg h, if_neg h, Nat.testBit_and]
theorem ones_lane (b q : Nat) (hb : b < 256) : ∀ n, ones (b + 256 * q) (8 + n) = ones b 8 + ones q n
  | 0 => by
    unfold ones onL
    rw [Nat.add_zero, List.range_zero, List.filter_nil, List.length_nil, Nat.add_zero]
    congr 1
    apply List.filter_congr
    intro k hk
    rw [List.mem_range] at hk
    rw [lane_bit b q hb, if_pos hk]
  | n + 1 => by
    rw [← Nat.add_assoc, ones_succ (b + 256 * q), ones_lane b q hb n, ones_succ q, lane_bit b q hb, if_neg (show ¬ 8 + n < 8 by omega), Nat.add_sub_cancel_left, Nat.add_assoc]

/-- A number by its bytes. -/
def valB : List Nat → Nat
  | [] => 0
  | b :: l => b + 256 * valB l
def lanes (c : Nat) (n : Nat) : Nat := valB (List.replicate n c)
theorem ones_val : ∀ l : List Nat, (∀ b ∈ l, b < 256) → ones (valB l) (8 * l.length) = (l.map fun b => ones b 8).sum
  | [], _ => rfl
  | b :: l, h => by
    have ih := ones_val l fun x hx => h x (List.mem_cons_of_mem _ hx)
    rw [valB, List.length_cons, show 8 * (l.length + 1) = 8 + 8 * l.length by omega, ones_lane b _ (h b List.mem_cons_self), ih, List.map_cons, List.sum_cons]
theorem and_small (b q c k : Nat) (hc : c < 2 ^ k) : (b + 2 ^ k * q) &&& c = b % 2 ^ k &&& c := by
  apply Nat.eq_of_testBit_eq
  intro j
  rw [Nat.testBit_and, Nat.testBit_and]
  by_cases h : j < k
  · have e : (b + 2 ^ k * q) % 2 ^ k = b % 2 ^ k := Nat.add_mul_mod_self_left b _ q
    have e1 := congrArg (fun z => Nat.testBit z j) e
    simp only [Nat.testBit_mod_two_pow, h, decide_true, Bool.true_and] at e1
    rw [e1, Nat.testBit_mod_two_pow]
    simp [h]
  · have hcj : c.testBit j = false := Nat.testBit_lt_two_pow (Nat.lt_of_lt_of_le hc (Nat.pow_le_pow_right (by decide) (by omega)))
    rw [hcj, Bool.and_false, Bool.and_false]
/-- A step with a mask that leaves out what comes from the next byte. -/
theorem step_val (k c : Nat) (hk : k ≤ 8) (hc : c < 2 ^ (8 - k)) (hs : ∀ b, b < 256 → (b / 2 ^ k &&& c) + (b &&& c) < 256) : ∀ l : List Nat, (∀ b ∈ l, b < 256) →
    (valB l / 2 ^ k &&& lanes c l.length) + (valB l &&& lanes c l.length) = valB (l.map fun b => (b / 2 ^ k &&& c) + (b &&& c))
  | [], _ => by simp [valB, lanes]
  | b :: l, h => by
    have ih := step_val k c hk hc hs l fun x hx => h x (List.mem_cons_of_mem _ hx)
    have hb := h b List.mem_cons_self
    have hp : 0 < 2 ^ k := Nat.two_pow_pos k
    have h256 : 256 = 2 ^ k * 2 ^ (8 - k) := by rw [← Nat.pow_add, Nat.add_sub_cancel' hk]
    have hc2 : c < 256 := Nat.lt_of_lt_of_le hc (by rw [show 256 = 2 ^ 8 from rfl]; exact Nat.pow_le_pow_right (by decide) (by omega))
    have hl : lanes c (b :: l).length = c + 256 * lanes c l.length := rfl
    rw [hl]
    show ((b + 256 * valB l) / 2 ^ k &&& (c + 256 * lanes c l.length)) + ((b + 256 * valB l) &&& (c + 256 * lanes c l.length)) = ((b / 2 ^ k &&& c) + (b &&& c)) + 256 * valB (l.map fun b => (b / 2 ^ k &&& c) + (b &&& c))
    have hd : (b + 256 * valB l) / 2 ^ k = (b / 2 ^ k + 2 ^ (8 - k) * (valB l % 2 ^ k)) + 256 * (valB l / 2 ^ k) := by
      have e1 : (b + 256 * valB l) / 2 ^ k = b / 2 ^ k + 2 ^ (8 - k) * valB l := by
        rw [h256, Nat.mul_assoc, Nat.add_mul_div_left _ _ hp]
      have e2 : valB l = 2 ^ k * (valB l / 2 ^ k) + valB l % 2 ^ k := (Nat.div_add_mod _ _).symm
      have e3 : 2 ^ (8 - k) * valB l = 256 * (valB l / 2 ^ k) + 2 ^ (8 - k) * (valB l % 2 ^ k) := by
        conv => lhs; rw [e2]
        rw [Nat.mul_add, ← Nat.mul_assoc, Nat.mul_comm (2 ^ (8 - k)) (2 ^ k), ← h256]
      omega
    have hbd : b / 2 ^ k < 2 ^ (8 - k) := by
      rw [Nat.div_lt_iff_lt_mul hp, Nat.mul_comm, ← h256]
      exact hb
    have hlo : b / 2 ^ k + 2 ^ (8 - k) * (valB l % 2 ^ k) < 256 := by
      have hm := Nat.mod_lt (valB l) hp
      have : 2 ^ (8 - k) * (valB l % 2 ^ k + 1) ≤ 2 ^ (8 - k) * 2 ^ k := Nat.mul_le_mul_left _ hm
      rw [Nat.mul_comm (2 ^ (8 - k)) (2 ^ k), ← h256, Nat.mul_add] at this
      omega
    rw [hd, and_lane _ _ _ _ hlo hc2, and_lane _ _ _ _ hb hc2, and_small _ _ _ _ hc, Nat.mod_eq_of_lt hbd, ← ih]
    omega
/-- The step that adds nibbles. -/
theorem nib_val : ∀ l : List Nat, (∀ b ∈ l, b % 16 ≤ 4 ∧ b / 16 ≤ 4) → (valB l / 16 + valB l) &&& lanes 15 l.length = valB (l.map fun b => b / 16 + b % 16)
  | [], _ => by simp [valB, lanes]
  | b :: l, h => by
    have ih := nib_val l fun x hx => h x (List.mem_cons_of_mem _ hx)
    have hb := h b List.mem_cons_self
    have hq : valB l % 16 ≤ 4 := by
      cases l with
      | nil => simp [valB]
      | cons x l =>
        have := (h x (List.mem_cons_of_mem _ List.mem_cons_self)).1
        show (x + 256 * valB l) % 16 ≤ 4
        omega
    have hl : lanes 15 (b :: l).length = 15 + 256 * lanes 15 l.length := rfl
    rw [hl]
    show ((b + 256 * valB l) / 16 + (b + 256 * valB l)) &&& (15 + 256 * lanes 15 l.length) = (b / 16 + b % 16) + 256 * valB (l.map fun b => b / 16 + b % 16)
    have e : (b + 256 * valB l) / 16 + (b + 256 * valB l) = (b + b / 16 + 16 * (valB l % 16)) + 256 * (valB l / 16 + valB l) := by omega
    have hlo : b + b / 16 + 16 * (valB l % 16) < 256 := by omega
    have ea : (b + b / 16 + 16 * (valB l % 16)) &&& 15 = b / 16 + b % 16 := by
      rw [show 15 = 2 ^ 4 - 1 from rfl, Nat.and_two_pow_sub_one_eq_mod]
      omega
    rw [e, and_lane _ _ _ _ hlo (by decide), ea, ih]

/-- What a byte comes to. -/
def s1 (b : Nat) : Nat := (b / 2 ^ 1 &&& 85) + (b &&& 85)
def s2 (b : Nat) : Nat := (b / 2 ^ 2 &&& 51) + (b &&& 51)
def s3 (b : Nat) : Nat := b / 16 + b % 16
theorem byte_ones : ∀ b, b < 256 → s1 b < 256 ∧ s2 (s1 b) < 256 ∧ s2 (s1 b) % 16 ≤ 4 ∧ s2 (s1 b) / 16 ≤ 4 ∧ s3 (s2 (s1 b)) = ones b 8 := by decide +kernel
theorem s1_lt : ∀ b, b < 256 → (b / 2 ^ 1 &&& 85) + (b &&& 85) < 256 := by decide +kernel
theorem s2_lt : ∀ b, b < 256 → (b / 2 ^ 2 &&& 51) + (b &&& 51) < 256 := by decide +kernel
def bytesOf (x : Nat) : List Nat := [x % 256, x / 256 % 256, x / 65536 % 256, x / 16777216 % 256, x / 4294967296 % 256, x / 1099511627776 % 256, x / 281474976710656 % 256, x / 72057594037927936 % 256]
theorem bytesOf_val {x : Nat} (h : x < 18446744073709551616) : valB (bytesOf x) = x := by
  unfold bytesOf valB valB valB valB valB valB valB valB valB
  omega
theorem val_lt : ∀ l : List Nat, (∀ b ∈ l, b < 256) → valB l < 256 ^ l.length
  | [], _ => by simp [valB]
  | b :: l, h => by
    have ih := val_lt l fun x hx => h x (List.mem_cons_of_mem _ hx)
    have hb := h b List.mem_cons_self
    rw [List.length_cons, Nat.pow_succ]
    show b + 256 * valB l < _
    omega
theorem val_lt2 : ∀ l : List Nat, (∀ b ∈ l, b ≤ 127) → 2 * valB l < 256 ^ l.length
  | [], _ => by simp [valB]
  | b :: l, h => by
    have ih := val_lt2 l fun x hx => h x (List.mem_cons_of_mem _ hx)
    have hb := h b List.mem_cons_self
    rw [List.length_cons, Nat.pow_succ]
    show 2 * (b + 256 * valB l) < _
    omega
/-- The three steps with masks. -/
theorem ones_steps {x : Nat} (h : x < 18446744073709551616) : ∃ g : List Nat, g.length = 8 ∧ (∀ b ∈ g, b ≤ 8) ∧ g.sum = ones x 64 ∧
    ∃ y z : Nat, (x / 2 &&& 6148914691236517205) + (x &&& 6148914691236517205) = y ∧ y < 18446744073709551616 ∧ (y / 4 &&& 3689348814741910323) + (y &&& 3689348814741910323) = z ∧ z / 16 + z < 18446744073709551616 ∧ (z / 16 + z) &&& 1085102592571150095 = valB g := by
  have hl : ∀ b ∈ bytesOf x, b < 256 := by
    intro b hb
    simp only [bytesOf, List.mem_cons, List.mem_nil_iff, or_false] at hb
    omega
  have e1 := step_val 1 85 (by decide) (by decide) s1_lt (bytesOf x) hl
  rw [bytesOf_val h, show (bytesOf x).length = 8 from rfl, show lanes 85 8 = 6148914691236517205 from by decide] at e1
  have hl1 : ∀ b ∈ (bytesOf x).map s1, b < 256 := by
    intro b hb
    obtain ⟨a, ha, rfl⟩ := List.mem_map.1 hb
    exact (byte_ones a (hl a ha)).1
  have e2 := step_val 2 51 (by decide) (by decide) s2_lt ((bytesOf x).map s1) hl1
  rw [show ((bytesOf x).map s1).length = 8 from rfl, show lanes 51 8 = 3689348814741910323 from by decide] at e2
  have hl2 : ∀ b ∈ ((bytesOf x).map s1).map s2, b % 16 ≤ 4 ∧ b / 16 ≤ 4 := by
    intro b hb
    obtain ⟨a, ha, rfl⟩ := List.mem_map.1 hb
    obtain ⟨c, hc, rfl⟩ := List.mem_map.1 ha
    have := byte_ones c (hl c hc)
    exact ⟨this.2.2.1, this.2.2.2.1⟩
  have e3 := nib_val (((bytesOf x).map s1).map s2) hl2
  rw [show (((bytesOf x).map s1).map s2).length = 8 from rfl, show lanes 15 8 = 1085102592571150095 from by decide] at e3
  have hsum : ((((bytesOf x).map s1).map s2).map s3).sum = ones x 64 := by
    have h1 := ones_val (bytesOf x) hl
    rw [bytesOf_val h] at h1
    have h2 : (((bytesOf x).map s1).map s2).map s3 = (bytesOf x).map fun b => ones b 8 := by
      rw [List.map_map, List.map_map]
      apply List.map_congr_left
      intro b hb
      exact (byte_ones b (hl b hb)).2.2.2.2
    rw [h2, ← h1]
    rfl
  refine ⟨(((bytesOf x).map s1).map s2).map s3, by simp [bytesOf], ?_, hsum, valB ((bytesOf x).map s1), valB (((bytesOf x).map s1).map s2), e1, by have h1 := val_lt ((bytesOf x).map s1) hl1; rw [show ((bytesOf x).map s1).length = 8 from rfl, show 256 ^ 8 = 18446744073709551616 from by decide] at h1; exact h1, e2, ?_, e3⟩
  · intro b hb
    obtain ⟨a, ha, rfl⟩ := List.mem_map.1 hb
    have := hl2 a ha
    unfold s3
    omega
  · have h1 := val_lt2 (((bytesOf x).map s1).map s2) (fun b hb => by have := hl2 b hb; omega)
    rw [show (((bytesOf x).map s1).map s2).length = 8 from rfl, show 256 ^ 8 = 18446744073709551616 from by decide] at h1
    omega
/-- The sums of bytes. -/
theorem ones_sums {g : List Nat} (hl : g.length = 8) (hb : ∀ b ∈ g, b ≤ 8) {v : Nat} (hv : v = valB g) :
    v + v / 256 < 18446744073709551616 ∧ (v + v / 256) + (v + v / 256) / 65536 < 18446744073709551616 ∧ ((v + v / 256) + (v + v / 256) / 65536) + ((v + v / 256) + (v + v / 256) / 65536) / 4294967296 < 9223372036854775808 ∧
    (((v + v / 256) + (v + v / 256) / 65536) + ((v + v / 256) + (v + v / 256) / 65536) / 4294967296) % 128 = g.sum := by
  match g, hl with
  | [a0, a1, a2, a3, a4, a5, a6, a7], _ =>
    have b0 := hb a0 (by simp)
    have b1 := hb a1 (by simp)
    have b2 := hb a2 (by simp)
    have b3 := hb a3 (by simp)
    have b4 := hb a4 (by simp)
    have b5 := hb a5 (by simp)
    have b6 := hb a6 (by simp)
    have b7 := hb a7 (by simp)
    have e : v = a0 + 256 * (a1 + 256 * (a2 + 256 * (a3 + 256 * (a4 + 256 * (a5 + 256 * (a6 + 256 * a7)))))) := by
      rw [hv]
      unfold valB valB valB valB valB valB valB valB valB
      omega
    have e2 : v + v / 256 = (a0 + a1) + 256 * ((a1 + a2) + 256 * ((a2 + a3) + 256 * ((a3 + a4) + 256 * ((a4 + a5) + 256 * ((a5 + a6) + 256 * ((a6 + a7) + 256 * a7)))))) := by omega
    clear e
    generalize v + v / 256 = u at *
    have e3 : u + u / 65536 = (a0 + a1 + a2 + a3) + 256 * ((a1 + a2 + a3 + a4) + 256 * ((a2 + a3 + a4 + a5) + 256 * ((a3 + a4 + a5 + a6) + 256 * ((a4 + a5 + a6 + a7) + 256 * ((a5 + a6 + a7) + 256 * ((a6 + a7) + 256 * a7)))))) := by omega
    have h1 : u < 18446744073709551616 := by omega
    clear e2
    generalize u + u / 65536 = t at *
    have e4 : t / 4294967296 = (a4 + a5 + a6 + a7) + 256 * ((a5 + a6 + a7) + 256 * ((a6 + a7) + 256 * a7)) := by omega
    refine ⟨h1, by omega, by omega, ?_⟩
    simp only [List.sum_cons, List.sum_nil]
    omega

end Go.Proofs.YtlljejmblmjjnaaGreatDoor

/- Slices of whole numbers; small wraps (of the newslab's texts, for seats without newslab). -/
namespace Go.Proofs.YtlljejmblmjjnaaGreatDoor
set_option linter.unusedVariables false
set_option linter.unusedSimpArgs false
open Go.RowKit Go.ChangeMaps

theorem results_tmp4 {fn : Func} {t u v x : Tmp} (h : fn.results = #[.tmp t, .tmp u, .tmp v, .tmp x]) (tmps : Array Value) (P : Program) (w : World) :
    (results fn tmps).run P w = .ok (.tuple #[tmps.getD t undef, tmps.getD u undef, tmps.getD v undef, tmps.getD x undef]) w := by
  simp [results, h]

theorem own_cell {w : World} {base n : Nat} {e : TypeId} {v : Value} {xs : List Value} (h : w.ownsRow base e 1 v n xs) (hn : 0 < n) :
    ∃ g cap, v = .slice (some ⟨g, 0, none⟩) n cap ∧ base ≤ g ∧ ∀ i, i < n → w.cell? ⟨g, i, none⟩ = xs[i]? := by
  rcases h.2 with ⟨_, h0⟩ | ⟨g, cap, cur, rfl, hb, hg, _, _, _, htk⟩
  · omega
  · refine ⟨g, cap, rfl, hb, fun i hi => ?_⟩
    rw [cell_of_block hg, ← htk, List.getElem?_take_of_lt (by omega), Array.getElem?_toList]
def intsV (l : List Int) : List Value := l.map (Value.int .i64)
theorem info_int2 : (Tryz.prog.info? 3).map (fun i => (i.zero, i.size, i.bytes)) = some (some (.int .i64 0), 1, 8) := by kernel_rfl
theorem und_ints2 : Tryz.prog.underlying 38 = some (.slice 3) := by kernel_rfl
def FieldsPost (w : World) (fs : List (Nat × Nat)) (e : Ending) (w' : World) : Prop :=
  e = .returned (.slice (some ⟨w.heap.size, 0, none⟩) fs.length fs.length) ∧ w'.heap[w.heap.size]? = some (.cells (fieldsC fs) 206 (0, 0)) ∧ Below w.heap.size w w' ∧ w.heap.size + 1 ≤ w'.heap.size
/-- A slice of whole numbers. -/
def Ints (w : World) (base : Nat) (v : Value) (l : List Int) : Prop :=
  ∃ p cap, v = .slice p l.length cap ∧ (l ≠ [] → ∃ g, p = some ⟨g, 0, none⟩ ∧ base ≤ g ∧ ∀ i, i < l.length → w.cell? ⟨g, i, none⟩ = some (.int .i64 (l.getD i 0)))
theorem Ints.nil (w : World) (base : Nat) : Ints w base (.slice none 0 0) [] := ⟨none, 0, rfl, fun h => absurd rfl h⟩
theorem Ints.turned {w w' : World} {F : Nat → Prop} {base : Nat} {v : Value} {l : List Int} (h : Ints w base v l) (t : Turned F w w') (hF : ∀ k, F k → k < base) : Ints w' base v l := by
  obtain ⟨p, cap, rfl, hh⟩ := h
  refine ⟨p, cap, rfl, fun hl => ?_⟩
  obtain ⟨g, rfl, hg, hc⟩ := hh hl
  exact ⟨g, rfl, hg, fun i hi => turned_cell t (fun hf => by have := hF _ hf; omega) (hc i hi)⟩
theorem Ints.below {w w' : World} {base : Nat} {v : Value} {l : List Int} (h : Ints w base v l) (hb : Below w.heap.size w w') : Ints w' base v l := h.turned (Turned.of_below (F := fun _ => False) hb (Nat.le_refl _)) (fun _ h => h.elim)
theorem Ints.mono {w : World} {base base' : Nat} {v : Value} {l : List Int} (h : Ints w base v l) (hb : base' ≤ base) : Ints w base' v l := by
  obtain ⟨p, cap, rfl, hh⟩ := h
  refine ⟨p, cap, rfl, fun hl => ?_⟩
  obtain ⟨g, rfl, hg, hc⟩ := hh hl
  exact ⟨g, rfl, by omega, hc⟩
theorem Ints.of_own {w : World} {base n : Nat} {v : Value} {l : List Int} (h : w.ownsRow base 3 1 v n (intsV l)) (hn : n = l.length) : Ints w base v l := by
  subst hn
  by_cases h0 : l = []
  · subst h0
    obtain ⟨p, c, rfl⟩ := own_slice2 h
    exact ⟨p, c, rfl, fun hh => absurd rfl hh⟩
  · obtain ⟨g, cap, rfl, hg, hc⟩ := own_cell h (by have := List.length_pos_iff.2 h0; omega)
    refine ⟨_, cap, rfl, fun _ => ⟨g, rfl, hg, fun i hi => ?_⟩⟩
    rw [hc i hi]
    show (l.map (Value.int .i64))[i]? = _
    rw [List.getElem?_map, List.getD_eq_getElem?_getD, List.getElem?_eq_getElem hi]
    rfl

theorem wraps_i64 (n : Int) (h0 : 0 ≤ n) (h1 : n < 2 ^ 63) : IntKind.i64.wrap n = n := by rw [IntKind.wrap_i64]; omega
theorem and1023 (n : Nat) (h : n < 2 ^ 62) : bits .and .i64 (n : Int) 1023 = ((n % 1024 : Nat) : Int) := by
  have := bits_mask .i64 63 (by decide) wraps_i64 10 (by decide) (n : Int) (Int.natCast_nonneg _) (by omega)
  rw [show (2 : Int) ^ 10 - 1 = 1023 from rfl, show (2 : Int) ^ 10 = 1024 from rfl] at this
  rw [this]
  omega

end Go.Proofs.YtlljejmblmjjnaaGreatDoor
