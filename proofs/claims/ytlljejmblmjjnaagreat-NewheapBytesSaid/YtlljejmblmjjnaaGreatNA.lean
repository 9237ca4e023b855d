/- General lemmas for the walks: worlds, what turns, rows of the call's own, regions by hand. -/
import Derived.Test.YtlljejmblmjjnaaGreatProg
import Derived.WalkKit
import Derived.WalkSpells
import Derived.WalkLawsBesides
import Derived.BigQuiet
import Derived.Lib.Hide
import Derived.BigRegion
import Derived.StillTailTactics
import Derived.Deep.RegionHeld3
import Derived.Deep.RegionLaw
import Derived.Maps.RangeRun
import Derived.Laws.Rows
import Derived.StillTail
import Derived.Deep.Quiet
import Derived.Laws.BitsLemmas
import Derived.Deep.QuietTactic
import Derived.Laws.AppendOwn
namespace Go.Proofs.YtlljejmblmjjnaaGreat
set_option linter.unusedVariables false
set_option linter.unusedSimpArgs false
open Go.RowKit Go.ChangeMaps

theorem bcell {W w1 : World} (hb : Below W.heap.size W w1) :
    (∀ b o, b < W.heap.size → w1.cell? ⟨b, o, none⟩ = W.cell? ⟨b, o, none⟩) ∧ (∀ b o, b < W.heap.size → w1.frozen? ⟨b, o, none⟩ = W.frozen? ⟨b, o, none⟩) :=
  ⟨fun b o h => hb.cell (p := ⟨b, o, none⟩) h, fun b o h => hb.frozen (p := ⟨b, o, none⟩) h⟩

/-- A cell that is there lies in the heap. -/
theorem cell_lt {w : World} {b o : Nat} {v : Value} (h : w.cell? ⟨b, o, none⟩ = some v) : b < w.heap.size := by
  unfold World.cell? at h
  by_cases hb : b < w.heap.size
  · exact hb
  · simp [Array.getElem?_eq_none (by omega : w.heap.size ≤ b)] at h

theorem Below.via {B S : Nat} {w W w1 : World} (h : Below S W w1) (hB : B ≤ S) (k : Below B w W) : Below B w w1 := k.trans (h.mono hB)

theorem ret_int {k : IntKind} {a b : Int} (h : a = b) : Ending.returned (.int k a) = .returned (.int k b) := by rw [h]
theorem ret_bool {a b : Bool} (h : a = b) : Ending.returned (.bool a) = .returned (.bool b) := by rw [h]

/-! ### what turns -/
structure Turned (F : Nat → Prop) (w w' : World) : Prop where
  os : w'.os = w.os
  tape : w'.tape = w.tape
  output : w'.output = w.output
  size : w.heap.size ≤ w'.heap.size
  block : ∀ k, k < w.heap.size → ¬ F k → w'.heap[k]? = w.heap[k]?

theorem Turned.refl (F : Nat → Prop) (w : World) : Turned F w w := ⟨rfl, rfl, rfl, Nat.le_refl _, fun _ _ _ => rfl⟩
theorem Turned.trans {F G : Nat → Prop} {a b c : World} (h : Turned F a b) (k : Turned G b c) (hg : ∀ x, G x → x < a.heap.size → F x) : Turned F a c :=
  ⟨k.os.trans h.os, k.tape.trans h.tape, k.output.trans h.output, Nat.le_trans h.size k.size,
    fun x hx hf => (k.block x (Nat.lt_of_lt_of_le hx h.size) (fun hh => hf (hg x hh hx))).trans (h.block x hx hf)⟩
theorem Turned.mono {F G : Nat → Prop} {a b : World} (h : Turned F a b) (hg : ∀ x, F x → x < a.heap.size → G x) : Turned G a b :=
  ⟨h.os, h.tape, h.output, h.size, fun x hx hf => h.block x hx (fun hh => hf (hg x hh hx))⟩
theorem Turned.of_below {F : Nat → Prop} {B : Nat} {a b : World} (h : Below B a b) (hB : a.heap.size ≤ B) : Turned F a b :=
  ⟨h.os, h.tape, h.output, h.size, fun x hx _ => h.block x (by omega)⟩
theorem Turned.below {F : Nat → Prop} {a b : World} (h : Turned F a b) {B : Nat} (hF : ∀ x, F x → B ≤ x) (hB : B ≤ a.heap.size) : Below B a b :=
  ⟨h.os, h.tape, h.output, h.size, fun x hx => h.block x (by omega) (fun hh => by have := hF x hh; omega)⟩
theorem Turned.setCell {F : Nat → Prop} {a w : World} (h : Turned F a w) {p : Addr} (hp : F p.block ∨ a.heap.size ≤ p.block) (u : Value) : Turned F a (w.setCell p u) := by
  refine h.trans (G := fun x => x = p.block) ⟨rfl, rfl, rfl, by simp [World.setCell], fun k _ hk => Below.heap_setCell _ _ _ _ hk⟩ ?_
  rintro x rfl hx
  rcases hp with hp | hp
  · exact hp
  · omega
theorem Turned.alloc {F : Nat → Prop} {a w : World} (h : Turned F a w) (o : Obj) : Turned F a (w.alloc o) :=
  h.trans (G := fun _ => False) (Turned.of_below ((Below.refl w.heap.size w).alloc (Nat.le_refl _) o) (Nat.le_refl _)) (fun _ hh _ => hh.elim)
theorem Turned.drew {F : Nat → Prop} {a w : World} (h : Turned F a w) : Turned F a w.drew := ⟨h.os, h.tape, h.output, h.size, h.block⟩
theorem heap_setBlock_ne (w : World) (r : Nat) (o : Obj) {k : Nat} (h : k ≠ r) : (setBlock w r o).heap[k]? = w.heap[k]? := by
  simp only [setBlock]
  rw [Array.getElem?_setIfInBounds_ne (Ne.symm h)]
theorem heap_setBlock_eq {w : World} {r : Nat} (h : r < w.heap.size) (o : Obj) : (setBlock w r o).heap[r]? = some o := by
  simp [setBlock, h]
theorem size_setBlock (w : World) (r : Nat) (o : Obj) : (setBlock w r o).heap.size = w.heap.size := by simp [setBlock]
theorem Turned.setBlock {F : Nat → Prop} {a w : World} (h : Turned F a w) {r : Nat} (hp : F r ∨ a.heap.size ≤ r) (o : Obj) : Turned F a (setBlock w r o) := by
  refine h.trans (G := fun x => x = r) ⟨rfl, rfl, rfl, by simp [ChangeMaps.setBlock], fun k _ hk => heap_setBlock_ne _ _ _ hk⟩ ?_
  rintro x rfl hx
  rcases hp with hp | hp
  · exact hp
  · omega

theorem lt_of_block {w : World} {k : Nat} {o : Obj} (h : w.heap[k]? = some o) : k < w.heap.size := (Array.getElem?_eq_some_iff.1 h).1

theorem cell_of_block {w : World} {b : Nat} {c : Array Value} {e : TypeId} {f : Nat × Nat} (h : w.heap[b]? = some (.cells c e f)) (i : Nat) : w.cell? ⟨b, i, none⟩ = c[i]? := by
  simp [World.cell?, h]
theorem frozen_of_block {w : World} {b : Nat} {c : Array Value} {e : TypeId} (h : w.heap[b]? = some (.cells c e (0, 0))) (i : Nat) : w.frozen? ⟨b, i, none⟩ = false := by
  simp [World.frozen?, h]
theorem heap_setCell_eq {w : World} {b i : Nat} {c : Array Value} {e : TypeId} {f : Nat × Nat} (h : w.heap[b]? = some (.cells c e f)) (v : Value) :
    (w.setCell ⟨b, i, none⟩ v).heap[b]? = some (.cells (c.setIfInBounds i v) e f) := by
  simp [World.setCell, Array.getElem?_modify, h]

/-- What was laid, and the count of draws. -/
structure Laid where
  objs : Array Obj
  drawn : Nat
instance : Nonempty Laid := ⟨⟨#[], 0⟩⟩

/-- w, and what was laid since. -/
def _root_.Go.World.ext (w : World) (X : Laid) : World := { w with heap := w.heap ++ X.objs, drawn := X.drawn }

theorem below_ext (w : World) (X : Laid) : Below w.heap.size w (w.ext X) := by
  refine ⟨rfl, rfl, rfl, by simp [World.ext], fun k hk => ?_⟩
  show (w.heap ++ X.objs)[k]? = _
  rw [Array.getElem?_append_left hk]

theorem ext_of_below {w w' : World} (h : Below w.heap.size w w') : ∃ X, w' = w.ext X := by
  refine ⟨⟨w'.heap.extract w.heap.size w'.heap.size, w'.drawn⟩, ?_⟩
  obtain ⟨hp, tp, dr, os, out⟩ := w'
  obtain ⟨h1, h2, h3, h4, h5⟩ := h
  simp only at h1 h2 h3 h4 h5
  subst h1 h2 h3
  simp only [World.ext, World.mk.injEq, and_true]
  apply Array.ext_getElem?
  intro i
  by_cases hi : i < w.heap.size
  · rw [Array.getElem?_append_left hi]; exact h5 i hi
  · rw [Array.getElem?_append_right (by omega)]
    simp only [Array.getElem?_extract]
    by_cases hj : i < hp.size
    · rw [if_pos (by omega), show w.heap.size + (i - w.heap.size) = i from by omega]
    · rw [if_neg (by omega)]; exact Array.getElem?_eq_none (by omega)

theorem below_of_ext {w w' : World} (h : ∃ X, w' = w.ext X) : Below w.heap.size w w' := by
  obtain ⟨X, rfl⟩ := h
  exact below_ext w X

theorem cell_lt' {w : World} {a : Addr} (h : (w.cell? a).isSome = true) : a.block < w.heap.size := by
  unfold World.cell? at h
  by_cases hb : a.block < w.heap.size
  · exact hb
  · simp [Array.getElem?_eq_none (by omega : w.heap.size ≤ a.block)] at h

@[go_sem] theorem cell?_ext (w : World) (X : Laid) (a : Addr) (h : (w.cell? a).isSome = true) : (w.ext X).cell? a = w.cell? a :=
  (below_ext w X).cell (cell_lt' h)
@[go_sem] theorem frozen?_ext (w : World) (X : Laid) (a : Addr) (h : (w.cell? a).isSome = true) : (w.ext X).frozen? a = w.frozen? a :=
  (below_ext w X).frozen (cell_lt' h)

theorem wp_region_quiet_ext {P : Program} {id : Nat} {Q : Exit → Act → World → Prop} {a : Act} {w : World} {l : List Oper} (hm : P.follows .mixedOrders = true) (hB : Region.lexB .any l.toArray = true)
    (h : wpQuiet P l.toArray (fun w' => ∃ X, w' = w.ext X) (fun a' => ∀ w', (∃ X, w' = w.ext X) → Q .normal a' w') l a) : (Code.region id l.toArray true).wp P Q a w :=
  wp_region_quiet (C := fun w' => ∃ X, w' = w.ext X) hm hB (ext_of_below (w := w) ((Below.refl _ w).drew)) (by simpa using h)

theorem Calls.ext_of {P : Program} {f : FuncId} {args : Array Value} {w : World} {X : Laid} {v : Value}
    (h : Calls P f args (w.ext X) fun e w' => e = .returned v ∧ Below (w.ext X).heap.size (w.ext X) w') : Calls P f args (w.ext X) fun e w' => e = .returned v ∧ ∃ Y, w' = w.ext Y :=
  h.mono fun _ _ ⟨he, hb⟩ => ⟨he, ext_of_below ((below_ext w X).trans (hb.mono (below_ext w X).size))⟩
theorem Calls.ext_same {P : Program} {f : FuncId} {args : Array Value} {w : World} {X : Laid} {v : Value}
    (h : Calls P f args (w.ext X) fun e w' => e = .returned v ∧ w.ext X = w') : Calls P f args (w.ext X) fun e w' => e = .returned v ∧ ∃ Y, w' = w.ext Y :=
  h.mono fun _ _ ⟨he, hb⟩ => ⟨he, X, hb.symm⟩

theorem cell_past {w W : World} {B b o : Nat} {v : Value} (hb : Below B w W) (hB : b < B) (h : w.cell? ⟨b, o, none⟩ = some v) : W.cell? ⟨b, o, none⟩ = some v := by
  rw [hb.cell (p := ⟨b, o, none⟩) hB]; exact h

theorem turned_cell {G : Nat → Prop} {w W : World} (t : Turned G w W) {b o : Nat} {v : Value} (hg : ¬ G b) (h : w.cell? ⟨b, o, none⟩ = some v) : W.cell? ⟨b, o, none⟩ = some v := by
  have := t.block b (cell_lt h) hg
  unfold World.cell? at h ⊢
  simp only [this]
  exact h

theorem ownsRow_below {w W : World} {base : Nat} {e : TypeId} {size n : Nat} {v : Value} {xs : List Value} (h : w.ownsRow base e size v n xs) (hb : Below w.heap.size w W) : W.ownsRow base e size v n xs := by
  refine ⟨h.1, ?_⟩
  rcases h.2 with h0 | ⟨g, cap, cur, rfl, h1, h2, h3⟩
  · exact .inl h0
  · exact .inr ⟨g, cap, cur, rfl, h1, (hb.block _ (lt_of_block h2)).trans h2, h3⟩

/-- What of F turned, and what came. -/
def Tn (F : Nat → Prop) (w w' : World) : Prop := Turned F w w'
theorem Tn.trans {F : Nat → Prop} {a b c : World} (h : Tn F a b) (k : Tn F b c) : Tn F a c := Turned.trans h k (fun _ h _ => h)
theorem Tn.size {F : Nat → Prop} {a b : World} (h : Tn F a b) : a.heap.size ≤ b.heap.size := Turned.size h
theorem Tn.setCell {F : Nat → Prop} {a w : World} (h : Tn F a w) {p : Addr} (hp : F p.block) (u : Value) : Tn F a (w.setCell p u) := Turned.setCell h (.inl hp) u
theorem tof {F : Nat → Prop} {a b : World} (h : Below a.heap.size a b) : Tn F a b := Turned.of_below h (Nat.le_refl _)
theorem fge {F : Nat → Prop} {n n' : Nat} (h : ∀ k, n ≤ k → F k) (hn : n ≤ n') : ∀ k, n' ≤ k → F k := fun k hk => h k (Nat.le_trans hn hk)
theorem own_mono {w : World} {base base' : Nat} {e : TypeId} {size : Nat} {v : Value} {n : Nat} {xs : List Value} (h : w.ownsRow base e size v n xs) (hb : base' ≤ base) : w.ownsRow base' e size v n xs :=
  ⟨h.1, h.2.imp id fun ⟨g, cap, cur, h1, h2, h3⟩ => ⟨g, cap, cur, h1, Nat.le_trans hb h2, h3⟩⟩
theorem own_ge {F : Nat → Prop} {w : World} {base : Nat} {e : TypeId} {size : Nat} {v : Value} {n : Nat} {xs : List Value} (h : w.ownsRow base e size v n xs) (hF : ∀ k, base ≤ k → F k) : ∀ g, v.ownBlock = some g → F g := fun g hg => hF g (h.lt g hg).1

theorem own_slice2 {w : World} {base n size : Nat} {T : TypeId} {v : Value} {xs : List Value} (h : w.ownsRow base T size v n xs) : ∃ p c, v = .slice p n c := by
  rcases h.2 with ⟨h0, h1⟩ | ⟨g, cap, cur, h0, _⟩
  · exact ⟨none, 0, by rw [h0, h1]⟩
  · exact ⟨_, _, h0⟩

theorem lay_grown {B : Nat} {W0 w1 w3 : World} {v : Value} {k : Nat} {xs : List Value} {o : Obj} {T : TypeId} {size : Nat} (hb : Below B W0 w1) (hr : w1.ownsRow B T size v k xs) (hg : (w1.alloc o).grownBy w3 v.ownBlock) (hB : B < W0.heap.size) : Below B W0 w3 :=
  Below.grown (hb.alloc (Nat.le_trans (Nat.le_of_lt hB) hb.size) o) hg (by have := hb.size; simp; omega) (fun j e => (hr.lt j e).1)

/-- A row of blocks of another type is none of the growing row. -/
theorem row_ne {w : World} {base n g : Nat} {e e' : TypeId} {size : Nat} {v : Value} {xs : List Value} {cur : Array Value} (h : w.ownsRow base e size v n xs) (hg : w.heap[g]? = some (.cells cur e' (0, 0))) (hne : e ≠ e') : some g ≠ v.ownBlock := by
  rcases h.2 with ⟨rfl, h0⟩ | ⟨g2, cap, cur2, rfl, hb, hg2, _⟩
  · simp [Value.ownBlock]
  · intro e1
    have e2 : g = g2 := Option.some.inj e1
    subst e2
    rw [hg] at hg2
    simp at hg2
    exact hne hg2.2.symm

/-- append on a row of the call's own, as one step of a region that draws. -/
theorem step_append_own {P : Program} {ops : Array Oper} {o : Oper} {a : Act} {w : World} {K : Act → World → Prop} {Q : Exit → Act → World → Prop} {E : Prop} (hgd : o.guard = none) (s x : Operand) (t : TypeId)
    (ho : o.op = .call { callee := .builtin .append, args := #[s, x], argTypes := #[t, t] })
    (base : Nat) (e : TypeId) (i : TypeInfo) (z : Value) (size bytes : Nat) (ht : P.underlying t = some (.slice e)) (hi : P.info? e = some i) (hz : i.zero = some z)
    (hsize : i.size = size) (hby : i.bytes = bytes) (hzs : z.cells.size = size) (hsz : 0 < size)
    (v : Value) (n : Nat) (xs : List Value) (hs : a.eval s = v) (hown : w.ownsRow base e size v n xs)
    (ad : Addr) (m c : Nat) (news : List Value) (hx : a.eval x = .slice (some ad) m c) (hl : news.length = m * size) (hnews : ∀ j u, news[j]? = some u → w.cell? (ad.add j) = some u) (h1 : ∀ u ∈ news, u.oneCell' = true)
    (h63 : n + m ≤ maxLen) (hbytes : (n + m) * bytes ≤ 140737488355328) (hbase : base ≤ w.heap.size)
    (h : ∀ v' w', w'.ownsRow base e size v' (n + m) (xs ++ news) → w.grownBy w' v.ownBlock → (v' = .slice none 0 0 ↔ v = .slice none 0 0 ∧ m = 0) → K (a.put o.dst v') w') :
    if Region.wanted o (yielded ops a.tmps) = true then Oper.wp P o a w K Q else E := by
  have hw : Region.wanted o (yielded ops a.tmps) = true := by simp [Region.wanted, hgd]
  rw [if_pos hw]
  exact wp_append_own w s x t ho base e i z size bytes ht hi hz hsize hby hzs hsz v n xs hs hown ad m c news hx hl hnews h1 h63 hbytes hbase h

/-! ### a region, by hand: what holds of the world may change on the way -/
theorem wpAnyH_mono {P : Program} {md : Region.Mode} {ops : Array Oper} {Q : Exit → Act → World → Prop} {S S' : World → Prop} (hS : ∀ w, S' w → S w) :
    ∀ (fuel : Nat) (listed : Array Bool) (a : Act) (w : World), wpAnyH P md ops Q S' fuel listed a w → wpAnyH P md ops Q S fuel listed a w
  | 0, _, _, _, h => h
  | fuel + 1, _, _, _, h => ⟨h.1, fun i hi => wpOp_mono (fun a' w' h' => ⟨hS w' h'.1, wpAnyH_mono hS fuel _ a' w' h'.2⟩) (h.2 i hi)⟩

/-- Bytes laid from a on. -/
def putR (bs : List Int) (a : Nat) (ds : List Int) : List Int := bs.take a ++ (ds ++ bs.drop (a + ds.length))

theorem putR_get (bs : List Int) (a : Nat) (ds : List Int) (h : a + ds.length ≤ bs.length) (k : Nat) : (putR bs a ds)[k]? = if a ≤ k ∧ k < a + ds.length then ds[k - a]? else bs[k]? := by
  unfold putR
  have hl : (bs.take a).length = a := by rw [List.length_take]; omega
  by_cases h1 : k < a
  · rw [List.getElem?_append_left (by omega), List.getElem?_take, if_pos h1, if_neg (by omega)]
  · rw [List.getElem?_append_right (by omega), hl]
    by_cases h2 : k < a + ds.length
    · rw [List.getElem?_append_left (by omega), if_pos ⟨by omega, h2⟩]
    · rw [List.getElem?_append_right (by omega), if_neg (by omega), List.getElem?_drop]
      congr 1
      omega

theorem putR_length (bs : List Int) (a : Nat) (ds : List Int) (h : a + ds.length ≤ bs.length) : (putR bs a ds).length = bs.length := by
  simp only [putR, List.length_append, List.length_take, List.length_drop]
  omega

theorem putR_nil (bs : List Int) (a : Nat) : putR bs a [] = bs := by simp [putR]

theorem putR_succ (bs : List Int) (a : Nat) (ds : List Int) (v : Int) (h : a + ds.length < bs.length) : (putR bs a ds).set (a + ds.length) v = putR bs a (ds ++ [v]) := by
  apply List.ext_getElem?
  intro i
  have hl : (ds ++ [v]).length = ds.length + 1 := by simp
  rw [putR_get bs a (ds ++ [v]) (by omega), List.getElem?_set, putR_get bs a ds (by omega), putR_length bs a ds (by omega), hl]
  by_cases h1 : a + ds.length = i
  · subst h1
    rw [if_pos rfl, if_pos h, if_pos (by omega), List.getElem?_append_right (by omega)]
    simp
  · rw [if_neg h1]
    by_cases h2 : a ≤ i ∧ i < a + ds.length
    · rw [if_pos h2, if_pos (by omega), List.getElem?_append_left (by omega)]
    · rw [if_neg h2, if_neg (by omega)]


end Go.Proofs.YtlljejmblmjjnaaGreat

/- A region that draws: quiet operations (they may lay blocks) ahead of a tail whose order is forced. -/
namespace Go.Proofs.YtlljejmblmjjnaaGreat
set_option linter.unusedVariables false
set_option linter.unusedSimpArgs false
open Go.RowKit Go.ChangeMaps

section
variable {P : Program} {ops : Array Oper} {md : Region.Mode} {C : World → Prop}

/-- The first f picks all lie ahead of n, each quiet; then L. -/
def headQ (P : Program) (md : Region.Mode) (ops : Array Oper) (C : World → Prop) (n : Nat) (L : Array Bool → Act → Prop) : Nat → Array Bool → Act → Prop
  | 0, done, a => L done a
  | f + 1, done, a => Region.ready md ops done ≠ [] ∧ ∀ i ∈ Region.ready md ops done, i < n ∧ qOp P ops C i (headQ P md ops C n L f (done.setIfInBounds i true)) a

theorem any_of_headQ {n g : Nat} {L : Array Bool → Act → Prop} {Q : Exit → Act → World → Prop} (hL : ∀ done a w, C w → L done a → wpAny P md ops Q g done a w) :
    ∀ (f : Nat) (done : Array Bool) (a : Act) (w : World), C w → headQ P md ops C n L f done a → wpAny P md ops Q (f + g) done a w := by
  intro f
  induction f with
  | zero => intro done a w hw h; rw [Nat.zero_add]; exact hL _ _ _ hw h
  | succ f ih =>
    intro done a w hw h
    rw [Nat.add_right_comm]
    exact ⟨fun h0 => absurd h0 h.1, fun i hi => wpOp_of_qOp hw (fun a' w' hw' k => ih _ a' w' hw' k) (h.2 i hi).2⟩

theorem headQ_first {n i : Nat} {o : Oper} {v : Value} {L : Array Bool → Act → Prop} (ho : ops[i]? = some o) (hsel : ∀ (j : Nat) (o : Oper) cs b, ops[j]? = some o → o.op ≠ .select cs b)
    (hs : Region.sinkB md ops n = true) (hc : Region.chainB md ops n = true) (hn : n < ops.size) (hin : i < n) (hL : ∀ done a, L done a → ∀ j ∈ Region.ready md ops done, n ≤ j) :
    ∀ (f : Nat) (done : Array Bool) (a : Act), HeadInv md ops n done →
      (∀ j p, ops[j]? = some p → j ≠ i → done.getD j true = false → (∀ e ∈ p.after, Region.binds md e = true → e.on ≠ i) → o.apart ops p = true) →
      i ∈ Region.ready md ops done → YieldsIn P ops C o v a → headQ P md ops C n L f (done.setIfInBounds i true) (a.put o.dst v) → headQ P md ops C n L (f + 1) done a := by
  intro f
  induction f with
  | zero =>
    intro done a inv _ hr hy H
    have hun := (mem_ready.1 hr).1
    refine ⟨fun h => (by rw [h] at hr; cases hr), fun j hj => ?_⟩
    have hjn : j < n := Nat.lt_of_not_le fun h => tail_waits hs hc hn inv _ i rfl hin hun j h hj
    refine ⟨hjn, ?_⟩
    by_cases e : j = i
    · subst e
      exact hy.qOp ho H
    · exact absurd (hL _ _ H j (ready_mono hj e)) (by omega)
  | succ f ih =>
    intro done a inv hfree hr hy H
    have hun := (mem_ready.1 hr).1
    refine ⟨fun h => (by rw [h] at hr; cases hr), fun j hj => ?_⟩
    have hjn : j < n := Nat.lt_of_not_le fun h => tail_waits hs hc hn inv _ i rfl hin hun j h hj
    refine ⟨hjn, ?_⟩
    by_cases e : j = i
    · subst e
      exact hy.qOp ho H
    · obtain ⟨hjun, p, hp, hall⟩ := mem_ready.1 hj
      have hno : ∀ e ∈ p.after, Region.binds md e = true → e.on ≠ i := fun e he hb h => by
        have h1 := hall e he hb
        rw [h, getD_both hun] at h1
        cases h1
      refine qOp_mono (fun a' h3 => ih (done.setIfInBounds j true) a' (inv.set hj hjn) (fun k q hq hki hk hno' => hfree k q hq hki ?_ hno') (ready_mono hr (Ne.symm e)) h3.1 ?_)
        (qOp_put hp (hfree j p hp e hjun hno) (fun cs b => hsel i o cs b ho) (fun cs b => hsel j p cs b hp) hy (H.2 j (ready_mono hj e)).2)
      · by_cases hjk : j = k
        · rw [← hjk]; exact hjun
        · rwa [getD_set_ne true hjk] at hk
      · rw [Array.setIfInBounds_comm _ _ e]
        exact h3.2

theorem headQ_lex {n g : Nat} {K : Act → Prop} (hsel : Region.noSelect ops = true) (hs : Region.sinkB md ops n = true) (hc : Region.chainB md ops n = true) (hn : n < ops.size) :
    ∀ (l : List Oper) (k : Nat) (done : Array Bool) (a : Act), (∀ j, j < l.length → l[j]? = ops[k + j]?) → k + l.length = n → HeadInv md ops n done →
    Region.lexHead md ops g l.length k done = true → wpQuiet P ops C K l a → headQ P md ops C n (fun d a' => Region.seqB md ops g n d = true ∧ K a') l.length done a
  | [], k, done, a, _, hk, _, hB, h => by
    simp only [List.length_nil, Nat.add_zero] at hk
    subst hk
    exact ⟨hB, h⟩
  | o :: l, k, done, a, hl, hk, inv, hB, h => by
    simp only [List.length_cons] at hk
    have ho : ops[k]? = some o := (hl 0 (by simp)).symm
    simp only [List.length_cons, Region.lexHead, Bool.and_eq_true] at hB
    have hr : k ∈ Region.ready md ops done := by simpa using hB.1.1
    have hst : qOp P ops C k (wpQuiet P ops C K l) a := by unfold qOp; simp only [ho]; exact h
    obtain ⟨v, hy, hK⟩ := yieldsIn_of_qOp ho hst
    refine headQ_first ho (Region.noSelect_spec hsel) hs hc hn (by omega) (fun d a' hL => seqB_ready hL.1) l.length done a inv (Region.free_spec ho hB.1.2) hr hy ?_
    refine headQ_lex hsel hs hc hn l (k + 1) _ _ (fun j hj => ?_) (by omega) (inv.set hr (by omega)) hB.2 hK
    have := hl (j + 1) (by simp; omega)
    rw [List.getElem?_cons_succ] at this
    rw [this]
    congr 1
    omega

theorem wp_region_quiet_tail {id : Nat} {Q : Exit → Act → World → Prop} {a : Act} {w : World} {l : List Oper} (n : Nat) (hm : P.follows .mixedOrders = true) (hB : Region.lexTailB .any l.toArray n = true) (hC : C { w with drawn := w.drawn + 1 })
    (h : wpQuiet P l.toArray C (fun a' => ∀ w', C w' → wpList P l.toArray Q (l.drop n) a' w') (l.take n) a) : (Code.region id l.toArray true).wp P Q a w := by
  simp only [Region.lexTailB, Bool.and_eq_true, decide_eq_true_eq] at hB
  obtain ⟨⟨⟨⟨hsel, hn⟩, hs⟩, hc⟩, hlex⟩ := hB
  have hn' : n < l.length := by simpa using hn
  have htl : (l.take n).length = n := by rw [List.length_take]; omega
  have hdl : (l.drop n).length = l.toArray.size - n := by simp
  have inv0 : HeadInv .any l.toArray n (Array.replicate l.toArray.size false) :=
    ⟨by simp, fun j oj _ hl => (by rw [getD_replicate_false] at hl; cases hl), fun t _ ht => getD_in (by simpa using ht) (getD_replicate_false _ _)⟩
  have H := headQ_lex (P := P) (C := C) (md := .any) (g := l.toArray.size - n) hsel hs hc hn (l.take n) 0 _ a (fun j hj => by rw [htl] at hj; simp [hj]) (by omega) inv0 (by rw [htl]; exact hlex) h
  refine wp_region_any hm ?_
  have := any_of_headQ (Q := Q) (g := l.toArray.size - n) (fun done a' w' hw' hL => by
    have := wpAny_of_seq (P := P) (md := .any) (Q' := Q) (l.drop n) n done a' w' (fun j => by simp [List.getElem?_drop]) (by rw [hdl]; exact hL.1) (hL.2 w' hw')
    rwa [hdl] at this) _ _ _ _ hC H
  rw [htl, show n + (l.toArray.size - n) = l.toArray.size by omega] at this
  exact this

theorem wp_region_quiet_tail_ext {id : Nat} {Q : Exit → Act → World → Prop} {a : Act} {w : World} {l : List Oper} (n : Nat) (hm : P.follows .mixedOrders = true) (hB : Region.lexTailB .any l.toArray n = true)
    (h : wpQuiet P l.toArray (fun w' => ∃ X, w' = w.ext X) (fun a' => ∀ w', (∃ X, w' = w.ext X) → wpList P l.toArray Q (l.drop n) a' w') (l.take n) a) : (Code.region id l.toArray true).wp P Q a w :=
  wp_region_quiet_tail (C := fun w' => ∃ X, w' = w.ext X) n hm hB (ext_of_below (w := w) ((Below.refl _ w).drew)) h
end

end Go.Proofs.YtlljejmblmjjnaaGreat

/- Fields of 64-bit words, and words in bytes: plain arithmetic. -/
namespace Go.Proofs.YtlljejmblmjjnaaGreat
set_option linter.unusedVariables false
set_option linter.unusedSimpArgs false
open Go.RowKit

theorem wrap_u64' (n : Int) : IntKind.u64.wrap n = n % 18446744073709551616 := by simp [IntKind.wrap, IntKind.bits, IntKind.signed]
theorem wraps_u64 (n : Int) (h0 : 0 ≤ n) (h1 : n < 2 ^ 64) : IntKind.u64.wrap n = n := by rw [wrap_u64']; omega

theorem ofInt_nat (n : Nat) : BitVec.ofInt 64 (n : Int) = BitVec.ofNat 64 n := BitVec.ofInt_natCast 64 n

theorem or_join {x y : Int} (i : Nat) (hi : i ≤ 64) (hx0 : 0 ≤ x) (hx1 : x < 2 ^ 64) (hx : x % 2 ^ i = 0) (hy0 : 0 ≤ y) (hy : y < 2 ^ i) : bits .or .u64 x y = x + y := by
  refine bits_join .u64 64 (by decide) wraps_u64 i x y hx0 hx hx1 hy0 hy ?_
  have : (2 : Int) ^ i ≤ 2 ^ 64 := by exact_mod_cast Nat.pow_le_pow_right (by decide) hi
  omega
theorem or_comm64 (x y : Int) : bits .or .u64 x y = bits .or .u64 y x := by
  simp only [bits]
  rw [BitVec.or_comm]
theorem or_join' {x y : Int} (i : Nat) (hi : i ≤ 64) (hx0 : 0 ≤ x) (hx1 : x < 2 ^ 64) (hx : x % 2 ^ i = 0) (hy0 : 0 ≤ y) (hy : y < 2 ^ i) : bits .or .u64 y x = y + x := by
  rw [or_comm64, or_join i hi hx0 hx1 hx hy0 hy, Int.add_comm]
theorem and_low {x : Int} (i : Nat) (hi : i ≤ 64) (h0 : 0 ≤ x) (h1 : x < 2 ^ 64) : bits .and .u64 x (2 ^ i - 1) = x % 2 ^ i := bits_mask .u64 64 (by decide) wraps_u64 i hi x h0 h1

theorem andNot_nat (x y r : Nat) (hx : x < 2 ^ 64) (hy : y < 2 ^ 64) (hr : r < 2 ^ 64) (h : ∀ j, j < 64 → r.testBit j = (x.testBit j && !y.testBit j)) : bits .andNot .u64 (x : Int) (y : Int) = r := by
  have e : (BitVec.ofNat 64 x &&& ~~~(BitVec.ofNat 64 y)).toNat = r := by
    apply Nat.eq_of_testBit_eq
    intro j
    rw [BitVec.testBit_toNat, BitVec.getLsbD_and, BitVec.getLsbD_not, BitVec.getLsbD_ofNat, BitVec.getLsbD_ofNat]
    by_cases hj : j < 64
    · rw [h j hj]
      simp [hj]
    · have h1 : r.testBit j = false := Nat.testBit_lt_two_pow (Nat.lt_of_lt_of_le hr (Nat.pow_le_pow_right (by decide) (by omega)))
      rw [h1]
      simp [hj]
  show IntKind.u64.wrap ((BitVec.ofInt 64 (x : Int) &&& ~~~(BitVec.ofInt 64 (y : Int))).toNat : Int) = r
  rw [ofInt_nat, ofInt_nat, e]
  exact wraps_u64 _ (Int.natCast_nonneg _) (by exact_mod_cast hr)

theorem andNot_high (x m i : Nat) (hx : x < 2 ^ i) (hi : i ≤ 64) (hm : 2 ^ i * m < 2 ^ 64) : bits .andNot .u64 (x : Int) ((2 ^ i * m : Nat) : Int) = x := by
  have hx64 : x < 2 ^ 64 := Nat.lt_of_lt_of_le hx (Nat.pow_le_pow_right (by decide) hi)
  refine andNot_nat x (2 ^ i * m) x hx64 hm hx64 fun j _ => ?_
  by_cases hj : j < i
  · rw [Nat.testBit_two_pow_mul]
    simp [hj]
  · have h1 : x.testBit j = false := Nat.testBit_lt_two_pow (Nat.lt_of_lt_of_le hx (Nat.pow_le_pow_right (by decide) (by omega)))
    rw [h1]
    rfl
theorem andNot_low (x i : Nat) (hx : x < 2 ^ i) (hi : i ≤ 64) : bits .andNot .u64 (x : Int) ((2 ^ i - 1 : Nat) : Int) = 0 := by
  have hx64 : x < 2 ^ 64 := Nat.lt_of_lt_of_le hx (Nat.pow_le_pow_right (by decide) hi)
  have hp : 2 ^ i ≤ 2 ^ 64 := Nat.pow_le_pow_right (by decide) hi
  have hpos := Nat.two_pow_pos i
  refine andNot_nat x (2 ^ i - 1) 0 hx64 (by omega) (by omega) fun j _ => ?_
  rw [Nat.zero_testBit, Nat.testBit_two_pow_sub_one]
  by_cases hj : j < i
  · simp [hj]
  · have h1 : x.testBit j = false := Nat.testBit_lt_two_pow (Nat.lt_of_lt_of_le hx (Nat.pow_le_pow_right (by decide) (by omega)))
    rw [h1]
    rfl

/-! ### words in bytes -/
def wordN (bs : List Int) (a : Nat) : Nat → Int
  | 0 => 0
  | k + 1 => wordN bs a k + bs.getD (a + k) 0 * 256 ^ k
def ByteL (bs : List Int) : Prop := ∀ v ∈ bs, 0 ≤ v ∧ v ≤ 255
def bytesK (v : Int) (n : Nat) : List Int := (List.range n).map fun k => v / 256 ^ k % 256

theorem getD_byte {bs : List Int} (h : ByteL bs) (k : Nat) : 0 ≤ bs.getD k 0 ∧ bs.getD k 0 ≤ 255 := by
  rw [List.getD_eq_getElem?_getD]
  cases hc : bs[k]? with
  | none => simp
  | some v => exact h v (List.mem_of_getElem? hc)

theorem wordN_lt {bs : List Int} (h : ByteL bs) (a : Nat) : ∀ n : Nat, 0 ≤ wordN bs a n ∧ wordN bs a n < 256 ^ n
  | 0 => by simp [wordN]
  | n + 1 => by
    have ih := wordN_lt h a n
    have hb := getD_byte h (a + n)
    have hp : (0 : Int) < 256 ^ n := Int.pow_pos (by decide)
    rw [wordN, Int.pow_succ]
    generalize (256 : Int) ^ n = p at *
    generalize bs.getD (a + n) 0 = v at *
    constructor
    · have := Int.mul_nonneg hb.1 (Int.le_of_lt hp)
      omega
    · have : v * p ≤ 255 * p := Int.mul_le_mul_of_nonneg_right hb.2 (Int.le_of_lt hp)
      omega

theorem bytesK_length (v : Int) (n : Nat) : (bytesK v n).length = n := by simp [bytesK]
theorem bytesK_get (v : Int) {n k : Nat} (h : k < n) : (bytesK v n)[k]? = some (v / 256 ^ k % 256) := by simp [bytesK, h]
theorem bytesK_ok (v : Int) (n : Nat) : ByteL (bytesK v n) := fun u hu => by
  obtain ⟨k, _, rfl⟩ := List.mem_map.1 hu
  omega

theorem wordN_congr {bs bs' : List Int} {a n : Nat} (h : ∀ k, k < n → bs.getD (a + k) 0 = bs'.getD (a + k) 0) : wordN bs a n = wordN bs' a n := by
  induction n with
  | zero => rfl
  | succ n ih => rw [wordN, wordN, ih (fun k hk => h k (by omega)), h n (by omega)]

theorem wordN_put_same {bs : List Int} {a : Nat} (v : Int) : ∀ {n m : Nat}, n ≤ m → a + m ≤ bs.length → 0 ≤ v → wordN (putR bs a (bytesK v m)) a n = v % 256 ^ n
  | 0, m, _, _, _ => by simp [wordN, Int.emod_one]
  | n + 1, m, hnm, hm, hv => by
    rw [wordN, wordN_put_same v (by omega) hm hv, List.getD_eq_getElem?_getD, putR_get _ _ _ (by rw [bytesK_length]; exact hm), bytesK_length, if_pos (by omega), show a + n - a = n from by omega, bytesK_get v (by omega)]
    show v % 256 ^ n + v / 256 ^ n % 256 * 256 ^ n = v % 256 ^ (n + 1)
    obtain ⟨u, rfl⟩ := Int.eq_ofNat_of_zero_le hv
    have := Nat.mod_pow_succ (x := u) (b := 256) (k := n)
    have h2 : ((u % 256 ^ (n + 1) : Nat) : Int) = ((u % 256 ^ n + 256 ^ n * (u / 256 ^ n % 256) : Nat) : Int) := by rw [this]
    have h3 : ((256 ^ n : Nat) : Int) = (256 : Int) ^ n := by simp
    have h4 : ((256 ^ (n + 1) : Nat) : Int) = (256 : Int) ^ (n + 1) := by simp
    rw [Int.natCast_add, Int.natCast_mul, Int.natCast_emod, Int.natCast_emod, Int.natCast_emod, Int.natCast_ediv, h3, h4] at h2
    rw [h2, Int.mul_comm ((256 : Int) ^ n)]
    rfl

theorem wordN_put_apart {bs ds : List Int} {a b n : Nat} (hb : b + ds.length ≤ bs.length) (h : a + n ≤ b ∨ b + ds.length ≤ a) : wordN (putR bs b ds) a n = wordN bs a n :=
  wordN_congr fun k hk => by
    rw [List.getD_eq_getElem?_getD, List.getD_eq_getElem?_getD, putR_get _ _ _ hb, if_neg (by omega)]

theorem putR_ok {bs ds : List Int} {a : Nat} (h : ByteL bs) (hd : ByteL ds) : ByteL (putR bs a ds) := fun v hv => by
  unfold putR at hv
  rcases List.mem_append.1 hv with hv | hv
  · exact h v (List.mem_of_mem_take hv)
  · rcases List.mem_append.1 hv with hv | hv
    · exact hd v hv
    · exact h v (List.mem_of_mem_drop hv)

end Go.Proofs.YtlljejmblmjjnaaGreat

/- cells: part, number, Load, Store. -/
namespace Go.Proofs.YtlljejmblmjjnaaGreat
set_option linter.unusedVariables false
set_option linter.unusedSimpArgs false
open Go.RowKit Go.ChangeMaps

def bytesC (bs : List Int) : Array Value := (bs.map (Value.int .u8)).toArray

/-- A memory: its struct's block, its bytes' block. -/
structure CellsAt (w : World) (c b : Nat) (bs : List Int) : Prop where
  obj : w.heap[c]? = some (.cells #[.slice (some ⟨b, 0, none⟩) bs.length bs.length] 163 (0, 0))
  bytes : w.heap[b]? = some (.cells (bytesC bs) 5 (0, 0))
  ok : ByteL bs
  len : bs.length ≤ 1048576

theorem CellsAt.ne {w : World} {c b : Nat} {bs : List Int} (h : CellsAt w c b bs) : c ≠ b := fun e => by
  have h1 := h.obj
  rw [e, h.bytes] at h1
  simp at h1
theorem CellsAt.turned {F : Nat → Prop} {w w' : World} {c b : Nat} {bs : List Int} (h : CellsAt w c b bs) (t : Turned F w w') (hc : ¬ F c) (hb : ¬ F b) : CellsAt w' c b bs :=
  ⟨(t.block _ (lt_of_block h.obj) hc).trans h.obj, (t.block _ (lt_of_block h.bytes) hb).trans h.bytes, h.ok, h.len⟩
theorem CellsAt.below {w w' : World} {c b : Nat} {bs : List Int} (h : CellsAt w c b bs) (hb : Below w.heap.size w w') : CellsAt w' c b bs :=
  h.turned (Turned.of_below (F := fun _ => False) hb (Nat.le_refl _)) (fun h => h) (fun h => h)
theorem CellsAt.cell {w : World} {c b : Nat} {bs : List Int} (h : CellsAt w c b bs) {k : Nat} (hk : k < bs.length) : w.cell? ⟨b, k, none⟩ = some (.int .u8 (bs.getD k 0)) := by
  rw [cell_of_block h.bytes, bytesC, List.getElem?_toArray, List.getElem?_map, List.getElem?_eq_getElem hk, List.getD_eq_getElem?_getD, List.getElem?_eq_getElem hk]
  rfl

set_option maxHeartbeats 400000 in
theorem part_no (c b : Nat) (bs : List Int) (at_ n : Int) (w : World) (h : CellsAt w c b bs) (hn : n < 0 ∨ at_ < 0 ∨ bs.length < at_ ∨ bs.length - at_ < n) :
    Calls Tryz.prog 60 #[.pointer (some ⟨c, 0, none⟩), .int .i64 at_, .int .i64 n] w fun e w' => e = .returned (.tuple #[.slice none 0 0, .bool false]) ∧ w = w' := by
  have c0 : w.cell? ⟨c, 0, none⟩ = some (.slice (some ⟨b, 0, none⟩) bs.length bs.length) := by rw [cell_of_block h.obj]; rfl
  have hl := h.len
  clear h
  by_cases h1 : n < 0
  · clear hn
    (go_enter Tryz.func60, Tryz.ntmps60; go_wp2; exact bodyPost_ret (v := .tuple #[.slice none 0 0, .bool false]) (by simp [results, Tryz.results60, go_sem]) rfl ⟨rfl, rfl⟩)
  · by_cases h2 : at_ < 0
    · clear hn
      (go_enter Tryz.func60, Tryz.ntmps60; go_wp2; exact bodyPost_ret (v := .tuple #[.slice none 0 0, .bool false]) (by simp [results, Tryz.results60, go_sem]) rfl ⟨rfl, rfl⟩)
    · by_cases h3 : (bs.length : Int) < at_
      · clear hn
        (go_enter Tryz.func60, Tryz.ntmps60; go_wp2; exact bodyPost_ret (v := .tuple #[.slice none 0 0, .bool false]) (by simp [results, Tryz.results60, go_sem]) rfl ⟨rfl, rfl⟩)
      · have h4 : (bs.length : Int) - at_ < n := by omega
        have hw : IntKind.i64.wrap ((bs.length : Int) - at_) = (bs.length : Int) - at_ := by rw [IntKind.wrap_i64]; omega
        clear hn
        (go_enter Tryz.func60, Tryz.ntmps60; go_wp2; exact bodyPost_ret (v := .tuple #[.slice none 0 0, .bool false]) (by simp [results, Tryz.results60, go_sem]) rfl ⟨rfl, rfl⟩)

set_option maxHeartbeats 400000 in
theorem part_yes (c b : Nat) (bs : List Int) (a n : Nat) (w : World) (h : CellsAt w c b bs) (hn : a + n ≤ bs.length) (h0 : 0 < n) :
    Calls Tryz.prog 60 #[.pointer (some ⟨c, 0, none⟩), .int .i64 a, .int .i64 n] w fun e w' => e = .returned (.tuple #[.slice (some ⟨b, a, none⟩) n (bs.length - a), .bool true]) ∧ w = w' := by
  have c0 : w.cell? ⟨c, 0, none⟩ = some (.slice (some ⟨b, 0, none⟩) bs.length bs.length) := by rw [cell_of_block h.obj]; rfl
  have hl := h.len
  clear h
  have h1 : ¬ (n : Int) < 0 := by omega
  have h2 : ¬ (a : Int) < 0 := by omega
  have h3 : ¬ bs.length < a := by omega
  have hw : IntKind.i64.wrap ((bs.length : Int) - a) = (bs.length : Int) - a := by rw [IntKind.wrap_i64]; omega
  have h4 : ¬ (bs.length : Int) - a < n := by omega
  have hs : IntKind.i64.wrap ((a : Int) + n) = (a : Int) + n := by rw [IntKind.wrap_i64]; omega
  have hi : (0 : Int) ≤ a ∧ (a : Int) ≤ (a : Int) + n ∧ (a : Int) + n ≤ bs.length := by omega
  have hcn : bs.length ≠ a := by omega
  have hla : ((a : Int) + n).toNat - a = n := by omega
  have hlb : ((a : Int) + n).toNat = a + n := by omega
  go_enter Tryz.func60, Tryz.ntmps60
  go_wp2
  refine bodyPost_ret (v := .tuple #[.slice (some ⟨b, a, none⟩) n (bs.length - a), .bool true]) ?_ rfl ⟨rfl, rfl⟩
  simp [results, Tryz.results60, go_sem, *]

set_option maxHeartbeats 400000 in
theorem number_yes (c b : Nat) (bs : List Int) (a n : Nat) (w : World) (h : CellsAt w c b bs) (hn : a + n ≤ bs.length) (h0 : n = 1 ∨ n = 8) :
    Calls Tryz.prog 177 #[.pointer (some ⟨c, 0, none⟩), .int .i64 a, .int .i64 n] w fun e w' => e = .returned (.tuple #[.slice (some ⟨b, a, none⟩) n (bs.length - a), .bool true]) ∧ w = w' := by
  rcases h0 with rfl | rfl
  · have hp := Lib.hid (part_yes c b bs a 1 w h hn (by omega))
    clear h hn
    go_enter Tryz.func177, Tryz.ntmps177
    go_wp2_with (fail)
    refine hp.out.mono ?_
    rintro e w' ⟨rfl, rfl⟩
    go_wp2
    go_ret2
    exact ⟨rfl, rfl⟩
  · have hp := Lib.hid (part_yes c b bs a 8 w h hn (by omega))
    clear h hn
    go_enter Tryz.func177, Tryz.ntmps177
    go_wp2_with (fail)
    refine hp.out.mono ?_
    rintro e w' ⟨rfl, rfl⟩
    go_wp2
    go_ret2
    exact ⟨rfl, rfl⟩

set_option maxHeartbeats 800000 in
theorem load_yes (c b : Nat) (bs : List Int) (a n : Nat) (w : World) (h : CellsAt w c b bs) (hn : a + n ≤ bs.length) (h0 : n = 1 ∨ n = 8) :
    Calls Tryz.prog 154 #[.pointer (some ⟨c, 0, none⟩), .int .i64 a, .int .i64 n] w fun e w' => e = .returned (.tuple #[.int .u64 (wordN bs a n), .int .i64 0]) ∧ w = w' := by
  have hp := Lib.hid (number_yes c b bs a n w h hn h0)
  have HH := Lib.hid h
  have hn8 : n ≤ 8 := by omega
  have hl := h.len
  clear h h0
  go_enter Tryz.func154, Tryz.ntmps154
  go_wp2_with (fail)
  refine hp.out.mono ?_
  rintro e w' ⟨rfl, rfl⟩
  go_wp2
  go_loopw [10, 24] (fun v i wr => ∃ k : Nat, k ≤ n ∧ i = .int .i64 k ∧ v = .int .u64 (wordN bs a k) ∧ w = wr) (fun _ i _ => n - (intOf i).toNat)
  case atStart => exact ⟨0, Nat.zero_le _, rfl, rfl, rfl⟩
  case round =>
    obtain ⟨k, hk, rfl, rfl, rfl⟩ := hrel
    by_cases hlt : k < n
    · have g1 := HH.out.cell (k := a + k) (by omega)
      have hb := getD_byte HH.out.ok (a + k)
      have hw := wordN_lt HH.out.ok a k
      have hp1 : (256 : Int) ^ k = 2 ^ (8 * k) := by rw [Int.pow_mul]; rfl
      have hsucc : bits .or .u64 (wordN bs a k) (bs.getD (a + k) 0 * 2 ^ (8 * k)) = wordN bs a (k + 1) := by
        rw [wordN, hp1]
        have hpp : (0 : Int) < 2 ^ (8 * k) := Int.pow_pos (by decide)
        have hle : (2 : Int) ^ (8 * k) * 256 ≤ 2 ^ 64 := by
          have : (2 : Nat) ^ (8 * k + 8) ≤ 2 ^ 64 := Nat.pow_le_pow_right (by decide) (by omega)
          have h2 : ((2 ^ (8 * k + 8) : Nat) : Int) = (2 : Int) ^ (8 * k) * 256 := by rw [Nat.pow_add]; simp
          rw [← h2]
          exact_mod_cast this
        rw [hp1] at hw
        refine or_join' (8 * k) (by omega) (Int.mul_nonneg hb.1 (Int.le_of_lt hpp)) ?_ (Int.mul_emod_left _ _) hw.1 hw.2
        have : bs.getD (a + k) 0 * 2 ^ (8 * k) ≤ 255 * 2 ^ (8 * k) := Int.mul_le_mul_of_nonneg_right hb.2 (Int.le_of_lt hpp)
        omega
      have hsh : IntKind.u64.wrap (bs.getD (a + k) 0 * 2 ^ (8 * k)) = bs.getD (a + k) 0 * 2 ^ (8 * k) := by
        refine wraps_u64 _ (Int.mul_nonneg hb.1 (Int.pow_nonneg (by decide))) ?_
        have hpp : (0 : Int) < 2 ^ (8 * k) := Int.pow_pos (by decide)
        have hle : (2 : Int) ^ (8 * k) * 256 ≤ 2 ^ 64 := by
          have : (2 : Nat) ^ (8 * k + 8) ≤ 2 ^ 64 := Nat.pow_le_pow_right (by decide) (by omega)
          have h2 : ((2 ^ (8 * k + 8) : Nat) : Int) = (2 : Int) ^ (8 * k) * 256 := by rw [Nat.pow_add]; simp
          rw [← h2]
          exact_mod_cast this
        have : bs.getD (a + k) 0 * 2 ^ (8 * k) ≤ 255 * 2 ^ (8 * k) := Int.mul_le_mul_of_nonneg_right hb.2 (Int.le_of_lt hpp)
        omega
      have HS := Lib.hid hsucc
      have HSH := Lib.hid hsh
      have hi1 : (0 : Int) ≤ k ∧ (k : Int) < n := by omega
      have hkw : IntKind.i64.wrap ((k : Int) + 1) = (k : Int) + 1 := by rw [IntKind.wrap_i64]; omega
      have hmw : IntKind.i64.wrap (8 * (k : Int)) = 8 * (k : Int) := by rw [IntKind.wrap_i64]; omega
      have hsd : (0 : Int) ≤ 8 * (k : Int) ∧ 8 * (k : Int) < 64 := by omega
      clear hsucc hsh hp1 hw
      generalize bs.getD (a + k) 0 = d at *
      have hdw : IntKind.u64.wrap d = d := wraps_u64 d (by omega) (by omega)
      go_wp2
      go_roundw
      case rel => exact ⟨k + 1, by omega, by go_num, by rw [HSH.out, HS.out], (by first | rfl | trivial)⟩
      case measure => simp [intOf]; omega
    · obtain rfl : k = n := by omega
      go_wp2
      go_ret2
      exact ⟨rfl, rfl⟩

theorem bytesK_succ (v : Int) (k : Nat) : bytesK v (k + 1) = bytesK v k ++ [v / 256 ^ k % 256] := by
  unfold bytesK
  rw [List.range_succ, List.map_append]
  rfl

theorem bytesC_set (bs : List Int) (i : Nat) (v : Int) : (bytesC bs).setIfInBounds i (.int .u8 v) = bytesC (bs.set i v) := by
  unfold bytesC
  apply Array.toList_inj.1
  simp [List.map_set]

theorem CellsAt.put {w w' : World} {c b a : Nat} {bs ds : List Int} (h : CellsAt w c b bs) (t : Turned (fun j => j = b) w w') (hy : w'.heap[b]? = some (.cells (bytesC (putR bs a ds)) 5 (0, 0))) (hd : ByteL ds) (hfit : a + ds.length ≤ bs.length) : CellsAt w' c b (putR bs a ds) := by
  have hl := putR_length bs a ds hfit
  refine ⟨?_, hy, putR_ok h.ok hd, by rw [hl]; exact h.len⟩
  rw [hl]
  exact (t.block _ (lt_of_block h.obj) h.ne).trans h.obj

def StoreDone (w : World) (c b : Nat) (bs' : List Int) (e : Ending) (w' : World) : Prop :=
  e = .returned (.int .i64 0) ∧ CellsAt w' c b bs' ∧ Turned (fun j => j = b) w w'

set_option maxHeartbeats 800000 in
theorem store_yes (c b : Nat) (bs : List Int) (a n : Nat) (v : Int) (w : World) (h : CellsAt w c b bs) (hn : a + n ≤ bs.length) (h0 : n = 1 ∨ n = 8) (hv : 0 ≤ v) :
    Calls Tryz.prog 168 #[.pointer (some ⟨c, 0, none⟩), .int .i64 a, .int .i64 n, .int .u64 v] w (StoreDone w c b (putR bs a (bytesK v n))) := by
  have hp := Lib.hid (number_yes c b bs a n w h hn h0)
  have HH := Lib.hid h
  have hn8 : n ≤ 8 := by omega
  have hl := h.len
  clear h h0
  go_enter Tryz.func168, Tryz.ntmps168
  go_wp2_with (fail)
  refine hp.out.mono ?_
  rintro e w' ⟨rfl, rfl⟩
  go_wp2
  go_loopw [23] (fun i wr => ∃ k : Nat, k ≤ n ∧ i = .int .i64 k ∧ Turned (fun j => j = b) w wr ∧ wr.heap[b]? = some (.cells (bytesC (putR bs a (bytesK v k))) 5 (0, 0))) (fun i _ => n - (intOf i).toNat)
  case atStart => exact ⟨0, Nat.zero_le _, rfl, Turned.refl _ _, by rw [show bytesK v 0 = [] from rfl, putR_nil]; exact HH.out.bytes⟩
  case round =>
    obtain ⟨k, hk, rfl, hT, hy⟩ := hrel
    by_cases hlt : k < n
    · have hpl : (putR bs a (bytesK v k)).length = bs.length := putR_length _ _ _ (by rw [bytesK_length]; omega)
      have hck : wr.cell? ⟨b, a + k, none⟩ = some (.int .u8 ((putR bs a (bytesK v k)).getD (a + k) 0)) := by
        rw [cell_of_block hy, bytesC, List.getElem?_toArray, List.getElem?_map, List.getElem?_eq_getElem (by rw [hpl]; omega)]
        simp [List.getD, List.getElem?_eq_getElem (show a + k < (putR bs a (bytesK v k)).length from by rw [hpl]; omega)]
      have hfk : wr.frozen? ⟨b, a + k, none⟩ = false := frozen_of_row _ _ _ _ _ hy
      have hnx : (wr.setCell ⟨b, a + k, none⟩ (.int .u8 (v / 256 ^ k % 256))).heap[b]? = some (.cells (bytesC (putR bs a (bytesK v (k + 1)))) 5 (0, 0)) := by
        have := heap_setCell_eq (w := wr) (b := b) (i := a + k) hy (.int .u8 (v / 256 ^ k % 256))
        have hps := putR_succ bs a (bytesK v k) (v / 256 ^ k % 256) (by rw [bytesK_length]; omega)
        rw [bytesK_length] at hps
        rw [this, bytesC_set, hps, bytesK_succ]
      have hTx : Turned (fun j => j = b) w (wr.setCell ⟨b, a + k, none⟩ (.int .u8 (v / 256 ^ k % 256))) := Turned.setCell (F := fun j => j = b) (p := ⟨b, a + k, none⟩) hT (.inl rfl) _
      have hbyte : IntKind.u8.wrap (v / 2 ^ (8 * k)) = v / 256 ^ k % 256 := by
        rw [IntKind.wrap_u8, show (256 : Int) ^ k = 2 ^ (8 * k) from by rw [Int.pow_mul]; rfl]
      have hE : v / 256 ^ k % 256 = v / 2 ^ (8 * k) % 256 := by rw [show (256 : Int) ^ k = 2 ^ (8 * k) from by rw [Int.pow_mul]; rfl]
      rw [hE] at hnx hTx
      have HNX := Lib.hid hnx
      have HTX := Lib.hid hTx
      have hi1 : (0 : Int) ≤ k ∧ (k : Int) < n := by omega
      have hkw : IntKind.i64.wrap ((k : Int) + 1) = (k : Int) + 1 := by rw [IntKind.wrap_i64]; omega
      have hmw : IntKind.i64.wrap (8 * (k : Int)) = 8 * (k : Int) := by rw [IntKind.wrap_i64]; omega
      have hsd : (0 : Int) ≤ 8 * (k : Int) ∧ 8 * (k : Int) < 64 := by omega
      clear hnx hTx hy hT hpl hbyte hE
      generalize (putR bs a (bytesK v k)).getD (a + k) 0 = d0 at *
      go_wp2
      go_roundw
      case rel => exact ⟨k + 1, by omega, by go_num, HTX.out, HNX.out⟩
      case measure => first | (simp [intOf]; done) | (simp [intOf]; omega)
    · obtain rfl : k = n := by omega
      have hfin := HH.out.put hT hy (bytesK_ok v k) (by rw [bytesK_length]; exact hn)
      have HFIN := Lib.hid hfin
      have HT := Lib.hid hT
      clear hfin hy hT
      go_wp2
      go_ret
      exact ⟨rfl, HFIN.out, HT.out⟩

theorem info_byte : (Tryz.prog.info? 5).map (fun i => (i.zero, i.size, i.bytes)) = some (some (.int .u8 0), 1, 1) := by kernel_rfl
theorem und_bytes : Tryz.prog.underlying 28 = some (.slice 5) := by kernel_rfl
theorem run_make_bytes (n : Nat) (hn : n ≤ 1048576) (w : World) :
    (Instr.makeSlice 28 (.int .i64 n) (.int .i64 n)).run Tryz.prog w = .ok (.slice (some ⟨w.heap.size, 0, none⟩) n n) (w.alloc (.cells (bytesC (List.replicate n 0)) 5)) := by
  obtain ⟨i0, hi, hz0, hz1, hz2⟩ := info_parts info_byte
  have := run_make (P := Tryz.prog) w _ _ i0 _ und_bytes hi hz0 .i64 .i64 n n (by omega) (by omega) (by rw [hz2]; omega) (by omega)
  rw [this, hz1]
  have e : madeCells #[.int .u8 0] n = bytesC (List.replicate n 0) := by
    apply Array.ext_getElem?
    intro i
    simp only [madeCells, bytesC, Array.getElem?_map, List.getElem?_toArray, List.getElem?_map, List.getElem?_replicate, Array.getElem?_range]
    by_cases h : i < n
    · simp [h, Nat.mod_one]
    · simp [h]
  simp only [Int.toNat_natCast, Value.cells, Nat.mul_one, e]

def CellsNewPost (w : World) (n : Nat) (e : Ending) (w' : World) : Prop :=
  e = .returned (.tuple #[.pointer (some ⟨w.heap.size + 1, 0, none⟩), .int .i64 0]) ∧ CellsAt w' (w.heap.size + 1) w.heap.size (List.replicate n 0) ∧ Below w.heap.size w w' ∧ w'.heap.size = w.heap.size + 2

set_option maxHeartbeats 400000 in
theorem cellsNew_yes (n : Nat) (w : World) (h : n ≤ 1048576) : Calls Tryz.prog 99 #[.int .i64 n] w (CellsNewPost w n) := by
  have hmk := run_make_bytes n h
  have h1 : ¬ (n : Int) < 0 := by omega
  have h2 : ¬ (1048576 : Int) < n := by omega
  go_enter Tryz.func99, Tryz.ntmps99
  go_wp2
  go_ret2
  refine ⟨by simp, ⟨?_, ?_, fun v hv => by rw [List.mem_replicate] at hv; omega, by rw [List.length_replicate]; exact h⟩, (by repeat (first | exact Below.refl _ _ | assumption | refine Below.alloc ?_ (by first | omega | (simp <;> omega)) _ | refine Below.drew ?_ | refine Below.setCell ?_ (by first | omega | (simp <;> omega)) _ | refine Below.via (by assumption) (by first | omega | (simp <;> omega)) ?_)), by simp⟩
  · rw [List.length_replicate]
    exact heap_alloc2_new _ _ _
  · exact heap_alloc2_old _ _ _

end Go.Proofs.YtlljejmblmjjnaaGreat

/- bits: New, word, Set, Test. -/
namespace Go.Proofs.YtlljejmblmjjnaaGreat
set_option linter.unusedVariables false
set_option linter.unusedSimpArgs false
open Go.RowKit Go.ChangeMaps

def wordsC (ws : List Nat) : Array Value := (ws.map fun (x : Nat) => Value.int .u64 (x : Int)).toArray
def tstB (ws : List Nat) (k : Nat) : Bool := (ws.getD (k / 64) 0).testBit (k % 64)
def setB (ws : List Nat) (k : Nat) : List Nat := ws.set (k / 64) (ws.getD (k / 64) 0 ||| 2 ^ (k % 64))

/-- A row of bits: its struct's block, its words' block. -/
structure RowAt (w : World) (r b n : Nat) (ws : List Nat) : Prop where
  obj : w.heap[r]? = some (.cells #[.int .i64 n, .slice (some ⟨b, 0, none⟩) ws.length ws.length] 229 (0, 0))
  words : w.heap[b]? = some (.cells (wordsC ws) 140 (0, 0))
  len : ws.length = (n + 63) / 64
  most : n ≤ 4096
  ok : ∀ x ∈ ws, x < 2 ^ 64

theorem RowAt.ne {w : World} {r b n : Nat} {ws : List Nat} (h : RowAt w r b n ws) : r ≠ b := fun e => by
  have h1 := h.obj
  rw [e, h.words] at h1
  simp at h1
theorem RowAt.turned {F : Nat → Prop} {w w' : World} {r b n : Nat} {ws : List Nat} (h : RowAt w r b n ws) (t : Turned F w w') (hr : ¬ F r) (hb : ¬ F b) : RowAt w' r b n ws :=
  ⟨(t.block _ (lt_of_block h.obj) hr).trans h.obj, (t.block _ (lt_of_block h.words) hb).trans h.words, h.len, h.most, h.ok⟩
theorem RowAt.below {w w' : World} {r b n : Nat} {ws : List Nat} (h : RowAt w r b n ws) (hb : Below w.heap.size w w') : RowAt w' r b n ws :=
  h.turned (Turned.of_below (F := fun _ => False) hb (Nat.le_refl _)) (fun h => h) (fun h => h)

theorem getD_word {ws : List Nat} (h : ∀ x ∈ ws, x < 2 ^ 64) (i : Nat) : ws.getD i 0 < 2 ^ 64 := by
  rw [List.getD_eq_getElem?_getD]
  cases hc : ws[i]? with
  | none => simp
  | some v => exact h v (List.mem_of_getElem? hc)

theorem and_two (x j : Nat) : x &&& 2 ^ j = if x.testBit j = true then 2 ^ j else 0 := by
  apply Nat.eq_of_testBit_eq
  intro i
  rw [Nat.testBit_and, Nat.testBit_two_pow]
  by_cases h : j = i
  · subst h
    by_cases hx : x.testBit j = true
    · rw [if_pos hx, Nat.testBit_two_pow]; simp [hx]
    · rw [if_neg hx]; simp [hx]
  · by_cases hx : x.testBit j = true
    · rw [if_pos hx, Nat.testBit_two_pow]; simp [h]
    · rw [if_neg hx]; simp [h]

theorem and_bit (x j : Nat) (hx : x < 2 ^ 64) (hj : j < 64) : (bits .and .u64 (x : Int) ((2 ^ j : Nat) : Int) != 0) = x.testBit j := by
  have hp : 2 ^ j < 2 ^ 64 := Nat.pow_lt_pow_right (by decide) hj
  rw [(bits_nat .u64 64 (by decide) wraps_u64 x (2 ^ j) hx hp).1, and_two]
  have := Nat.two_pow_pos j
  cases x.testBit j
  · simp
  · simp only [if_pos]
    rw [bne_iff_ne]
    omega
theorem or_bit (x j : Nat) (hx : x < 2 ^ 64) (hj : j < 64) : bits .or .u64 (x : Int) ((2 ^ j : Nat) : Int) = ((x ||| 2 ^ j : Nat) : Int) := by
  have hp : 2 ^ j < 2 ^ 64 := Nat.pow_lt_pow_right (by decide) hj
  exact (bits_nat .u64 64 (by decide) wraps_u64 x (2 ^ j) hx hp).2

theorem setB_length (ws : List Nat) (k : Nat) : (setB ws k).length = ws.length := by simp [setB]
theorem setB_ok {ws : List Nat} (h : ∀ x ∈ ws, x < 2 ^ 64) (k : Nat) : ∀ x ∈ setB ws k, x < 2 ^ 64 := fun x hx => by
  rcases List.mem_or_eq_of_mem_set hx with hx | rfl
  · exact h x hx
  · exact Nat.or_lt_two_pow (getD_word h _) (Nat.pow_lt_pow_right (by decide) (Nat.mod_lt _ (by decide)))
theorem tst_set {ws : List Nat} {k j : Nat} (hk : k / 64 < ws.length) : tstB (setB ws k) j = (decide (j = k) || tstB ws j) := by
  unfold tstB setB
  rw [List.getD_eq_getElem?_getD, List.getElem?_set]
  by_cases h : k / 64 = j / 64
  · rw [if_pos h, if_pos hk, Option.getD_some, Nat.testBit_or, Nat.testBit_two_pow, ← h]
    by_cases hjk : j = k
    · subst hjk
      simp
    · have : ¬ k % 64 = j % 64 := fun e => hjk (by omega)
      simp [this, hjk]
  · rw [if_neg h, ← List.getD_eq_getElem?_getD]
    have : ¬ j = k := fun e => h (by rw [e])
    simp [this]

set_option maxHeartbeats 400000 in
theorem word_no (r b n : Nat) (ws : List Nat) (k : Int) (w : World) (h : RowAt w r b n ws) (hk : k < 0 ∨ (n : Int) ≤ k) :
    Calls Tryz.prog 109 #[.pointer (some ⟨r, 0, none⟩), .int .i64 k] w fun e w' => e = .returned (.tuple #[.pointer none, .int .u64 0]) ∧ Below w.heap.size w w' := by
  have c0 : w.cell? ⟨r, 0, none⟩ = some (.int .i64 n) := by rw [cell_of_block h.obj]; rfl
  clear h
  by_cases h1 : k < 0
  · clear hk
    go_enter Tryz.func109, Tryz.ntmps109
    go_wp2
    go_ret2
    exact ⟨rfl, Below.refl _ _⟩
  · have h2 : (n : Int) ≤ k := by omega
    clear hk
    go_enter Tryz.func109, Tryz.ntmps109
    go_wp2
    go_ret2
    exact ⟨rfl, Below.refl _ _⟩

set_option maxHeartbeats 400000 in
theorem word_yes (r b n : Nat) (ws : List Nat) (k : Nat) (w : World) (h : RowAt w r b n ws) (hk : k < n) :
    Calls Tryz.prog 109 #[.pointer (some ⟨r, 0, none⟩), .int .i64 k] w fun e w' => e = .returned (.tuple #[.pointer (some ⟨b, k / 64, none⟩), .int .u64 ((2 ^ (k % 64) : Nat) : Int)]) ∧ Below w.heap.size w w' := by
  have c0 : w.cell? ⟨r, 0, none⟩ = some (.int .i64 n) := by rw [cell_of_block h.obj]; rfl
  have c1 : w.cell? ⟨r, 1, none⟩ = some (.slice (some ⟨b, 0, none⟩) ws.length ws.length) := by rw [cell_of_block h.obj]; rfl
  have hl := h.len
  have hm := h.most
  have h1 : ¬ (k : Int) < 0 := by omega
  have h2 : ¬ n ≤ k := by omega
  have hq : IntKind.i64.wrap ((k : Int).tdiv 64) = ((k / 64 : Nat) : Int) := by
    rw [IntKind.wrap_i64, Int.tdiv_eq_ediv_of_nonneg (by omega)]
    omega
  have hr : (k : Int).tmod 64 = ((k % 64 : Nat) : Int) := by
    rw [Int.tmod_eq_emod_of_nonneg (by omega)]
    omega
  have hi : (0 : Int) ≤ ((k / 64 : Nat) : Int) ∧ ((k / 64 : Nat) : Int) < ws.length := by omega
  have hi3 : k / 64 < ws.length := by omega
  have hsd : (0 : Int) ≤ ((k % 64 : Nat) : Int) ∧ ((k % 64 : Nat) : Int) < 64 := by omega
  clear h
  go_enter Tryz.func109, Tryz.ntmps109
  go_wp2
  (refine wp_region_quiet_ext (by kernel_rfl) (by kernel_rfl) ?_; (repeat (first | go_big_quiet_step ((fail)) | quiet_step ((fail)))); refine wpQuiet_nil ?_; intro w1 hw1; obtain hb := below_of_ext hw1; clear hw1; obtain ⟨hc, hf⟩ := bcell hb; have hz := hb.size; (try simp at hz))
  have hsw : IntKind.u64.wrap (2 ^ (k % 64)) = ((2 ^ (k % 64) : Nat) : Int) := by
    have hp : 2 ^ (k % 64) < 2 ^ 64 := Nat.pow_lt_pow_right (by decide) (Nat.mod_lt _ (by decide))
    have := wraps_u64 ((2 ^ (k % 64) : Nat) : Int) (Int.natCast_nonneg _) (by exact_mod_cast hp)
    simpa using this
  rw [hsw]
  have HBq := Lib.hid hb
  clear hb hc hf hsw
  go_wp2
  go_ret2
  exact ⟨rfl, HBq.out⟩

def SetPost (w : World) (r b n : Nat) (ws : List Nat) (k : Int) (e : Ending) (w' : World) : Prop :=
  if 0 ≤ k ∧ k < n ∧ tstB ws k.toNat = false then e = .returned (.bool true) ∧ RowAt w' r b n (setB ws k.toNat) ∧ Turned (fun j => j = b) w w' else e = .returned (.bool false) ∧ Below w.heap.size w w'

theorem wordsC_get {ws : List Nat} {i : Nat} (h : i < ws.length) : (wordsC ws)[i]? = some (.int .u64 ((ws.getD i 0 : Nat) : Int)) := by
  rw [wordsC, List.getElem?_toArray, List.getElem?_map, List.getElem?_eq_getElem h, List.getD_eq_getElem?_getD, List.getElem?_eq_getElem h]
  rfl

set_option maxHeartbeats 400000 in
theorem test_any (r b n : Nat) (ws : List Nat) (k : Int) (w : World) (h : RowAt w r b n ws) :
    Calls Tryz.prog 69 #[.pointer (some ⟨r, 0, none⟩), .int .i64 k] w fun e w' => e = .returned (.bool (decide (0 ≤ k ∧ k < n) && tstB ws k.toNat)) ∧ Below w.heap.size w w' := by
  by_cases hk : 0 ≤ k ∧ k < n
  · obtain ⟨k, rfl⟩ := Int.eq_ofNat_of_zero_le hk.1
    have hkn : k < n := by omega
    rw [decide_eq_true hk, Bool.true_and, Int.toNat_natCast]
    have hl := h.len
    have hw := Lib.hid (word_yes r b n ws k w h hkn)
    have hx := getD_word h.ok (k / 64)
    have hab := and_bit (ws.getD (k / 64) 0) (k % 64) hx (Nat.mod_lt _ (by decide))
    have g0 : w.cell? ⟨b, k / 64, none⟩ = some (.int .u64 ((ws.getD (k / 64) 0 : Nat) : Int)) := by rw [cell_of_block h.words, wordsC_get (by omega)]
    have HAB := Lib.hid hab
    unfold tstB
    rw [← hab]
    clear h hab hl hk hx
    generalize ws.getD (k / 64) 0 = x at *
    generalize 2 ^ (k % 64) = pw at *
    go_enter Tryz.func69, Tryz.ntmps69
    go_wp2_with (fail)
    refine hw.out.mono ?_
    rintro e w1 ⟨rfl, hb⟩
    have g1 := cell_past hb (cell_lt g0) g0
    go_wp2
    go_ret
    exact ⟨rfl, hb⟩
  · rw [decide_eq_false hk, Bool.false_and]
    have hw := Lib.hid (word_no r b n ws k w h (by omega))
    clear h hk
    go_enter Tryz.func69, Tryz.ntmps69
    go_wp2_with (fail)
    refine hw.out.mono ?_
    rintro e w1 ⟨rfl, hb⟩
    go_wp2
    go_ret
    exact ⟨rfl, hb⟩

set_option maxHeartbeats 400000 in
theorem set_any (r b n : Nat) (ws : List Nat) (k : Int) (w : World) (h : RowAt w r b n ws) :
    Calls Tryz.prog 133 #[.pointer (some ⟨r, 0, none⟩), .int .i64 k] w (SetPost w r b n ws k) := by
  by_cases hk : 0 ≤ k ∧ k < n
  · obtain ⟨k, rfl⟩ := Int.eq_ofNat_of_zero_le hk.1
    have hkn : k < n := by omega
    have hl := h.len
    have hw := Lib.hid (word_yes r b n ws k w h hkn)
    have hx := getD_word h.ok (k / 64)
    have hj : k % 64 < 64 := Nat.mod_lt _ (by decide)
    have hab := and_bit (ws.getD (k / 64) 0) (k % 64) hx hj
    have hob := or_bit (ws.getD (k / 64) 0) (k % 64) hx hj
    have g0 : w.cell? ⟨b, k / 64, none⟩ = some (.int .u64 ((ws.getD (k / 64) 0 : Nat) : Int)) := by rw [cell_of_block h.words, wordsC_get (by omega)]
    cases ht : tstB ws k
    · have hpost : ∀ (w1 : World), Below w.heap.size w w1 → SetPost w r b n ws (k : Int) (.returned (.bool true)) (w1.setCell ⟨b, k / 64, none⟩ (.int .u64 ((ws.getD (k / 64) 0 ||| 2 ^ (k % 64) : Nat) : Int))) := fun w1 hb => by
        unfold SetPost
        rw [if_pos ⟨by omega, by omega, by rw [Int.toNat_natCast]; exact ht⟩, Int.toNat_natCast]
        have h1 := h.below hb
        refine ⟨rfl, ⟨?_, ?_, by rw [setB_length]; exact h.len, h.most, setB_ok h.ok k⟩, Turned.setCell (F := fun j => j = b) (p := ⟨b, k / 64, none⟩) (Turned.of_below hb (Nat.le_refl _)) (.inl rfl) _⟩
        · rw [Below.heap_setCell _ _ _ _ h1.ne, setB_length]
          exact h1.obj
        · rw [heap_setCell_eq h1.words]
          congr 1
          unfold wordsC setB
          apply Obj.cells.injEq .. |>.mpr
          refine ⟨?_, rfl, rfl⟩
          apply Array.toList_inj.1
          simp [List.map_set]
      have HP := Lib.hid hpost
      have hfz : w.frozen? ⟨b, k / 64, none⟩ = false := frozen_of_row _ _ _ _ _ h.words
      have hz : (bits .and .u64 ((ws.getD (k / 64) 0 : Nat) : Int) ((2 ^ (k % 64) : Nat) : Int) != 0) = false := by rw [hab]; exact ht
      have HOB := Lib.hid hob
      have HB := Lib.hid (cell_lt g0)
      clear h hab hob hpost hl hk ht hx
      generalize ws.getD (k / 64) 0 = x at *
      generalize 2 ^ (k % 64) = pw at *
      go_enter Tryz.func133, Tryz.ntmps133
      go_wp2_with (fail)
      refine hw.out.mono ?_
      rintro e w1 ⟨rfl, hb⟩
      have g1 := cell_past hb (cell_lt g0) g0
      have f1 : w1.frozen? ⟨b, k / 64, none⟩ = false := (hb.frozen (p := ⟨b, k / 64, none⟩) HB.out).trans hfz
      have HBq := Lib.hid hb
      clear hb
      have HP2 := Lib.hid (HP.out w1 HBq.out)
      rw [← HOB.out] at HP2
      go_wp2
      go_ret
      exact HP2.out
    · have hz : (bits .and .u64 ((ws.getD (k / 64) 0 : Nat) : Int) ((2 ^ (k % 64) : Nat) : Int) != 0) = true := by rw [hab]; exact ht
      have hpost : ∀ (w1 : World), Below w.heap.size w w1 → SetPost w r b n ws (k : Int) (.returned (.bool false)) w1 := fun w1 hb => by
        unfold SetPost
        rw [if_neg (fun hh => by rw [Int.toNat_natCast, ht] at hh; cases hh.2.2)]
        exact ⟨rfl, hb⟩
      have HP := Lib.hid hpost
      clear h hab hob hl hk ht hpost hx
      generalize ws.getD (k / 64) 0 = x at *
      generalize 2 ^ (k % 64) = pw at *
      go_enter Tryz.func133, Tryz.ntmps133
      go_wp2_with (fail)
      refine hw.out.mono ?_
      rintro e w1 ⟨rfl, hb⟩
      have g1 := cell_past hb (cell_lt g0) g0
      go_wp2
      go_ret
      exact HP.out w1 hb
  · have hw := Lib.hid (word_no r b n ws k w h (by omega))
    have hpost : ∀ (w1 : World), Below w.heap.size w w1 → SetPost w r b n ws k (.returned (.bool false)) w1 := fun w1 hb => by
      unfold SetPost
      rw [if_neg (fun hh => hk ⟨hh.1, hh.2.1⟩)]
      exact ⟨rfl, hb⟩
    have HP := Lib.hid hpost
    clear h hk hpost
    go_enter Tryz.func133, Tryz.ntmps133
    go_wp2_with (fail)
    refine hw.out.mono ?_
    rintro e w1 ⟨rfl, hb⟩
    go_wp2
    go_ret
    exact HP.out w1 hb

end Go.Proofs.YtlljejmblmjjnaaGreat

/- bits.New. -/
namespace Go.Proofs.YtlljejmblmjjnaaGreat
set_option linter.unusedVariables false
set_option linter.unusedSimpArgs false
open Go.RowKit Go.ChangeMaps

theorem info_word : (Tryz.prog.info? 140).map (fun i => (i.zero, i.size, i.bytes)) = some (some (.int .u64 0), 1, 8) := by kernel_rfl
theorem und_words : Tryz.prog.underlying 137 = some (.slice 140) := by kernel_rfl
theorem run_make_words (n : Nat) (hn : n ≤ 1048576) (w : World) :
    (Instr.makeSlice 137 (.int .i64 n) (.int .i64 n)).run Tryz.prog w = .ok (.slice (some ⟨w.heap.size, 0, none⟩) n n) (w.alloc (.cells (wordsC (List.replicate n 0)) 140)) := by
  obtain ⟨i0, hi, hz0, hz1, hz2⟩ := info_parts info_word
  have := run_make (P := Tryz.prog) w _ _ i0 _ und_words hi hz0 .i64 .i64 n n (by omega) (by omega) (by rw [hz2]; omega) (by omega)
  rw [this, hz1]
  have e : madeCells #[.int .u64 0] n = wordsC (List.replicate n 0) := by
    apply Array.ext_getElem?
    intro i
    simp only [madeCells, wordsC, Array.getElem?_map, List.getElem?_toArray, List.getElem?_map, List.getElem?_replicate, Array.getElem?_range]
    by_cases h : i < n
    · simp [h, Nat.mod_one]
    · simp [h]
  simp only [Int.toNat_natCast, Value.cells, Nat.mul_one, e]

def BitsNewPost (w : World) (n m : Nat) (e : Ending) (w' : World) : Prop :=
  e = .returned (.tuple #[.pointer (some ⟨w.heap.size + 1, 0, none⟩), .int .i64 0]) ∧ RowAt w' (w.heap.size + 1) w.heap.size n (List.replicate m 0) ∧ Below w.heap.size w w' ∧ w'.heap.size = w.heap.size + 2

set_option maxRecDepth 4000 in
set_option maxHeartbeats 400000 in
theorem bitsNew_core (n m : Nat) (hm : m = (n + 63) / 64) (w : World) (h : n ≤ 4096) : Calls Tryz.prog 140 #[.int .i64 n] w (BitsNewPost w n m) := by
  have hmk := run_make_words m (by omega)
  have h1 : ¬ (n : Int) < 0 := by omega
  have h2 : ¬ (4096 : Int) < n := by omega
  have hq : ((n : Int) + 64 - 1) / 64 = (m : Int) := by omega
  have HM := Lib.hid hm
  clear hm
  go_enter Tryz.func140, Tryz.ntmps140
  go_wp2
  go_ret2
  refine ⟨by simp, ⟨?_, ?_, by rw [List.length_replicate]; exact HM.out, h, fun v hv => by rw [List.mem_replicate] at hv; omega⟩, (by repeat (first | exact Below.refl _ _ | assumption | refine Below.alloc ?_ (by first | omega | (simp <;> omega)) _ | refine Below.drew ?_ | refine Below.setCell ?_ (by first | omega | (simp <;> omega)) _ | refine Below.via (by assumption) (by first | omega | (simp <;> omega)) ?_)), by simp⟩
  · rw [List.length_replicate]
    exact heap_alloc2_new _ _ _
  · exact heap_alloc2_old _ _ _

theorem bitsNew_yes (n : Nat) (w : World) (h : n ≤ 4096) : Calls Tryz.prog 140 #[.int .i64 n] w (BitsNewPost w n ((n + 63) / 64)) := bitsNew_core n _ rfl w h

theorem tst_none (n j : Nat) : tstB (List.replicate n 0) j = false := by
  unfold tstB
  rw [List.getD_eq_getElem?_getD, List.getElem?_replicate]
  by_cases h : j / 64 < n
  · simp [h]
  · simp [h]

end Go.Proofs.YtlljejmblmjjnaaGreat

/- pack: fields of words. -/
namespace Go.Proofs.YtlljejmblmjjnaaGreat
set_option linter.unusedVariables false
set_option linter.unusedSimpArgs false
open Go.RowKit Go.ChangeMaps

set_option maxHeartbeats 400000 in
theorem wide_yes (d : Nat) (h1 : 1 ≤ d) (h2 : d ≤ 64) (w : World) : Calls Tryz.prog 173 #[.int .i64 d] w fun e w' => e = .returned (.bool true) ∧ w' = w := by
  have c1 : (1 : Int) ≤ (d : Int) := by omega
  have c2 : (d : Int) ≤ 64 := by omega
  go_enter Tryz.func173, Tryz.ntmps173
  go_wp2
  go_ret
  exact ⟨rfl, rfl⟩

theorem mask_shift (d : Nat) (h2 : d ≤ 64) : (18446744073709551615 : Int) / 2 ^ (64 - d) = ((2 ^ d - 1 : Nat) : Int) := by
  have hp : 2 ^ d * 2 ^ (64 - d) = 2 ^ 64 := by rw [← Nat.pow_add]; congr 1; omega
  have h1 : 0 < 2 ^ (64 - d) := Nat.two_pow_pos _
  have h3 : 0 < 2 ^ d := Nat.two_pow_pos _
  have e : (18446744073709551615 : Nat) / 2 ^ (64 - d) = 2 ^ d - 1 := by
    generalize 2 ^ d = a at *
    generalize 2 ^ (64 - d) = b at *
    obtain ⟨a', rfl⟩ : ∃ a', a = a' + 1 := ⟨a - 1, by omega⟩
    rw [Nat.add_mul, Nat.one_mul] at hp
    have hb : 18446744073709551615 = a' * b + (b - 1) := by omega
    rw [hb, Nat.add_comm, Nat.add_mul_div_right _ _ h1, Nat.div_eq_of_lt (by omega)]
    omega
  rw [← e]
  simp

set_option maxHeartbeats 400000 in
theorem mask_yes (d : Nat) (h1 : 1 ≤ d) (h2 : d ≤ 64) (w : World) : Calls Tryz.prog 150 #[.int .i64 d] w fun e w' => e = .returned (.int .u64 ((2 ^ d - 1 : Nat) : Int)) ∧ w' = w := by
  have hc := mask_shift d h2
  go_enter Tryz.func150, Tryz.ntmps150
  go_wp2
  go_ret
  exact ⟨rfl, rfl⟩

set_option maxHeartbeats 400000 in
theorem right_yes (s d : Nat) (h1 : 1 ≤ d) (h2 : s + d ≤ 64) (w : World) : Calls Tryz.prog 149 #[.agg #[.int .i64 s, .int .i64 d]] w fun e w' => e = .returned (.bool true) ∧ Below w.heap.size w w' := by
  have c1 : (0 : Int) ≤ (s : Int) := by omega
  have c2 : (s : Int) < 64 := by omega
  have c3 : (s : Int) ≤ 64 - (d : Int) := by omega
  have hw := fun w => wide_yes d h1 (by omega) w
  go_enter Tryz.func149, Tryz.ntmps149
  go_wp2_with (go_at_call 173; refine (hw _).mono ?_; rintro e w1 ⟨rfl, rfl⟩)
  go_ret
  exact ⟨rfl, (by repeat (first | exact Below.refl _ _ | assumption | refine Below.alloc ?_ (by first | omega | (simp <;> omega)) _ | refine Below.drew ?_ | refine Below.setCell ?_ (by first | omega | (simp <;> omega)) _ | refine Below.via (by assumption) (by first | omega | (simp <;> omega)) ?_))⟩

theorem put_val (x s d v : Nat) (h1 : 1 ≤ d) (h2 : s + d ≤ 64) (hx : x < 2 ^ s) (hv : v < 2 ^ d) :
    bits .or .u64 (bits .andNot .u64 (x : Int) (IntKind.u64.wrap (((2 ^ d - 1 : Nat) : Int) * 2 ^ s))) (IntKind.u64.wrap ((v : Int) * 2 ^ s)) = ((x + v * 2 ^ s : Nat) : Int) := by
  have hp : 2 ^ d * 2 ^ s ≤ 2 ^ 64 := by rw [← Nat.pow_add]; exact Nat.pow_le_pow_right (by decide) (by omega)
  have hps : 0 < 2 ^ s := Nat.two_pow_pos s
  have hpd : 0 < 2 ^ d := Nat.two_pow_pos d
  have hcs : ((2 ^ s : Nat) : Int) = 2 ^ s := by simp
  have hm : (2 ^ d - 1) * 2 ^ s < 2 ^ 64 := Nat.lt_of_lt_of_le (Nat.mul_lt_mul_of_pos_right (by omega) hps) hp
  have hv2 : v * 2 ^ s < 2 ^ 64 := Nat.lt_of_lt_of_le (Nat.mul_lt_mul_of_pos_right hv hps) hp
  have e1 : IntKind.u64.wrap (((2 ^ d - 1 : Nat) : Int) * 2 ^ s) = ((2 ^ s * (2 ^ d - 1) : Nat) : Int) := by
    rw [← hcs, ← Int.natCast_mul, Nat.mul_comm]
    exact wraps_u64 _ (Int.natCast_nonneg _) (by rw [Nat.mul_comm]; exact_mod_cast hm)
  have e2 : IntKind.u64.wrap ((v : Int) * 2 ^ s) = ((v * 2 ^ s : Nat) : Int) := by
    rw [← hcs, ← Int.natCast_mul]
    exact wraps_u64 _ (Int.natCast_nonneg _) (by exact_mod_cast hv2)
  rw [e1, e2, andNot_high x (2 ^ d - 1) s hx (by omega) (by rw [Nat.mul_comm]; exact hm)]
  rw [or_join' (x := ((v * 2 ^ s : Nat) : Int)) s (by omega) (Int.natCast_nonneg _) (by exact_mod_cast hv2) (by rw [Int.natCast_mul, hcs]; exact Int.mul_emod_left _ _) (Int.natCast_nonneg _) (by exact_mod_cast hx)]
  exact (Int.natCast_add _ _).symm

theorem mask_b (d : Nat) (h1 : 1 ≤ d) (h2 : d ≤ 64) (w : World) : Calls Tryz.prog 150 #[.int .i64 d] w fun e w' => e = .returned (.int .u64 ((2 ^ d - 1 : Nat) : Int)) ∧ Below w.heap.size w w' :=
  (mask_yes d h1 h2 w).mono fun _ _ h => ⟨h.1, h.2 ▸ Below.refl _ _⟩

set_option maxHeartbeats 400000 in
theorem put_asc (x s d v : Nat) (h1 : 1 ≤ d) (h2 : s + d ≤ 64) (hx : x < 2 ^ s) (hv : v < 2 ^ d) (w : World) :
    Calls Tryz.prog 172 #[.int .u64 x, .agg #[.int .i64 s, .int .i64 d], .int .u64 v] w fun e w' => e = .returned (.tuple #[.int .u64 ((x + v * 2 ^ s : Nat) : Int), .bool true]) ∧ Below w.heap.size w w' := by
  have hr := Lib.hid (fun w => right_yes s d h1 h2 w)
  have hm := Lib.hid (fun w => mask_b d h1 (by omega) w)
  have hlow := andNot_low v d hv (by omega)
  generalize hM : ((2 ^ d - 1 : Nat) : Int) = M at hlow hm
  have hM' := Lib.hid hM
  clear hM
  go_enter Tryz.func172, Tryz.ntmps172
  go_wp2_with (first | (go_at_call 149; refine (hr.out _).mono ?_; rintro e w1 ⟨rfl, hb⟩; obtain ⟨hc, hf⟩ := bcell hb; have hz := hb.size; (try simp at hz)) | (go_at_call 150; refine (hm.out _).mono ?_; rintro e w2 ⟨rfl, hb2⟩; obtain ⟨hc2, hf2⟩ := bcell hb2; have hz2 := hb2.size; (try simp at hz2)))
  have Y0 : w2.cell? ⟨w.heap.size, 0, none⟩ = some (.int .i64 s) := by rw [hc2 _ _ (by first | omega | (simp <;> omega)), hc _ _ (by simp)]; simp [go_sem]
  have Y1 : w2.cell? ⟨w.heap.size, 1, none⟩ = some (.int .i64 d) := by rw [hc2 _ _ (by first | omega | (simp <;> omega)), hc _ _ (by simp)]; simp [go_sem]
  have HB := Lib.hid (show Below w.heap.size w w2 from (by repeat (first | exact Below.refl _ _ | assumption | refine Below.alloc ?_ (by first | omega | (simp <;> omega)) _ | refine Below.drew ?_ | refine Below.setCell ?_ (by first | omega | (simp <;> omega)) _ | refine Below.via (by assumption) (by first | omega | (simp <;> omega)) ?_)))
  clear hc hf hc2 hf2 hb hb2
  have hsd : (0 : Int) ≤ (s : Int) ∧ (s : Int) < 64 := by omega
  (refine wp_region_quiet_ext (by kernel_rfl) (by kernel_rfl) ?_; (repeat (first | go_big_quiet_step ((go_at_call 150; refine Calls.ext_of (hm.out _))) | quiet_step ((go_at_call 150; refine Calls.ext_of (hm.out _))))); refine wpQuiet_nil ?_; intro w3 hw3; obtain hb3 := below_of_ext hw3; clear hw3; obtain ⟨hc3, hf3⟩ := bcell hb3; have hz3 := hb3.size; (try simp at hz3))
  have hval : bits .or .u64 (bits .andNot .u64 (x : Int) (IntKind.u64.wrap (M * 2 ^ s))) (IntKind.u64.wrap ((v : Int) * 2 ^ s)) = ((x + v * 2 ^ s : Nat) : Int) := by
    rw [← hM'.out]
    exact put_val x s d v h1 h2 hx hv
  rw [hval]
  go_wp2
  go_ret2
  exact ⟨rfl, Below.via hb3 (by omega) HB.out⟩

end Go.Proofs.YtlljejmblmjjnaaGreat

/- pack: Get, Apart. -/
namespace Go.Proofs.YtlljejmblmjjnaaGreat
set_option linter.unusedVariables false
set_option linter.unusedSimpArgs false
open Go.RowKit Go.ChangeMaps

theorem get_val (x s d : Nat) (h2 : s + d ≤ 64) (hx : x < 2 ^ 64) :
    bits .and .u64 ((x : Int) / 2 ^ s) ((2 ^ d - 1 : Nat) : Int) = ((x / 2 ^ s % 2 ^ d : Nat) : Int) := by
  have hpd : 0 < 2 ^ d := Nat.two_pow_pos d
  have hcs : ((2 ^ s : Nat) : Int) = 2 ^ s := by simp
  have hcd : ((2 ^ d : Nat) : Int) = 2 ^ d := by simp
  have e : ((2 ^ d - 1 : Nat) : Int) = (2 : Int) ^ d - 1 := by rw [← hcd]; omega
  have hle : x / 2 ^ s ≤ x := Nat.div_le_self _ _
  rw [e, ← hcs, ← Int.natCast_ediv, and_low d (by omega) (Int.natCast_nonneg _) (by exact_mod_cast Nat.lt_of_le_of_lt hle hx), ← hcd]
  exact (Int.natCast_emod _ _).symm

set_option maxHeartbeats 400000 in
theorem get_yes (x s d : Nat) (h1 : 1 ≤ d) (h2 : s + d ≤ 64) (hx : x < 2 ^ 64) (w : World) :
    Calls Tryz.prog 122 #[.int .u64 x, .agg #[.int .i64 s, .int .i64 d]] w fun e w' => e = .returned (.tuple #[.int .u64 ((x / 2 ^ s % 2 ^ d : Nat) : Int), .bool true]) ∧ Below w.heap.size w w' := by
  have hr := Lib.hid (fun w => right_yes s d h1 h2 w)
  have hm := Lib.hid (fun w => mask_b d h1 (by omega) w)
  have hval := get_val x s d h2 hx
  generalize ((2 ^ d - 1 : Nat) : Int) = M at hval hm
  have hV := Lib.hid hval
  clear hval
  go_enter Tryz.func122, Tryz.ntmps122
  go_wp2_with (go_at_call 149; refine (hr.out _).mono ?_; rintro e w1 ⟨rfl, hb⟩; obtain ⟨hc, hf⟩ := bcell hb; have hz := hb.size; (try simp at hz))
  have Y0 : w1.cell? ⟨w.heap.size, 0, none⟩ = some (.int .i64 s) := by rw [hc _ _ (by simp)]; simp [go_sem]
  have Y1 : w1.cell? ⟨w.heap.size, 1, none⟩ = some (.int .i64 d) := by rw [hc _ _ (by simp)]; simp [go_sem]
  have HB := Lib.hid (show Below w.heap.size w w1 from (by repeat (first | exact Below.refl _ _ | assumption | refine Below.alloc ?_ (by first | omega | (simp <;> omega)) _ | refine Below.drew ?_ | refine Below.setCell ?_ (by first | omega | (simp <;> omega)) _ | refine Below.via (by assumption) (by first | omega | (simp <;> omega)) ?_)))
  clear hc hf hb
  have hsd : (0 : Int) ≤ (s : Int) ∧ (s : Int) < 64 := by omega
  (refine wp_region_quiet_ext (by kernel_rfl) (by kernel_rfl) ?_; (repeat (first | go_big_quiet_step ((go_at_call 150; refine Calls.ext_of (hm.out _))) | quiet_step ((go_at_call 150; refine Calls.ext_of (hm.out _))))); refine wpQuiet_nil ?_; intro w3 hw3; obtain hb3 := below_of_ext hw3; clear hw3; obtain ⟨hc3, hf3⟩ := bcell hb3; have hz3 := hb3.size; (try simp at hz3))
  rw [hV.out]
  go_wp2
  go_ret2
  exact ⟨rfl, Below.via hb3 (by omega) HB.out⟩

/-! ### rows of fields -/
def fieldsC (fs : List (Nat × Nat)) : Array Value := (fs.flatMap fun f => [Value.int .i64 (f.1 : Int), Value.int .i64 (f.2 : Int)]).toArray
def sumW (fs : List (Nat × Nat)) (k : Nat) : Nat := ((fs.take k).map Prod.snd).sum
/-- Fields that lie one behind the other, from bit 0 on. -/
def AscF (fs : List (Nat × Nat)) : Prop := ∀ k (h : k < fs.length), fs[k].1 = sumW fs k ∧ 1 ≤ fs[k].2 ∧ sumW fs (k + 1) = sumW fs k + fs[k].2 ∧ sumW fs (k + 1) ≤ 64
theorem fieldsC_get {fs : List (Nat × Nat)} {k : Nat} (h : k < fs.length) : (fieldsC fs)[k * 2]? = some (.int .i64 (fs[k].1 : Int)) ∧ (fieldsC fs)[k * 2 + 1]? = some (.int .i64 (fs[k].2 : Int)) := by
  unfold fieldsC
  simp only [List.getElem?_toArray]
  induction fs generalizing k with
  | nil => simp at h
  | cons f r ih =>
    cases k with
    | zero => simp
    | succ k =>
      have hk : k < r.length := by simpa using h
      have := ih hk
      simp only [List.flatMap_cons, List.cons_append, List.nil_append, show (k + 1) * 2 = k * 2 + 1 + 1 from by omega, List.getElem?_cons_succ, List.getElem_cons_succ]
      exact this

theorem own_val (a d : Nat) (h2 : a + d ≤ 64) : IntKind.u64.wrap (((2 ^ d - 1 : Nat) : Int) * 2 ^ a) = ((2 ^ a * (2 ^ d - 1) : Nat) : Int) := by
  have hp : 2 ^ d * 2 ^ a ≤ 2 ^ 64 := by rw [← Nat.pow_add]; exact Nat.pow_le_pow_right (by decide) (by omega)
  have hps : 0 < 2 ^ a := Nat.two_pow_pos a
  have hpd : 0 < 2 ^ d := Nat.two_pow_pos d
  have hcs : ((2 ^ a : Nat) : Int) = 2 ^ a := by simp
  have hm : (2 ^ d - 1) * 2 ^ a < 2 ^ 64 := Nat.lt_of_lt_of_le (Nat.mul_lt_mul_of_pos_right (by omega) hps) hp
  rw [← hcs, ← Int.natCast_mul, Nat.mul_comm]
  exact wraps_u64 _ (Int.natCast_nonneg _) (by rw [Nat.mul_comm]; exact_mod_cast hm)
theorem own_and (a d : Nat) (h2 : a + d ≤ 64) : bits .and .u64 ((2 ^ a - 1 : Nat) : Int) ((2 ^ a * (2 ^ d - 1) : Nat) : Int) = 0 := by
  have hp : 2 ^ a * 2 ^ d ≤ 2 ^ 64 := by rw [← Nat.pow_add]; exact Nat.pow_le_pow_right (by decide) (by omega)
  have hps : 0 < 2 ^ a := Nat.two_pow_pos a
  have hpd : 0 < 2 ^ d := Nat.two_pow_pos d
  have hp2 : 2 ^ a ≤ 2 ^ 64 := Nat.pow_le_pow_right (by decide) (by omega)
  have hm : 2 ^ a * (2 ^ d - 1) < 2 ^ 64 := Nat.lt_of_lt_of_le (Nat.mul_lt_mul_of_pos_left (by omega) hps) hp
  rw [(bits_nat .u64 64 (by decide) wraps_u64 _ _ (by omega) hm).1, Nat.and_comm, Nat.and_two_pow_sub_one_eq_mod, Nat.mul_mod_right]
  rfl
theorem own_or (a d : Nat) (h2 : a + d ≤ 64) : bits .or .u64 ((2 ^ a - 1 : Nat) : Int) ((2 ^ a * (2 ^ d - 1) : Nat) : Int) = ((2 ^ (a + d) - 1 : Nat) : Int) := by
  have hp : 2 ^ a * 2 ^ d ≤ 2 ^ 64 := by rw [← Nat.pow_add]; exact Nat.pow_le_pow_right (by decide) (by omega)
  have hps : 0 < 2 ^ a := Nat.two_pow_pos a
  have hpd : 0 < 2 ^ d := Nat.two_pow_pos d
  have hca : ((2 ^ a : Nat) : Int) = 2 ^ a := by simp
  have hm : 2 ^ a * (2 ^ d - 1) < 2 ^ 64 := Nat.lt_of_lt_of_le (Nat.mul_lt_mul_of_pos_left (by omega) hps) hp
  rw [or_join' (x := ((2 ^ a * (2 ^ d - 1) : Nat) : Int)) a (by omega) (Int.natCast_nonneg _) (by exact_mod_cast hm) (by rw [Int.natCast_mul, hca]; exact Int.mul_emod_right _ _) (Int.natCast_nonneg _) (by rw [← hca]; omega)]
  rw [Nat.pow_add, Nat.mul_sub, Nat.mul_one, ← Int.natCast_add]
  congr 1
  have : 2 ^ a ≤ 2 ^ a * 2 ^ d := Nat.le_mul_of_pos_right _ hpd
  omega

set_option maxHeartbeats 800000 in
theorem apart_yes (b cap : Nat) (fs : List (Nat × Nat)) (ha : AscF fs) (w : World) (hl : fs.length < 1000) (hf : w.heap[b]? = some (.cells (fieldsC fs) 207 (0, 0))) :
    Calls Tryz.prog 121 #[.slice (some ⟨b, 0, none⟩) fs.length cap] w fun e w' => e = .returned (.bool true) ∧ Below w.heap.size w w' := by
  have hbl := lt_of_block hf
  have HF := Lib.hid hf
  have HA := Lib.hid ha
  clear hf ha
  go_enter Tryz.func121, Tryz.ntmps121
  go_wp2
  go_loopw [3, 9] (fun u i wr => ∃ k : Nat, k ≤ fs.length ∧ i = .int .i64 k ∧ u = .int .u64 ((2 ^ sumW fs k - 1 : Nat) : Int) ∧ Below w.heap.size w wr) (fun _ i _ => fs.length - (intOf i).toNat)
  case atStart => exact ⟨0, Nat.zero_le _, rfl, rfl, Below.refl _ _⟩
  case round =>
    obtain ⟨k, hk, rfl, rfl, hbw⟩ := hrel
    by_cases hlt : k < fs.length
    · have hgr := (hbw.block _ hbl).trans HF.out
      have y0 : wr.cell? ⟨b, k * 2, none⟩ = some (.int .i64 (fs[k].1 : Int)) := by rw [cell_of_block hgr]; exact (fieldsC_get hlt).1
      have y1 : wr.cell? ⟨b, k * 2 + 1, none⟩ = some (.int .i64 (fs[k].2 : Int)) := by rw [cell_of_block hgr]; exact (fieldsC_get hlt).2
      obtain ⟨q1, q2, q3, q4⟩ := HA.out k hlt
      have hsum := Lib.hid q3
      generalize hs : fs[k].1 = s at *
      generalize hd : fs[k].2 = d at *
      rw [← q1]
      have HN := Lib.hid (show sumW fs (k + 1) = s + d by omega)
      have hi1 : (0 : Int) ≤ k ∧ (k : Int) < fs.length := by omega
      have hkw : IntKind.i64.wrap ((k : Int) + 1) = (k : Int) + 1 := by rw [IntKind.wrap_i64]; omega
      have hr := Lib.hid (fun w => right_yes s d q2 (by omega) w)
      have hm := Lib.hid (fun w => mask_b d q2 (by omega) w)
      have hv1 := own_val s d (by omega)
      have hv2 := own_and s d (by omega)
      have hv3 := own_or s d (by omega)
      have HB := Lib.hid hbw
      have hszb := hbw.size
      clear hgr hsum q1 q3 hs hd hbw
      generalize ((2 ^ d - 1 : Nat) : Int) = M at hv1 hm
      generalize ((2 ^ s * (2 ^ d - 1) : Nat) : Int) = O at hv1 hv2 hv3
      generalize hX : ((2 ^ s - 1 : Nat) : Int) = X at hv2 hv3
      generalize hY : ((2 ^ (s + d) - 1 : Nat) : Int) = Y at hv3
      have HY := Lib.hid hY
      clear hX hY
      have hsd : (0 : Int) ≤ (s : Int) ∧ (s : Int) < 64 := by have := HN.out; omega
      go_wp2_with (go_at_call 149; refine (hr.out _).mono ?_; rintro e w1 ⟨rfl, hb⟩; obtain ⟨hc, hf⟩ := bcell hb; have hz := hb.size; (try simp at hz))
      have Y0 : w1.cell? ⟨wr.heap.size, 0, none⟩ = some (.int .i64 s) := by rw [hc _ _ (by simp)]; simp [go_sem]
      have Y1 : w1.cell? ⟨wr.heap.size, 1, none⟩ = some (.int .i64 d) := by rw [hc _ _ (by simp)]; simp [go_sem]
      have HB1 := Lib.hid (show Below w.heap.size w w1 from Below.via hb (by simp; omega) (HB.out.alloc hszb _))
      have hs1 := HB1.out.size
      clear hc hf hb y0 y1
      (refine wp_region_quiet_ext (by kernel_rfl) (by kernel_rfl) ?_; (repeat (first | go_big_quiet_step ((go_at_call 150; refine Calls.ext_of (hm.out _))) | quiet_step ((go_at_call 150; refine Calls.ext_of (hm.out _))))); refine wpQuiet_nil ?_; intro w3 hw3; obtain hb3 := below_of_ext hw3; clear hw3; obtain ⟨hc3, hf3⟩ := bcell hb3; have hz3 := hb3.size; (try simp at hz3))
      have HB3 := Lib.hid (show Below w.heap.size w w3 from Below.via hb3 (by omega) HB1.out)
      clear hc3 hf3 hb3
      go_wp2
      go_roundw
      case rel => exact ⟨k + 1, by omega, by go_num, by rw [HN.out, ← HY.out], HB3.out⟩
      case measure => simp [intOf]; omega
    · obtain rfl : k = fs.length := by omega
      go_wp2
      go_ret
      exact ⟨rfl, hbw⟩

end Go.Proofs.YtlljejmblmjjnaaGreat

/- pack: Pack. -/
namespace Go.Proofs.YtlljejmblmjjnaaGreat
set_option linter.unusedVariables false
set_option linter.unusedSimpArgs false
open Go.RowKit Go.ChangeMaps

def packN (fs : List (Nat × Nat)) (vs : List Nat) : Nat → Nat
  | 0 => 0
  | k + 1 => packN fs vs k + vs.getD k 0 * 2 ^ sumW fs k
def FitsF (fs : List (Nat × Nat)) (vs : List Nat) : Prop := ∀ k (h : k < fs.length), vs.getD k 0 < 2 ^ fs[k].2
theorem packN_lt {fs : List (Nat × Nat)} {vs : List Nat} (ha : AscF fs) (hv : FitsF fs vs) : ∀ k, k ≤ fs.length → packN fs vs k < 2 ^ sumW fs k
  | 0, _ => Nat.two_pow_pos _
  | k + 1, h => by
    have ih := packN_lt ha hv k (by omega)
    obtain ⟨_, _, q3, _⟩ := ha k (by omega)
    have hk := hv k (by omega)
    rw [packN, q3, Nat.pow_add]
    generalize 2 ^ sumW fs k = a at *
    generalize 2 ^ (fs[k]'(by omega)).2 = b at *
    have : (vs.getD k 0 + 1) * a ≤ b * a := Nat.mul_le_mul_right _ hk
    rw [Nat.add_mul, Nat.one_mul] at this
    rw [Nat.mul_comm a b]
    omega

set_option maxHeartbeats 1000000 in
theorem pack_yes (b cap c cap2 : Nat) (fs : List (Nat × Nat)) (vs : List Nat) (ha : AscF fs) (hv : FitsF fs vs) (hvl : vs.length = fs.length) (w : World) (hl : fs.length < 1000)
    (hf : w.heap[b]? = some (.cells (fieldsC fs) 207 (0, 0))) (hw : w.heap[c]? = some (.cells (wordsC vs) 140 (0, 0))) :
    Calls Tryz.prog 146 #[.slice (some ⟨b, 0, none⟩) fs.length cap, .slice (some ⟨c, 0, none⟩) fs.length cap2] w fun e w' => e = .returned (.tuple #[.int .u64 (packN fs vs fs.length : Int), .bool true]) ∧ Below w.heap.size w w' := by
  have hbl := lt_of_block hf
  have hcl := lt_of_block hw
  have hap := Lib.hid (fun w => apart_yes b cap fs ha w hl)
  have HF := Lib.hid hf
  have HW := Lib.hid hw
  have HA := Lib.hid ha
  have HV := Lib.hid hv
  clear hf hw ha hv
  go_enter Tryz.func146, Tryz.ntmps146
  go_wp2_with (go_at_call 121; refine (hap.out _ HF.out).mono ?_; rintro e w1 ⟨rfl, hb⟩)
  have HB1 := Lib.hid hb
  have hs1 := hb.size
  clear hb
  go_loopw [6, 23] (fun u i wr => ∃ k : Nat, k ≤ fs.length ∧ i = .int .i64 k ∧ u = .int .u64 (packN fs vs k : Int) ∧ Below w.heap.size w wr) (fun _ i _ => fs.length - (intOf i).toNat)
  case atStart => exact ⟨0, Nat.zero_le _, rfl, rfl, HB1.out⟩
  case round =>
    obtain ⟨k, hk, rfl, rfl, hbw⟩ := hrel
    by_cases hlt : k < fs.length
    · have hgr := (hbw.block _ hbl).trans HF.out
      have hgw := (hbw.block _ hcl).trans HW.out
      have y0 : wr.cell? ⟨b, k * 2, none⟩ = some (.int .i64 (fs[k].1 : Int)) := by rw [cell_of_block hgr]; exact (fieldsC_get hlt).1
      have y1 : wr.cell? ⟨b, k * 2 + 1, none⟩ = some (.int .i64 (fs[k].2 : Int)) := by rw [cell_of_block hgr]; exact (fieldsC_get hlt).2
      have y2 : wr.cell? ⟨c, k, none⟩ = some (.int .u64 ((vs.getD k 0 : Nat) : Int)) := by rw [cell_of_block hgw, wordsC_get (by omega)]
      have hput := packN_lt HA.out HV.out k (by omega)
      have hfit := HV.out k hlt
      obtain ⟨q1, q2, q3, q4⟩ := HA.out k hlt
      have hnext : packN fs vs (k + 1) = packN fs vs k + vs.getD k 0 * 2 ^ fs[k].1 := by rw [packN, q1]
      rw [← q1] at hput
      have hP := Lib.hid (fun w => put_asc (packN fs vs k) fs[k].1 fs[k].2 (vs.getD k 0) q2 (by omega) hput hfit w)
      have HN := Lib.hid hnext
      clear hput hfit hnext q1 q2 q3 q4 hgr hgw
      generalize fs[k].1 = s at *
      generalize fs[k].2 = d at *
      generalize vs.getD k 0 = v at *
      generalize hp : packN fs vs k + v * 2 ^ s = p at *
      generalize packN fs vs k = x at *
      clear hp
      have hi1 : (0 : Int) ≤ k ∧ (k : Int) < fs.length := by omega
      have hkw : IntKind.i64.wrap ((k : Int) + 1) = (k : Int) + 1 := by rw [IntKind.wrap_i64]; omega
      have HB := Lib.hid hbw
      have hszb := hbw.size
      clear hbw
      go_wp2
      have Y2 : (wr.alloc (Obj.cells #[Value.int IntKind.i64 s, Value.int IntKind.i64 d] 207)).cell? ⟨c, k, none⟩ = some (.int .u64 v) := by rw [World.cell?_alloc_past _ _ _ (Nat.lt_of_lt_of_le hcl hszb)]; exact y2
      (refine wp_region_quiet_ext (by kernel_rfl) (by kernel_rfl) ?_; (repeat (first | go_big_quiet_step ((go_at_call 172; refine Calls.ext_of (hP.out _))) | quiet_step ((go_at_call 172; refine Calls.ext_of (hP.out _))))); refine wpQuiet_nil ?_; intro w3 hw3; obtain hb3 := below_of_ext hw3; clear hw3; obtain ⟨hc3, hf3⟩ := bcell hb3; have hz3 := hb3.size; (try simp at hz3))
      have HB3 := Lib.hid (show Below w.heap.size w w3 from Below.via hb3 (by simp; omega) (HB.out.alloc hszb _))
      clear hc3 hf3 hb3
      go_wp2
      go_roundw
      case rel => exact ⟨k + 1, by omega, by go_num, by rw [HN.out], HB3.out⟩
      case measure => simp [intOf]; omega
    · obtain rfl : k = fs.length := by omega
      go_wp2
      go_ret2
      exact ⟨rfl, hbw⟩

end Go.Proofs.YtlljejmblmjjnaaGreat

/- pack: Unpack. -/
namespace Go.Proofs.YtlljejmblmjjnaaGreat
set_option linter.unusedVariables false
set_option linter.unusedSimpArgs false
open Go.RowKit Go.ChangeMaps

def unpackN (x : Nat) (fs : List (Nat × Nat)) : List Nat := fs.map fun f => x / 2 ^ f.1 % 2 ^ f.2
def wordsV (ws : List Nat) : List Value := ws.map fun (x : Nat) => Value.int .u64 (x : Int)
theorem cell_one_new (w : World) (a : Value) (T : TypeId) : ∀ j u, [a][j]? = some u → (w.alloc (.cells #[a] T)).cell? ((⟨w.heap.size, 0, none⟩ : Addr).add j) = some u := fun j u hu => by
  match j with
  | 0 => simp at hu; subst hu; simp [go_sem, Addr.add]
  | j + 1 => simp at hu

set_option maxHeartbeats 1000000 in
theorem unpack_yes (x b cap : Nat) (fs : List (Nat × Nat)) (ha : AscF fs) (hx : x < 2 ^ 64) (w : World) (hl : fs.length < 1000) (hf : w.heap[b]? = some (.cells (fieldsC fs) 207 (0, 0))) :
    Calls Tryz.prog 76 #[.int .u64 x, .slice (some ⟨b, 0, none⟩) fs.length cap] w
      fun e w' => ∃ v, e = .returned (.tuple #[v, .bool true]) ∧ w'.ownsRow w.heap.size 140 1 v fs.length (wordsV (unpackN x fs)) ∧ Below w.heap.size w w' := by
  obtain ⟨i0, hi, hz0, hz1, hz2⟩ := info_parts info_word
  have hbl := lt_of_block hf
  have hap := Lib.hid (fun w => apart_yes b cap fs ha w hl)
  have HF := Lib.hid hf
  have HA := Lib.hid ha
  clear hf ha
  go_enter Tryz.func76, Tryz.ntmps76
  go_wp2_with (go_at_call 121; refine (hap.out _ HF.out).mono ?_; rintro e w1 ⟨rfl, hb⟩)
  have HB1 := Lib.hid hb
  have hs1 := hb.size
  clear hb
  go_loopw [6, 16] (fun u i wr => ∃ k : Nat, k ≤ fs.length ∧ i = .int .i64 k ∧ wr.ownsRow w.heap.size 140 1 u k (wordsV (unpackN x (fs.take k))) ∧ Below w.heap.size w wr) (fun _ i _ => fs.length - (intOf i).toNat)
  case atStart => exact ⟨0, Nat.zero_le _, rfl, World.ownsRow_nil _ _ _ _, HB1.out⟩
  case round =>
    obtain ⟨k, hk, rfl, hrow, hbw⟩ := hrel
    by_cases hlt : k < fs.length
    · have hgr := (hbw.block _ hbl).trans HF.out
      have y0 : wr.cell? ⟨b, k * 2, none⟩ = some (.int .i64 (fs[k].1 : Int)) := by rw [cell_of_block hgr]; exact (fieldsC_get hlt).1
      have y1 : wr.cell? ⟨b, k * 2 + 1, none⟩ = some (.int .i64 (fs[k].2 : Int)) := by rw [cell_of_block hgr]; exact (fieldsC_get hlt).2
      obtain ⟨q1, q2, q3, q4⟩ := HA.out k hlt
      have hG := Lib.hid (fun w => get_yes x fs[k].1 fs[k].2 q2 (by omega) hx w)
      have HT := Lib.hid (show wordsV (unpackN x (fs.take (k + 1))) = wordsV (unpackN x (fs.take k)) ++ [.int .u64 ((x / 2 ^ fs[k].1 % 2 ^ fs[k].2 : Nat) : Int)] by
        rw [List.take_succ_eq_append_getElem hlt]; unfold unpackN wordsV; rw [List.map_append, List.map_append]; rfl)
      clear q1 q2 q3 q4 hgr
      generalize x / 2 ^ fs[k].1 % 2 ^ fs[k].2 = v at *
      generalize fs[k].1 = s at *
      generalize fs[k].2 = d at *
      have hi1 : (0 : Int) ≤ k ∧ (k : Int) < fs.length := by omega
      have hkw : IntKind.i64.wrap ((k : Int) + 1) = (k : Int) + 1 := by rw [IntKind.wrap_i64]; omega
      have HB := Lib.hid hbw
      have hszb := hbw.size
      clear hbw
      go_wp2_with (first
        | (go_at_call 122; refine (hG.out _).mono ?_; rintro e w2 ⟨rfl, hb2⟩; have HB2 := Lib.hid (show Below w.heap.size w w2 from Below.via hb2 (by simp; omega) (HB.out.alloc hszb _)); have hrow2 := Lib.hid (ownsRow_below (hrow.alloc _) hb2); have hsz2 := hb2.size; clear hb2)
        | (at_builtin; refine wpList_append_own _ rfl _ _ 137 rfl w.heap.size 140 i0 (.int .u64 0) 1 8 und_words hi hz0 hz1 hz2 rfl (by decide) _ _ _ rfl (hrow2.out.alloc _) ⟨w2.heap.size, 0, none⟩ 1 1 [.int .u64 v] rfl rfl (cell_one_new _ _ _) (fun u hu => by simp at hu; rcases hu with rfl; rfl) (by unfold maxLen; omega) (by omega) (by have := HB2.out.size; simp; omega) ?_; intro v' w3 hown' hgrow3 hnil3))
      have hB3 : Below w.heap.size w w3 := Below.grown (HB2.out.alloc HB2.out.size _) hgrow3 (by have := HB2.out.size; simp; omega) (fun j e => (hrow2.out.lt j e).1)
      go_wp2
      go_roundw
      case rel => exact ⟨k + 1, by omega, by go_num, by rw [HT.out]; exact hown', hB3⟩
      case measure => simp [intOf]; omega
    · obtain rfl : k = fs.length := by omega
      have hend := Lib.hid hrow
      clear hrow
      go_wp2
      go_ret2
      have h1 := hend.out
      rw [List.take_length] at h1
      exact ⟨_, rfl, h1, hbw⟩

end Go.Proofs.YtlljejmblmjjnaaGreat

/- newslab: words. -/
namespace Go.Proofs.YtlljejmblmjjnaaGreat
set_option linter.unusedVariables false
set_option linter.unusedSimpArgs false
open Go.RowKit Go.ChangeMaps

def nsF : List (Nat × Nat) := [(0, 8), (8, 8), (16, 8), (24, 40)]
theorem nsF_asc : AscF nsF := by
  intro k h
  match k, h with
  | 0, _ => exact ⟨rfl, (by decide : 1 ≤ 8), rfl, by decide⟩
  | 1, _ => exact ⟨rfl, (by decide : 1 ≤ 8), rfl, by decide⟩
  | 2, _ => exact ⟨rfl, (by decide : 1 ≤ 8), rfl, by decide⟩
  | 3, _ => exact ⟨rfl, (by decide : 1 ≤ 40), rfl, by decide⟩

def FieldsPost (w : World) (fs : List (Nat × Nat)) (e : Ending) (w' : World) : Prop :=
  e = .returned (.slice (some ⟨w.heap.size, 0, none⟩) fs.length fs.length) ∧ w'.heap[w.heap.size]? = some (.cells (fieldsC fs) 207 (0, 0)) ∧ Below w.heap.size w w' ∧ w.heap.size + 1 ≤ w'.heap.size

set_option maxHeartbeats 400000 in
theorem nsFields_any (w : World) : Calls Tryz.prog 178 #[] w (FieldsPost w nsF) := by
  go_enter Tryz.func178, Tryz.ntmps178
  go_wp2
  go_ret
  refine ⟨rfl, ?_, (by repeat (first | exact Below.refl _ _ | assumption | refine Below.alloc ?_ (by first | omega | (simp <;> omega)) _ | refine Below.drew ?_ | refine Below.setCell ?_ (by first | omega | (simp <;> omega)) _ | refine Below.via (by assumption) (by first | omega | (simp <;> omega)) ?_)), by simp⟩
  exact heap_alloc_new _ _

set_option maxHeartbeats 400000 in
theorem within_any (n l m : Int) (w : World) : Calls Tryz.prog 184 #[.int .i64 n, .int .i64 l, .int .i64 m] w fun e w' => e = .returned (.bool (decide (l ≤ n) && decide (n ≤ m))) ∧ w' = w := by
  by_cases h1 : l ≤ n
  · by_cases h2 : n ≤ m
    · go_enter Tryz.func184, Tryz.ntmps184
      go_wp2
      go_ret
      exact ⟨by simp [h1, h2], rfl⟩
    · go_enter Tryz.func184, Tryz.ntmps184
      go_wp2
      go_ret
      exact ⟨by simp [h1, h2], rfl⟩
  · go_enter Tryz.func184, Tryz.ntmps184
    go_wp2
    go_ret
    exact ⟨by rw [decide_eq_false (Int.not_le.2 h1)]; rfl, rfl⟩

def wordR (slot next class_ : Int) : Bool := decide (0 ≤ slot ∧ slot ≤ 127 ∧ -1 ≤ next ∧ next ≤ 127 ∧ 0 ≤ class_ ∧ class_ ≤ 11)
def slabW (slot next class_ : Nat) : Nat := packN nsF [next, slot, class_, 440005911841] 4

theorem wordsC_ns (n s c : Nat) : wordsC [n, s, c, 440005911841] = #[.int .u64 n, .int .u64 s, .int .u64 c, .int .u64 440005911841] := rfl

set_option maxHeartbeats 400000 in
theorem word_core (slot next class_ R : Nat) (hR : slabW slot next class_ = R) (nx : Int) (hn : nx + 1 = (next : Int)) (h1 : slot ≤ 127) (h2 : next ≤ 128) (h3 : class_ ≤ 11) (w : World) :
    Calls Tryz.prog 167 #[.int .i64 slot, .int .i64 nx, .int .i64 class_] w
      fun e w' => e = .returned (.tuple #[.int .u64 (R : Int), .bool true]) ∧ Below w.heap.size w w' := by
  have hW := fun n l m w => within_any n l m w
  have HR := Lib.hid hR
  have hF := fun w => nsFields_any w
  have c1 : decide ((0 : Int) ≤ (slot : Int)) = true := by simp
  have c2 : decide ((slot : Int) ≤ 127) = true := by simp; omega
  have c3 : decide ((-1 : Int) ≤ nx) = true := by simp; omega
  have c4 : decide (nx ≤ 127) = true := by simp; omega
  have c5 : decide ((0 : Int) ≤ (class_ : Int)) = true := by simp
  have c6 : decide ((class_ : Int) ≤ 11) = true := by simp; omega
  have c7 : IntKind.i64.wrap (nx + 1) = next := by rw [IntKind.wrap_i64]; omega
  clear hR
  go_enter Tryz.func167, Tryz.ntmps167
  go_wp2_with (go_at_call 184; refine (hW _ _ _ _).mono ?_; rintro e wx ⟨rfl, rfl⟩)
  refine (hF _).mono ?_
  rintro e w1 ⟨rfl, hf1, hb1, hz1⟩
  have HB1 := Lib.hid hb1
  have HF1 := Lib.hid hf1
  clear hb1 hf1
  have hfit : FitsF nsF [next, slot, class_, 440005911841] := by
    intro k h
    match k, h with
    | 0, _ => show next < 2 ^ 8; omega
    | 1, _ => show slot < 2 ^ 8; omega
    | 2, _ => show class_ < 2 ^ 8; omega
    | 3, _ => show 440005911841 < 2 ^ 40; decide
  have HP := Lib.hid (fun c w => pack_yes wx.heap.size 4 c 4 nsF [next, slot, class_, 440005911841] nsF_asc hfit rfl w (by decide))
  have u1 : IntKind.u64.wrap (next : Int) = next := wraps_u64 _ (by omega) (by omega)
  have u2 : IntKind.u64.wrap (slot : Int) = slot := wraps_u64 _ (by omega) (by omega)
  have u3 : IntKind.u64.wrap (class_ : Int) = class_ := wraps_u64 _ (by omega) (by omega)
  go_wp2_with (go_at_call 146; refine (HP.out w1.heap.size _ ?_ ?_).mono ?_)
  · rw [heap_alloc_old _ _ (by omega)]
    exact HF1.out
  · rw [heap_alloc_new, wordsC_ns]
  · rintro e w2 ⟨rfl, hb2⟩
    have HB2 := Lib.hid hb2
    have hR2 := HR.out
    clear hb2
    go_wp2
    go_ret2
    refine ⟨?_, Below.via HB2.out (by simp; omega) (HB1.out.alloc (by omega) _)⟩
    rw [← hR2]
    rfl

/-- What a free slot's word is made of. -/
theorem slabW_eq (slot next class_ : Nat) : slabW slot next class_ = next + slot * 256 + class_ * 65536 + 440005911841 * 16777216 := by
  simp [slabW, nsF, packN, sumW]
theorem slabW_lt (slot next class_ : Nat) (h1 : slot ≤ 127) (h2 : next ≤ 128) (h3 : class_ ≤ 11) : slabW slot next class_ < 2 ^ 64 := by
  rw [slabW_eq]; omega

theorem word_yes_ns (slot next class_ : Nat) (nx : Int) (hn : nx + 1 = (next : Int)) (h1 : slot ≤ 127) (h2 : next ≤ 128) (h3 : class_ ≤ 11) (w : World) :
    Calls Tryz.prog 167 #[.int .i64 slot, .int .i64 nx, .int .i64 class_] w
      fun e w' => e = .returned (.tuple #[.int .u64 (slabW slot next class_ : Int), .bool true]) ∧ Below w.heap.size w w' := word_core slot next class_ _ rfl nx hn h1 h2 h3 w

end Go.Proofs.YtlljejmblmjjnaaGreat

/- newslab: Word refused, Unword. -/
namespace Go.Proofs.YtlljejmblmjjnaaGreat
set_option linter.unusedVariables false
set_option linter.unusedSimpArgs false
open Go.RowKit Go.ChangeMaps

set_option maxHeartbeats 400000 in
theorem word_no_ns (s nx c : Int) (h : ¬ (0 ≤ s ∧ s ≤ 127 ∧ -1 ≤ nx ∧ nx ≤ 127 ∧ 0 ≤ c ∧ c ≤ 11)) (w : World) :
    Calls Tryz.prog 167 #[.int .i64 s, .int .i64 nx, .int .i64 c] w
      fun e w' => e = .returned (.tuple #[.int .u64 0, .bool false]) ∧ Below w.heap.size w w' := by
  have hW := fun n l m w => within_any n l m w
  by_cases h1 : 0 ≤ s ∧ s ≤ 127
  · have c1 : decide (0 ≤ s) = true := decide_eq_true h1.1
    have c2 : decide (s ≤ 127) = true := decide_eq_true h1.2
    by_cases h2 : -1 ≤ nx ∧ nx ≤ 127
    · have c3 : decide (-1 ≤ nx) = true := decide_eq_true h2.1
      have c4 : decide (nx ≤ 127) = true := decide_eq_true h2.2
      have c5 : (decide (0 ≤ c) && decide (c ≤ 11)) = false := by
        by_cases h3 : 0 ≤ c
        · have : ¬ c ≤ 11 := fun h4 => h ⟨h1.1, h1.2, h2.1, h2.2, h3, h4⟩
          simp [this]
        · simp [h3]
      clear h
      go_enter Tryz.func167, Tryz.ntmps167
      go_wp2_with (go_at_call 184; refine (hW _ _ _ _).mono ?_; rintro e wx ⟨rfl, rfl⟩)
      go_ret2
      exact ⟨rfl, Below.refl _ _⟩
    · have c3 : (decide (-1 ≤ nx) && decide (nx ≤ 127)) = false := by
        by_cases h3 : -1 ≤ nx
        · have : ¬ nx ≤ 127 := fun h4 => h2 ⟨h3, h4⟩
          simp [this]
        · simp [h3]
      clear h
      go_enter Tryz.func167, Tryz.ntmps167
      go_wp2_with (go_at_call 184; refine (hW _ _ _ _).mono ?_; rintro e wx ⟨rfl, rfl⟩)
      go_ret2
      exact ⟨rfl, Below.refl _ _⟩
  · have c3 : (decide (0 ≤ s) && decide (s ≤ 127)) = false := by
      by_cases h3 : 0 ≤ s
      · have : ¬ s ≤ 127 := fun h4 => h1 ⟨h3, h4⟩
        simp [this]
      · simp [h3]
    clear h
    go_enter Tryz.func167, Tryz.ntmps167
    go_wp2_with (go_at_call 184; refine (hW _ _ _ _).mono ?_; rintro e wx ⟨rfl, rfl⟩)
    go_ret2
    exact ⟨rfl, Below.refl _ _⟩

theorem results_tmp4 {fn : Func} {t u v x : Tmp} (h : fn.results = #[.tmp t, .tmp u, .tmp v, .tmp x]) (tmps : Array Value) (P : Program) (w : World) :
    (results fn tmps).run P w = .ok (.tuple #[tmps.getD t undef, tmps.getD u undef, tmps.getD v undef, tmps.getD x undef]) w := by
  simp [results, h]

theorem own_cell {w : World} {base n : Nat} {e : TypeId} {v : Value} {xs : List Value} (h : w.ownsRow base e 1 v n xs) (hn : 0 < n) :
    ∃ g cap, v = .slice (some ⟨g, 0, none⟩) n cap ∧ base ≤ g ∧ ∀ i, i < n → w.cell? ⟨g, i, none⟩ = xs[i]? := by
  rcases h.2 with ⟨_, h0⟩ | ⟨g, cap, cur, rfl, hb, hg, _, _, _, htk⟩
  · omega
  · refine ⟨g, cap, rfl, hb, fun i hi => ?_⟩
    rw [cell_of_block hg, ← htk, List.getElem?_take_of_lt (by omega), Array.getElem?_toList]

def UnwordR (x s n c : Nat) : Prop := s ≤ 127 ∧ n ≤ 128 ∧ c ≤ 11 ∧ slabW s n c = x
def UnwordPost (w : World) (x s n c : Nat) (e : Ending) (w' : World) : Prop :=
  ((UnwordR x s n c ∧ e = .returned (.tuple #[.int .i64 s, .int .i64 ((n : Int) - 1), .int .i64 c, .bool true])) ∨ (¬ UnwordR x s n c ∧ e = .returned (.tuple #[.int .i64 0, .int .i64 0, .int .i64 0, .bool false]))) ∧ Below w.heap.size w w'

set_option maxHeartbeats 800000 in
theorem unword_core (x s n c : Nat) (hx : x < 2 ^ 64) (hn : n = x / 2 ^ 0 % 2 ^ 8) (hs : s = x / 2 ^ 8 % 2 ^ 8) (hc : c = x / 2 ^ 16 % 2 ^ 8) (w : World) :
    Calls Tryz.prog 155 #[.int .u64 x] w (UnwordPost w x s n c) := by
  have hun : unpackN x nsF = [n, s, c, x / 2 ^ 24 % 2 ^ 40] := by rw [hn, hs, hc]; rfl
  have ln : n < 256 := by omega
  have ls : s < 256 := by omega
  have lc : c < 256 := by omega
  have HU := Lib.hid (fun b w => unpack_yes x b 4 nsF nsF_asc hx w (by decide))
  have hF := fun w => nsFields_any w
  have k1 : IntKind.i64.wrap (n : Int) = n := by rw [IntKind.wrap_i64]; omega
  have k2 : IntKind.i64.wrap (s : Int) = s := by rw [IntKind.wrap_i64]; omega
  have k3 : IntKind.i64.wrap (c : Int) = c := by rw [IntKind.wrap_i64]; omega
  have k4 : IntKind.i64.wrap ((n : Int) - 1) = (n : Int) - 1 := by rw [IntKind.wrap_i64]; omega
  clear hn hs hc
  generalize x / 2 ^ 24 % 2 ^ 40 = mk at hun
  go_enter Tryz.func155, Tryz.ntmps155
  go_wp2_with (first
    | (go_at_call 178; refine (hF _).mono ?_; rintro e w1 ⟨rfl, hf1, hb1, hz1⟩)
    | (go_at_call 76; refine (HU.out _ _ hf1).mono ?_; rintro e w2 ⟨v, rfl, hown, hb2⟩))
  rw [hun] at hown
  obtain ⟨g, cap, rfl, hg, hcell⟩ := own_cell hown (by decide)
  have y0 : w2.cell? ⟨g, 0, none⟩ = some (.int .u64 n) := hcell 0 (by decide)
  have y1 : w2.cell? ⟨g, 1, none⟩ = some (.int .u64 s) := hcell 1 (by decide)
  have y2 : w2.cell? ⟨g, 2, none⟩ = some (.int .u64 c) := hcell 2 (by decide)
  have HB2 := Lib.hid (show Below w.heap.size w w2 from Below.via hb2 (by omega) hb1)
  have hl : ((nsF.length : Nat) : Int) = 4 := rfl
  have hz2 := HB2.out.size
  clear hcell hown hf1 hb1 hb2
  (refine wp_region_quiet_ext (by kernel_rfl) (by kernel_rfl) ?_; (repeat (first | go_big_quiet_step ((fail)) | quiet_step ((fail)))); refine wpQuiet_nil ?_; intro w3 hw3; obtain hb3 := below_of_ext hw3; clear hw3; obtain ⟨hc3, hf3⟩ := bcell hb3; have hz3 := hb3.size; (try simp at hz3))
  have HB3 := Lib.hid (show Below w.heap.size w w3 from Below.via hb3 hz2 HB2.out)
  clear hc3 hf3 hb3
  by_cases hr : s ≤ 127 ∧ n ≤ 128 ∧ c ≤ 11
  · have hW := fun w => word_yes_ns s n c ((n : Int) - 1) (by omega) hr.1 hr.2.1 hr.2.2 w
    by_cases he : slabW s n c = x
    · have hfin := Lib.hid (show UnwordR x s n c from ⟨hr.1, hr.2.1, hr.2.2, he⟩)
      rw [he] at hW
      go_wp2_with (go_at_call 167; refine (hW _).mono ?_; rintro e w4 ⟨rfl, hb4⟩)
      (try simp only [Exit.inBlock, Exit.then])
      refine bodyPost_ret (results_tmp4 rfl _ _ _) rfl ?_
      exact ⟨.inl ⟨hfin.out, rfl⟩, Below.via hb4 (by omega) HB3.out⟩
    · have hfin := Lib.hid (show ¬ UnwordR x s n c from fun h => he h.2.2.2)
      generalize slabW s n c = R at hW he
      go_wp2_with (go_at_call 167; refine (hW _).mono ?_; rintro e w4 ⟨rfl, hb4⟩)
      (try simp only [Exit.inBlock, Exit.then])
      refine bodyPost_ret (results_tmp4 rfl _ _ _) rfl ?_
      exact ⟨.inr ⟨hfin.out, rfl⟩, Below.via hb4 (by omega) HB3.out⟩
  · have hfin := Lib.hid (show ¬ UnwordR x s n c from fun h => hr ⟨h.1, h.2.1, h.2.2.1⟩)
    have hW := fun w => word_no_ns (s : Int) ((n : Int) - 1) (c : Int) (by omega) w
    go_wp2_with (go_at_call 167; refine (hW _).mono ?_; rintro e w4 ⟨rfl, hb4⟩)
    (try simp only [Exit.inBlock, Exit.then])
    refine bodyPost_ret (results_tmp4 rfl _ _ _) rfl ?_
    exact ⟨.inr ⟨hfin.out, rfl⟩, Below.via hb4 (by omega) HB3.out⟩

end Go.Proofs.YtlljejmblmjjnaaGreat

/- tableb: the new layout's sizes. -/
namespace Go.Proofs.YtlljejmblmjjnaaGreat
set_option linter.unusedVariables false
set_option linter.unusedSimpArgs false
open Go.RowKit Go.ChangeMaps

def tabB : List Int := [8, 16, 24, 32, 48, 64, 96, 128, 192, 256, 384, 512]
def intsV (l : List Int) : List Value := l.map (Value.int .i64)
theorem info_int2 : (Tryz.prog.info? 3).map (fun i => (i.zero, i.size, i.bytes)) = some (some (.int .i64 0), 1, 8) := by kernel_rfl
theorem und_ints2 : Tryz.prog.underlying 37 = some (.slice 3) := by kernel_rfl
def tabN (k : Nat) : Nat := if k = 6 then 12 else 1 + 2 * k

def TableI (w wr : World) (u i : Value) : Prop := ∃ k : Nat, k ≤ 6 ∧ i = .int .i64 ((2 ^ (4 + k) : Nat) : Int) ∧ wr.ownsRow w.heap.size 3 1 u (tabN k) (intsV (tabB.take (tabN k))) ∧ Below w.heap.size w wr
def TablePost (w : World) (e : Ending) (w' : World) : Prop := ∃ v, e = .returned v ∧ w'.ownsRow w.heap.size 3 1 v 12 (intsV tabB) ∧ Below w.heap.size w w'

set_option maxHeartbeats 1000000 in
theorem table_any (w : World) : Calls Tryz.prog 152 #[] w (TablePost w) := by
  obtain ⟨i0, hi, hz0, hz1, hz2⟩ := info_parts info_int2
  go_enter Tryz.func152, Tryz.ntmps152
  go_wp2
  go_loopw [1, 2] (fun u i wr => TableI w wr u i) (fun _ i _ => 1024 - (intOf i).toNat)
  case atStart => exact ⟨0, by decide, rfl, ⟨rfl, .inr ⟨_, 1, _, rfl, Nat.le_refl _, heap_alloc_new _ _, by decide, by decide, rfl, rfl⟩⟩, (by repeat (first | exact Below.refl _ _ | assumption | refine Below.alloc ?_ (by first | omega | (simp <;> omega)) _ | refine Below.drew ?_ | refine Below.setCell ?_ (by first | omega | (simp <;> omega)) _ | refine Below.via (by assumption) (by first | omega | (simp <;> omega)) ?_))⟩
  case round =>
    obtain ⟨k, hk, rfl, hrow, hbw⟩ := hrel
    have hk7 : k = 0 ∨ k = 1 ∨ k = 2 ∨ k = 3 ∨ k = 4 ∨ k = 5 ∨ k = 6 := by omega
    have HB := Lib.hid hbw
    have hsz := hbw.size
    clear hbw hk
    rcases hk7 with rfl | rfl | rfl | rfl | rfl | rfl | rfl
    · have e0 : ((2 ^ (4 + 0) : Nat) : Int) = 16 := rfl
      rw [e0]
      change wr.ownsRow w.heap.size 3 1 _ 1 _ at hrow
      go_wp2_with (first | (at_builtin; refine wpList_append_own _ rfl _ _ 37 rfl w.heap.size 3 i0 (.int .i64 0) 1 8 und_ints2 hi hz0 hz1 hz2 rfl (by decide) _ _ _ rfl (hown1.alloc _) ⟨w1.heap.size, 0, none⟩ 1 1 [_] rfl rfl (cell_one_new _ _ _) (fun u hu => by simp at hu; rcases hu with rfl; rfl) (by decide) (by decide) (by simp; omega) ?_; intro v2 w2 hown2 hgrow2 hnil2; have hB2 := Lib.hid (Below.grown (hB1.out.alloc hsz1 _) hgrow2 (by simp; omega) (fun j e => (hown1.lt j e).1)); clear hgrow2 hnil2) | (at_builtin; refine wpList_append_own _ rfl _ _ 37 rfl w.heap.size 3 i0 (.int .i64 0) 1 8 und_ints2 hi hz0 hz1 hz2 rfl (by decide) _ _ _ rfl (hrow.alloc _) ⟨wr.heap.size, 0, none⟩ 1 1 [_] rfl rfl (cell_one_new _ _ _) (fun u hu => by simp at hu; rcases hu with rfl; rfl) (by decide) (by decide) (by simp; omega) ?_; intro v1 w1 hown1 hgrow1 hnil1; have hB1 := Lib.hid (Below.grown (HB.out.alloc hsz _) hgrow1 (by simp; omega) (fun j e => (hrow.lt j e).1)); have hsz1 := hB1.out.size; clear hgrow1 hnil1))
      go_roundw
      case rel => exact ⟨1, by decide, rfl, hown2, hB2.out⟩
      case measure => simp [intOf]
    · have e0 : ((2 ^ (4 + 1) : Nat) : Int) = 32 := rfl
      rw [e0]
      change wr.ownsRow w.heap.size 3 1 _ 3 _ at hrow
      go_wp2_with (first | (at_builtin; refine wpList_append_own _ rfl _ _ 37 rfl w.heap.size 3 i0 (.int .i64 0) 1 8 und_ints2 hi hz0 hz1 hz2 rfl (by decide) _ _ _ rfl (hown1.alloc _) ⟨w1.heap.size, 0, none⟩ 1 1 [_] rfl rfl (cell_one_new _ _ _) (fun u hu => by simp at hu; rcases hu with rfl; rfl) (by decide) (by decide) (by simp; omega) ?_; intro v2 w2 hown2 hgrow2 hnil2; have hB2 := Lib.hid (Below.grown (hB1.out.alloc hsz1 _) hgrow2 (by simp; omega) (fun j e => (hown1.lt j e).1)); clear hgrow2 hnil2) | (at_builtin; refine wpList_append_own _ rfl _ _ 37 rfl w.heap.size 3 i0 (.int .i64 0) 1 8 und_ints2 hi hz0 hz1 hz2 rfl (by decide) _ _ _ rfl (hrow.alloc _) ⟨wr.heap.size, 0, none⟩ 1 1 [_] rfl rfl (cell_one_new _ _ _) (fun u hu => by simp at hu; rcases hu with rfl; rfl) (by decide) (by decide) (by simp; omega) ?_; intro v1 w1 hown1 hgrow1 hnil1; have hB1 := Lib.hid (Below.grown (HB.out.alloc hsz _) hgrow1 (by simp; omega) (fun j e => (hrow.lt j e).1)); have hsz1 := hB1.out.size; clear hgrow1 hnil1))
      go_roundw
      case rel => exact ⟨2, by decide, rfl, hown2, hB2.out⟩
      case measure => simp [intOf]
    · have e0 : ((2 ^ (4 + 2) : Nat) : Int) = 64 := rfl
      rw [e0]
      change wr.ownsRow w.heap.size 3 1 _ 5 _ at hrow
      go_wp2_with (first | (at_builtin; refine wpList_append_own _ rfl _ _ 37 rfl w.heap.size 3 i0 (.int .i64 0) 1 8 und_ints2 hi hz0 hz1 hz2 rfl (by decide) _ _ _ rfl (hown1.alloc _) ⟨w1.heap.size, 0, none⟩ 1 1 [_] rfl rfl (cell_one_new _ _ _) (fun u hu => by simp at hu; rcases hu with rfl; rfl) (by decide) (by decide) (by simp; omega) ?_; intro v2 w2 hown2 hgrow2 hnil2; have hB2 := Lib.hid (Below.grown (hB1.out.alloc hsz1 _) hgrow2 (by simp; omega) (fun j e => (hown1.lt j e).1)); clear hgrow2 hnil2) | (at_builtin; refine wpList_append_own _ rfl _ _ 37 rfl w.heap.size 3 i0 (.int .i64 0) 1 8 und_ints2 hi hz0 hz1 hz2 rfl (by decide) _ _ _ rfl (hrow.alloc _) ⟨wr.heap.size, 0, none⟩ 1 1 [_] rfl rfl (cell_one_new _ _ _) (fun u hu => by simp at hu; rcases hu with rfl; rfl) (by decide) (by decide) (by simp; omega) ?_; intro v1 w1 hown1 hgrow1 hnil1; have hB1 := Lib.hid (Below.grown (HB.out.alloc hsz _) hgrow1 (by simp; omega) (fun j e => (hrow.lt j e).1)); have hsz1 := hB1.out.size; clear hgrow1 hnil1))
      go_roundw
      case rel => exact ⟨3, by decide, rfl, hown2, hB2.out⟩
      case measure => simp [intOf]
    · have e0 : ((2 ^ (4 + 3) : Nat) : Int) = 128 := rfl
      rw [e0]
      change wr.ownsRow w.heap.size 3 1 _ 7 _ at hrow
      go_wp2_with (first | (at_builtin; refine wpList_append_own _ rfl _ _ 37 rfl w.heap.size 3 i0 (.int .i64 0) 1 8 und_ints2 hi hz0 hz1 hz2 rfl (by decide) _ _ _ rfl (hown1.alloc _) ⟨w1.heap.size, 0, none⟩ 1 1 [_] rfl rfl (cell_one_new _ _ _) (fun u hu => by simp at hu; rcases hu with rfl; rfl) (by decide) (by decide) (by simp; omega) ?_; intro v2 w2 hown2 hgrow2 hnil2; have hB2 := Lib.hid (Below.grown (hB1.out.alloc hsz1 _) hgrow2 (by simp; omega) (fun j e => (hown1.lt j e).1)); clear hgrow2 hnil2) | (at_builtin; refine wpList_append_own _ rfl _ _ 37 rfl w.heap.size 3 i0 (.int .i64 0) 1 8 und_ints2 hi hz0 hz1 hz2 rfl (by decide) _ _ _ rfl (hrow.alloc _) ⟨wr.heap.size, 0, none⟩ 1 1 [_] rfl rfl (cell_one_new _ _ _) (fun u hu => by simp at hu; rcases hu with rfl; rfl) (by decide) (by decide) (by simp; omega) ?_; intro v1 w1 hown1 hgrow1 hnil1; have hB1 := Lib.hid (Below.grown (HB.out.alloc hsz _) hgrow1 (by simp; omega) (fun j e => (hrow.lt j e).1)); have hsz1 := hB1.out.size; clear hgrow1 hnil1))
      go_roundw
      case rel => exact ⟨4, by decide, rfl, hown2, hB2.out⟩
      case measure => simp [intOf]
    · have e0 : ((2 ^ (4 + 4) : Nat) : Int) = 256 := rfl
      rw [e0]
      change wr.ownsRow w.heap.size 3 1 _ 9 _ at hrow
      go_wp2_with (first | (at_builtin; refine wpList_append_own _ rfl _ _ 37 rfl w.heap.size 3 i0 (.int .i64 0) 1 8 und_ints2 hi hz0 hz1 hz2 rfl (by decide) _ _ _ rfl (hown1.alloc _) ⟨w1.heap.size, 0, none⟩ 1 1 [_] rfl rfl (cell_one_new _ _ _) (fun u hu => by simp at hu; rcases hu with rfl; rfl) (by decide) (by decide) (by simp; omega) ?_; intro v2 w2 hown2 hgrow2 hnil2; have hB2 := Lib.hid (Below.grown (hB1.out.alloc hsz1 _) hgrow2 (by simp; omega) (fun j e => (hown1.lt j e).1)); clear hgrow2 hnil2) | (at_builtin; refine wpList_append_own _ rfl _ _ 37 rfl w.heap.size 3 i0 (.int .i64 0) 1 8 und_ints2 hi hz0 hz1 hz2 rfl (by decide) _ _ _ rfl (hrow.alloc _) ⟨wr.heap.size, 0, none⟩ 1 1 [_] rfl rfl (cell_one_new _ _ _) (fun u hu => by simp at hu; rcases hu with rfl; rfl) (by decide) (by decide) (by simp; omega) ?_; intro v1 w1 hown1 hgrow1 hnil1; have hB1 := Lib.hid (Below.grown (HB.out.alloc hsz _) hgrow1 (by simp; omega) (fun j e => (hrow.lt j e).1)); have hsz1 := hB1.out.size; clear hgrow1 hnil1))
      go_roundw
      case rel => exact ⟨5, by decide, rfl, hown2, hB2.out⟩
      case measure => simp [intOf]
    · have e0 : ((2 ^ (4 + 5) : Nat) : Int) = 512 := rfl
      rw [e0]
      change wr.ownsRow w.heap.size 3 1 _ 11 _ at hrow
      go_wp2_with (at_builtin; refine wpList_append_own _ rfl _ _ 37 rfl w.heap.size 3 i0 (.int .i64 0) 1 8 und_ints2 hi hz0 hz1 hz2 rfl (by decide) _ _ _ rfl (hrow.alloc _) ⟨wr.heap.size, 0, none⟩ 1 1 [_] rfl rfl (cell_one_new _ _ _) (fun u hu => by simp at hu; rcases hu with rfl; rfl) (by decide) (by decide) (by simp; omega) ?_; intro v1 w1 hown1 hgrow1 hnil1; have hB1 := Lib.hid (Below.grown (HB.out.alloc hsz _) hgrow1 (by simp; omega) (fun j e => (hrow.lt j e).1)); have hsz1 := hB1.out.size; clear hgrow1 hnil1)
      go_roundw
      case rel => exact ⟨6, by decide, rfl, hown1, hB1.out⟩
      case measure => simp [intOf]
    · have e0 : ((2 ^ (4 + 6) : Nat) : Int) = 1024 := rfl
      rw [e0]
      change wr.ownsRow w.heap.size 3 1 _ 12 _ at hrow
      have HR := Lib.hid hrow
      clear hrow
      go_wp2
      go_ret
      exact ⟨_, rfl, HR.out, HB.out⟩

end Go.Proofs.YtlljejmblmjjnaaGreat

/- tableb: Sizes, Size of the new layout. -/
namespace Go.Proofs.YtlljejmblmjjnaaGreat
set_option linter.unusedVariables false
set_option linter.unusedSimpArgs false
open Go.RowKit Go.ChangeMaps

set_option maxHeartbeats 400000 in
theorem sizes_new (w : World) : Calls Tryz.prog 127 #[.int .i64 1] w (TablePost w) := by
  have hT := Lib.hid (fun w => table_any w)
  go_enter Tryz.func127, Tryz.ntmps127
  go_wp2_with (go_at_call 152; refine (hT.out _).mono ?_; rintro e w1 ⟨v, rfl, hown, hb⟩)
  go_ret
  exact ⟨_, rfl, hown, hb⟩

def sizeB (c : Int) : Int := if 0 ≤ c ∧ c < 12 then tabB.getD c.toNat 0 else 0

set_option maxRecDepth 4000 in
set_option maxHeartbeats 400000 in
theorem size_new (c : Int) (w : World) : Calls Tryz.prog 88 #[.int .i64 1, .int .i64 c] w fun e w' => e = .returned (.int .i64 (sizeB c)) ∧ Below w.heap.size w w' := by
  have hT := Lib.hid (fun w => sizes_new w)
  by_cases h1 : c < 0
  · have hs : sizeB c = 0 := by unfold sizeB; rw [if_neg (by omega)]
    rw [hs]
    clear hs
    go_enter Tryz.func88, Tryz.ntmps88
    go_wp2_with (go_at_call 127; refine (hT.out _).mono ?_; rintro e w1 ⟨v, rfl, hown, hb⟩; obtain ⟨g, cap, rfl, hg, hcell⟩ := own_cell hown (by decide))
    go_ret
    exact ⟨rfl, hb⟩
  · by_cases h2 : (12 : Int) ≤ c
    · have hs : sizeB c = 0 := by unfold sizeB; rw [if_neg (by omega)]
      rw [hs]
      clear hs
      go_enter Tryz.func88, Tryz.ntmps88
      go_wp2_with (go_at_call 127; refine (hT.out _).mono ?_; rintro e w1 ⟨v, rfl, hown, hb⟩; obtain ⟨g, cap, rfl, hg, hcell⟩ := own_cell hown (by decide))
      go_ret
      exact ⟨rfl, hb⟩
    · obtain ⟨k, rfl⟩ := Int.eq_ofNat_of_zero_le (show 0 ≤ c by omega)
      have hk : k < 12 := by omega
      have hs : sizeB (k : Int) = tabB.getD k 0 := by unfold sizeB; rw [if_pos (by omega), Int.toNat_natCast]
      rw [hs]
      have HV := Lib.hid (show (intsV tabB)[k]? = some (.int .i64 (tabB.getD k 0)) by
        show (tabB.map (Value.int .i64))[k]? = _
        rw [List.getElem?_map, List.getD_eq_getElem?_getD, List.getElem?_eq_getElem (show k < tabB.length from hk)]; rfl)
      clear hs
      generalize tabB.getD k 0 = sz at *
      have hi : (0 : Int) ≤ (k : Int) ∧ (k : Int) < 12 := by omega
      have hi2 : ¬ (12 : Int) ≤ (k : Int) := by omega
      have hi3 : ¬ (12 : Nat) ≤ k := by omega
      go_enter Tryz.func88, Tryz.ntmps88
      go_wp2_with (go_at_call 127; refine (hT.out _).mono ?_; rintro e w1 ⟨v, rfl, hown, hb⟩; obtain ⟨g, cap, rfl, hg, hcell⟩ := own_cell hown (by decide); have y0 := (hcell k hk).trans HV.out; clear hcell)
      go_ret
      exact ⟨rfl, hb⟩

end Go.Proofs.YtlljejmblmjjnaaGreat
