/- Of: events as the references have them. -/
import Derived.Test.YtgcnbiccekaffaaGreatOf
import Derived.Deep.RegionHeld3
namespace Go.Proofs.YtgcnbiccekaffaaGreat
open Go.RowKit Go.ChangeMaps

theorem info_rev : (Tryz.prog.info? 96).map (fun i => (i.zero, i.size, i.bytes)) = some (some (.agg #[.int .i64 0, .int .i64 0, .int .u64 0, .int .u64 0, .int .i64 0, .int .i64 0, .int .i64 0, .slice none 0 0, .int .i64 0, .int .i64 0, .int .i64 0, .int .i64 0, .slice none 0 0, .int .i64 0, .int .i64 0, .int .i64 0]), 16, 160) := by kernel_rfl

/-- What is told of an event, but for where its bytes lie. -/
def evC (e : EvM) : Int × OpA × AnsA × Int × Int × Int := (e.wk, e.o, e.x, e.asked, e.took, e.ended)

structure EvIn (w : World) (e : EvM) : Prop where
  in1 : BytesIn w e.p1 e.o.data
  in2 : BytesIn w e.p2 e.x.data
  l1 : e.o.data.length ≤ 140737488355328
  l2 : e.x.data.length ≤ 140737488355328
  n1 : e.p1 = none → e.q1 = 0
  n2 : e.p2 = none → e.q2 = 0

/-- An event whose bytes lie in memory made since w. -/
def EvOwn (w w' : World) (e : EvM) : Prop := OwnB w w' e.p1 e.o.data ∧ OwnB w w' e.p2 e.x.data

def OfAllPost (w : World) (es : List EvM) (e : Ending) (w' : World) : Prop :=
  ∃ (es' : List EvM) (v : Value), e = .returned v ∧ es'.length = es.length ∧ es'.map evC = es.map evC ∧ w'.ownsRow w.heap.size 96 16 v es.length (es'.flatMap evV) ∧ (∀ x ∈ es', EvOwn w w' x) ∧ Below w.heap.size w w'

def OfI (w wr : World) (es : List EvM) (k : Nat) (v : Value) : Prop :=
  ∃ es' : List EvM, es'.length = k ∧ es'.map evC = (es.take k).map evC ∧ wr.ownsRow w.heap.size 96 16 v k (es'.flatMap evV) ∧ (∀ x ∈ es', EvOwn w wr x) ∧ Below w.heap.size w wr

theorem ev_cell {w : World} {g : Nat} {e : EvM} {T : TypeId} (h : w.heap[g]? = some (.cells (evV e).toArray T (0, 0))) (i : Nat) (v : Value) (hv : (evV e)[i]? = some v) : w.cell? ⟨g, i, none⟩ = some v := by
  rw [cell_of_block h, List.getElem?_toArray]
  exact hv

theorem cells_new (w : World) (l : List Value) (T : TypeId) : ∀ j u, l[j]? = some u → (w.alloc (.cells l.toArray T)).cell? ((⟨w.heap.size, 0, none⟩ : Addr).add j) = some u := fun j u hu => by
  have : (⟨w.heap.size, 0, none⟩ : Addr).add j = ⟨w.heap.size, j, none⟩ := by unfold Addr.add; split <;> simp_all
  rw [this, cell_of_block (heap_alloc_new w _), List.getElem?_toArray]
  exact hu

theorem ev_ones (e : EvM) : ∀ u ∈ evV e, u.oneCell' = true := by
  intro v hv
  simp only [evV, List.mem_cons, List.not_mem_nil, or_false] at hv
  rcases hv with rfl | rfl | rfl | rfl | rfl | rfl | rfl | rfl | rfl | rfl | rfl | rfl | rfl | rfl | rfl | rfl <;> rfl

theorem OwnB.grown {w w' W : World} {p : Option Addr} {ds : List Int} {base n : Nat} {v : Value} {xs : List Value} {T : TypeId} {size : Nat} (h : OwnB w w' p ds) (hr : w'.ownsRow base T size v n xs) (hT : T ≠ 5) (hg : w'.grownBy W v.ownBlock) : OwnB w W p ds := by
  have hk : ∀ b o, p = some ⟨b, o, none⟩ → W.heap[b]? = w'.heap[b]? := fun b o e => by
    obtain ⟨_, cur, h2⟩ := h.2 b o e
    exact hg.block b (lt_of_block h2) (row_ne hr h2 hT)
  refine ⟨fun i hi => ?_, fun b o e => ?_⟩
  · obtain ⟨b, o, e, hc⟩ := h.1 i hi
    exact ⟨b, o, e, (World.cell?_of_block (w := w') (a := ⟨b, o + i, none⟩) (hk b o e)).trans hc⟩
  · obtain ⟨h1, cur, h2⟩ := h.2 b o e
    exact ⟨h1, cur, (hk b o e).trans h2⟩

theorem blk_append {w6 w7 : World} {base : Nat} {v : Value} {k : Nat} {xs : List Value} {b : Nat} {cs : Array Value} {o : Obj} (hr : w6.ownsRow base 96 16 v k xs) (hb : w6.heap[b]? = some (.cells cs 60 (0, 0))) (hg : (w6.alloc o).grownBy w7 v.ownBlock) :
    w7.heap[b]? = some (.cells cs 60 (0, 0)) := by
  have hl := lt_of_block hb
  rw [hg.block b (by simp; omega) (row_ne hr hb (by decide)), heap_alloc_old _ _ hl]
  exact hb

theorem of_next {w wr w6 w7 : World} {es es' : List EvM} {k : Nat} {ev ev' : EvM} {v v' : Value} {o : Obj} (he1 : es'.length = k) (he2 : es'.map evC = (es.take k).map evC) (htk : (es.take (k + 1)).map evC = (es.take k).map evC ++ [evC ev]) (hev : evC ev' = evC ev)
    (hr : w6.ownsRow w.heap.size 96 16 v k (es'.flatMap evV)) (h7 : w7.ownsRow w.heap.size 96 16 v' (k + 1) (es'.flatMap evV ++ evV ev')) (hg : (w6.alloc o).grownBy w7 v.ownBlock)
    (ho : ∀ x ∈ es', EvOwn w wr x) (hb : Below wr.heap.size wr w6) (h1 : OwnB w w6 ev'.p1 ev'.o.data) (h2 : OwnB w w6 ev'.p2 ev'.x.data) (hb6 : Below w.heap.size w w6) : OfI w w7 es (k + 1) v' := by
  have ha : Below w6.heap.size w6 (w6.alloc o) := (Below.refl _ _).alloc (Nat.le_refl _) _
  have hne : 96 ≠ 5 := by decide
  refine ⟨es' ++ [ev'], by simp [he1], by rw [List.map_append, htk, he2, ← hev]; rfl, by simpa using h7, fun x hx => ?_, ?_⟩
  · rcases List.mem_append.1 hx with hx | hx
    · have := ho x hx
      exact ⟨((this.1.below hb).below ha).grown (hr.alloc o) hne hg, ((this.2.below hb).below ha).grown (hr.alloc o) hne hg⟩
    · obtain rfl : x = ev' := by simpa using hx
      exact ⟨(h1.below ha).grown (hr.alloc o) hne hg, (h2.below ha).grown (hr.alloc o) hne hg⟩
  · exact Below.grown (hb6.alloc hb6.size _) hg (by have := hb6.size; simp; omega) (fun j e => (hr.lt j e).1)

set_option maxRecDepth 100000 in
set_option maxHeartbeats 2000000 in
theorem ofAll_any (w : World) (pv : Option Addr) (cap : Nat) (es : List EvM) (h : EvsAt w pv es) (hin : ∀ e ∈ es, EvIn w e) (hl : es.length ≤ 1000000) :
    Calls Tryz.prog 19 #[.slice pv es.length cap] w (OfAllPost w es) := by
  obtain ⟨i0, hi, hz0, hz1, hz2⟩ := info_parts info_rev
  have hown : (w.alloc (.cells #[] 96)).ownsRow w.heap.size 96 16 (.slice (some ⟨w.heap.size, 0, none⟩) 0 0) 0 [] := World.ownsRow_made w #[] 0 (Nat.le_refl _) (Nat.zero_le _) rfl
  have hb0 : Below w.heap.size w (w.alloc (.cells #[] 96)) := (Below.refl _ _).alloc (Nat.le_refl _) _
  have HIN := Lib.hid hin
  clear hin
  go_enter Tryz.func19, Tryz.ntmps19
  go_wp2
  go_loopw [3, 4] (fun v i wr => ∃ k : Nat, k ≤ es.length ∧ i = .int .i64 k ∧ OfI w wr es k v) (fun _ i _ => es.length - (intOf i).toNat)
  case atStart => exact ⟨0, Nat.zero_le _, rfl, [], rfl, rfl, hown, fun x hx => absurd hx List.not_mem_nil, hb0⟩
  case round =>
    obtain ⟨k, hk, rfl, es', he1, he2, hrow, howns, hbl⟩ := hrel
    clear hown hb0
    by_cases hlt : k < es.length
    · obtain ⟨g, off, rfl, hc⟩ := h k hlt
      have hei := HIN.out _ (List.getElem_mem hlt)
      have htk : (es.take (k + 1)).map evC = (es.take k).map evC ++ [evC es[k]] := by rw [List.take_succ_eq_append_getElem hlt, List.map_append]; rfl
      have HTK := Lib.hid htk
      clear htk
      generalize es[k] = ev at *
      have hrng : wr.rangeAt g (off + k * 16) (evV ev) := fun j v hv => cell_past hbl (cell_lt (hc j v hv)) (hc j v hv)
      have HRNG := Lib.hid hrng
      have hi1 : (0 : Int) ≤ k ∧ (k : Int) < es.length := by omega
      have hkw : IntKind.i64.wrap ((k : Int) + 1) = (k : Int) + 1 := by rw [IntKind.wrap_i64]; omega
      have HB := Lib.hid hbl
      have hwr : w.heap.size ≤ wr.heap.size := hbl.size
      have HROW := Lib.hid hrow
      have HOWNS := Lib.hid howns
      have HE2 := Lib.hid he2
      have HEI := Lib.hid hei
      clear hbl hrow hc hrng howns he2 hei
      go_wp2_with (first
        | (refine wpList_load_mid rfl 60 _ rfl g (off + k * 16) rfl (evV ev) _ HRNG.out Tryz.underlying60 rfl ev_size ?_)
        | (refine wpList_store_row rfl 60 _ _ rfl wr.heap.size (evV ev).toArray rfl rfl 60 _ (heap_alloc_new wr _) (by rw [ev_size, ev_len]) (by rw [ev_len]; rfl) (ev_one ev) ?_
           obtain ⟨hb4, hblk⟩ := box_store wr #[.int .i64 0, .int .i64 0, .int .u64 0, .int .u64 0, .int .i64 0, .int .i64 0, .int .i64 0, .slice none 0 0, .int .i64 0, .int .i64 0, .int .i64 0, .int .i64 0, .slice none 0 0, .int .i64 0, .int .i64 0, .int .i64 0] (evV ev).toArray 60
           generalize (wr.alloc (.cells #[.int .i64 0, .int .i64 0, .int .u64 0, .int .u64 0, .int .i64 0, .int .i64 0, .int .i64 0, .slice none 0 0, .int .i64 0, .int .i64 0, .int .i64 0, .int .i64 0, .slice none 0 0, .int .i64 0, .int .i64 0, .int .i64 0] 60)).setRow wr.heap.size (evV ev).toArray = W4 at *
           have HBLK := Lib.hid hblk
           have HB4 := Lib.hid hb4
           have l4 := lt_of_block hblk
           clear hb4 hblk))
      have hop : ∀ W, Below w.heap.size w W → Calls Tryz.prog 12 #[.agg #[.int .i64 ev.o.k, .int .u64 ev.o.a, .int .u64 ev.o.b, .int .i64 ev.o.at_, .int .i64 ev.o.fr, .int .i64 ev.o.n, .slice ev.p1 ev.o.data.length ev.q1]] W
          (fun e w' => ∃ p q, e = .returned (.agg #[.int .i64 ev.o.k, .int .u64 ev.o.a, .int .u64 ev.o.b, .int .i64 ev.o.at_, .int .i64 ev.o.fr, .int .i64 ev.o.n, .slice p ev.o.data.length q]) ∧ OwnB W w' p ev.o.data ∧ Below W.heap.size W w') :=
        fun W hb => op_any W ev.o ev.p1 ev.q1 (HEI.out.in1.below hb) HEI.out.l1 HEI.out.n1
      have han : ∀ W, Below w.heap.size w W → Calls Tryz.prog 13 #[.agg #[.int .i64 ev.x.err, .int .i64 ev.x.at_, .int .i64 ev.x.n, .int .i64 ev.x.count, .slice ev.p2 ev.x.data.length ev.q2]] W
          (fun e w' => ∃ p q, e = .returned (.agg #[.int .i64 ev.x.err, .int .i64 ev.x.at_, .int .i64 ev.x.n, .int .i64 ev.x.count, .slice p ev.x.data.length q]) ∧ OwnB W w' p ev.x.data ∧ Below W.heap.size W w') :=
        fun W hb => answer_any W ev.x ev.p2 ev.q2 (HEI.out.in2.below hb) HEI.out.l2 HEI.out.n2
      have HOP := Lib.hid hop
      have HAN := Lib.hid han
      clear hop han
      have HBD : Hid (Below w.heap.size w W4.drew) := (HB.out.trans (HB4.out.mono hwr)).drew
      have HROW4 := Lib.hid (ownsRow_below HROW.out HB4.out).drew
      (have a4x0 := ev_cell HBLK.out 0 _ rfl; have a4x1 := ev_cell HBLK.out 1 _ rfl; have a4x2 := ev_cell HBLK.out 2 _ rfl; have a4x3 := ev_cell HBLK.out 3 _ rfl; have a4x4 := ev_cell HBLK.out 4 _ rfl; have a4x5 := ev_cell HBLK.out 5 _ rfl; have a4x6 := ev_cell HBLK.out 6 _ rfl; have a4x7 := ev_cell HBLK.out 7 _ rfl; have a4x8 := ev_cell HBLK.out 8 _ rfl; have a4x9 := ev_cell HBLK.out 9 _ rfl; have a4x10 := ev_cell HBLK.out 10 _ rfl; have a4x11 := ev_cell HBLK.out 11 _ rfl; have a4x12 := ev_cell HBLK.out 12 _ rfl; have a4x13 := ev_cell HBLK.out 13 _ rfl; have a4x14 := ev_cell HBLK.out 14 _ rfl; have a4x15 := ev_cell HBLK.out 15 _ rfl)
      go_region_held3 (fun W : World => W.cell? ⟨wr.heap.size, 0, none⟩ = some (.int .i64 ev.wk) ∧ W.cell? ⟨wr.heap.size, 1, none⟩ = some (.int .i64 ev.o.k) ∧ W.cell? ⟨wr.heap.size, 2, none⟩ = some (.int .u64 ev.o.a) ∧ W.cell? ⟨wr.heap.size, 3, none⟩ = some (.int .u64 ev.o.b) ∧ W.cell? ⟨wr.heap.size, 4, none⟩ = some (.int .i64 ev.o.at_) ∧ W.cell? ⟨wr.heap.size, 5, none⟩ = some (.int .i64 ev.o.fr) ∧ W.cell? ⟨wr.heap.size, 6, none⟩ = some (.int .i64 ev.o.n) ∧ W.cell? ⟨wr.heap.size, 7, none⟩ = some (.slice ev.p1 ev.o.data.length ev.q1) ∧ W.cell? ⟨wr.heap.size, 8, none⟩ = some (.int .i64 ev.x.err) ∧ W.cell? ⟨wr.heap.size, 9, none⟩ = some (.int .i64 ev.x.at_) ∧ W.cell? ⟨wr.heap.size, 10, none⟩ = some (.int .i64 ev.x.n) ∧ W.cell? ⟨wr.heap.size, 11, none⟩ = some (.int .i64 ev.x.count) ∧ W.cell? ⟨wr.heap.size, 12, none⟩ = some (.slice ev.p2 ev.x.data.length ev.q2) ∧ W.cell? ⟨wr.heap.size, 13, none⟩ = some (.int .i64 ev.asked) ∧ W.cell? ⟨wr.heap.size, 14, none⟩ = some (.int .i64 ev.took) ∧ W.cell? ⟨wr.heap.size, 15, none⟩ = some (.int .i64 ev.ended)) (go_keep)
        ((first
          | (go_at_call 12; refine (HOP.out _ HBD.out).mono ?_; rintro e w5 ⟨p1, q1, rfl, ho1, hb5⟩
             have HBLK5 := Lib.hid ((hb5.block _ l4).trans HBLK.out)
             (have a5x0 := ev_cell HBLK5.out 0 _ rfl; have a5x1 := ev_cell HBLK5.out 1 _ rfl; have a5x2 := ev_cell HBLK5.out 2 _ rfl; have a5x3 := ev_cell HBLK5.out 3 _ rfl; have a5x4 := ev_cell HBLK5.out 4 _ rfl; have a5x5 := ev_cell HBLK5.out 5 _ rfl; have a5x6 := ev_cell HBLK5.out 6 _ rfl; have a5x7 := ev_cell HBLK5.out 7 _ rfl; have a5x8 := ev_cell HBLK5.out 8 _ rfl; have a5x9 := ev_cell HBLK5.out 9 _ rfl; have a5x10 := ev_cell HBLK5.out 10 _ rfl; have a5x11 := ev_cell HBLK5.out 11 _ rfl; have a5x12 := ev_cell HBLK5.out 12 _ rfl; have a5x13 := ev_cell HBLK5.out 13 _ rfl; have a5x14 := ev_cell HBLK5.out 14 _ rfl; have a5x15 := ev_cell HBLK5.out 15 _ rfl)
             have HO1 := Lib.hid ho1
             have HBD5 := Lib.hid (HBD.out.trans (hb5.mono HBD.out.size))
             have HBX5 := Lib.hid (HB4.out.drew.trans (hb5.mono (Nat.le_of_lt l4)))
             have HROW5 := Lib.hid (ownsRow_below HROW4.out hb5)
             have l5 := lt_of_block HBLK5.out
             have hs45 : W4.heap.size ≤ w5.heap.size := hb5.size
             clear ho1 hb5)
          | (go_at_call 13; refine (HAN.out _ HBD5.out).mono ?_; rintro e w6 ⟨p2, q2, rfl, ho2, hb6⟩
             have HBLK6 := Lib.hid ((hb6.block _ l5).trans HBLK5.out)
             (have a6x0 := ev_cell HBLK6.out 0 _ rfl; have a6x1 := ev_cell HBLK6.out 1 _ rfl; have a6x2 := ev_cell HBLK6.out 2 _ rfl; have a6x3 := ev_cell HBLK6.out 3 _ rfl; have a6x4 := ev_cell HBLK6.out 4 _ rfl; have a6x5 := ev_cell HBLK6.out 5 _ rfl; have a6x6 := ev_cell HBLK6.out 6 _ rfl; have a6x7 := ev_cell HBLK6.out 7 _ rfl; have a6x8 := ev_cell HBLK6.out 8 _ rfl; have a6x9 := ev_cell HBLK6.out 9 _ rfl; have a6x10 := ev_cell HBLK6.out 10 _ rfl; have a6x11 := ev_cell HBLK6.out 11 _ rfl; have a6x12 := ev_cell HBLK6.out 12 _ rfl; have a6x13 := ev_cell HBLK6.out 13 _ rfl; have a6x14 := ev_cell HBLK6.out 14 _ rfl; have a6x15 := ev_cell HBLK6.out 15 _ rfl)
             have HO2 := Lib.hid ho2
             have HO16 := Lib.hid (HO1.out.below hb6)
             have HBD6 := Lib.hid (HBD5.out.trans (hb6.mono HBD5.out.size))
             have HBX6 := Lib.hid (HBX5.out.trans (hb6.mono (Nat.le_of_lt l5)))
             have HROW6 := Lib.hid (ownsRow_below HROW5.out hb6)
             have l6 := lt_of_block HBLK6.out
             have hs56 : w5.heap.size ≤ w6.heap.size := hb6.size
             clear ho2 hb6)
          | (refine step_append_own rfl _ _ 64 rfl w.heap.size 96 i0 (.agg #[.int .i64 0, .int .i64 0, .int .u64 0, .int .u64 0, .int .i64 0, .int .i64 0, .int .i64 0, .slice none 0 0, .int .i64 0, .int .i64 0, .int .i64 0, .int .i64 0, .slice none 0 0, .int .i64 0, .int .i64 0, .int .i64 0]) 16 160 Tryz.underlying64 hi hz0 hz1 hz2 rfl (by decide) _ _ _ rfl (HROW6.out.alloc _) ⟨w6.heap.size, 0, none⟩ 1 1 [.int .i64 ev.wk, .int .i64 ev.o.k, .int .u64 ev.o.a, .int .u64 ev.o.b, .int .i64 ev.o.at_, .int .i64 ev.o.fr, .int .i64 ev.o.n, .slice p1 ev.o.data.length q1, .int .i64 ev.x.err, .int .i64 ev.x.at_, .int .i64 ev.x.n, .int .i64 ev.x.count, .slice p2 ev.x.data.length q2, .int .i64 ev.asked, .int .i64 ev.took, .int .i64 ev.ended] rfl rfl (cells_new w6 [.int .i64 ev.wk, .int .i64 ev.o.k, .int .u64 ev.o.a, .int .u64 ev.o.b, .int .i64 ev.o.at_, .int .i64 ev.o.fr, .int .i64 ev.o.n, .slice p1 ev.o.data.length q1, .int .i64 ev.x.err, .int .i64 ev.x.at_, .int .i64 ev.x.n, .int .i64 ev.x.count, .slice p2 ev.x.data.length q2, .int .i64 ev.asked, .int .i64 ev.took, .int .i64 ev.ended] 96) (ev_ones ⟨ev.wk, ev.o, ev.x, p1, q1, p2, q2, ev.asked, ev.took, ev.ended⟩) (by unfold maxLen; omega) (by omega) (by simp; omega) ?_; intro v' w7 hown7 hgrow7 hnil7
             have HBLK7 := Lib.hid (blk_append HROW6.out HBLK6.out hgrow7)
             (have a7x0 := ev_cell HBLK7.out 0 _ rfl; have a7x1 := ev_cell HBLK7.out 1 _ rfl; have a7x2 := ev_cell HBLK7.out 2 _ rfl; have a7x3 := ev_cell HBLK7.out 3 _ rfl; have a7x4 := ev_cell HBLK7.out 4 _ rfl; have a7x5 := ev_cell HBLK7.out 5 _ rfl; have a7x6 := ev_cell HBLK7.out 6 _ rfl; have a7x7 := ev_cell HBLK7.out 7 _ rfl; have a7x8 := ev_cell HBLK7.out 8 _ rfl; have a7x9 := ev_cell HBLK7.out 9 _ rfl; have a7x10 := ev_cell HBLK7.out 10 _ rfl; have a7x11 := ev_cell HBLK7.out 11 _ rfl; have a7x12 := ev_cell HBLK7.out 12 _ rfl; have a7x13 := ev_cell HBLK7.out 13 _ rfl; have a7x14 := ev_cell HBLK7.out 14 _ rfl; have a7x15 := ev_cell HBLK7.out 15 _ rfl)
             have HOWN7 := Lib.hid hown7
             have HGROW7 := Lib.hid hgrow7
             clear hown7 hgrow7 hnil7)))
      have hrel' : OfI w w7 es (k + 1) v' := of_next (ev' := ⟨ev.wk, ev.o, ev.x, p1, q1, p2, q2, ev.asked, ev.took, ev.ended⟩) he1 HE2.out HTK.out rfl HROW6.out HOWN7.out HGROW7.out HOWNS.out HBX6.out (HO16.out.mono (Nat.le_trans hwr (Nat.le_of_lt l4))) (HO2.out.mono (by omega)) HBD6.out
      have HREL := Lib.hid hrel'
      clear hrel' HGROW7 HOWN7
      go_wp2
      go_roundw
      case rel => exact ⟨k + 1, by omega, by go_num, HREL.out⟩
      case measure => simp [intOf]; omega
    · obtain rfl : k = es.length := by omega
      rw [List.take_length] at he2
      have HFIN := Lib.hid (show OfAllPost w es (.returned _) wr from ⟨es', _, rfl, he1, he2, hrow, howns, hbl⟩)
      clear hrow howns hbl he2
      go_wp2
      go_ret
      exact HFIN.out

end Go.Proofs.YtgcnbiccekaffaaGreat
