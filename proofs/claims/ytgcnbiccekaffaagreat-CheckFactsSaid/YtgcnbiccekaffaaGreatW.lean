/- Order. -/
import Derived.Test.YtgcnbiccekaffaaGreatNil
import Derived.Maps.OwnSet
import Derived.Deep.MidRow
namespace Go.Proofs.YtgcnbiccekaffaaGreat
open Go.RowKit Go.ChangeMaps

theorem ownsRow_below {w W : World} {base : Nat} {e : TypeId} {size n : Nat} {v : Value} {xs : List Value} (h : w.ownsRow base e size v n xs) (hb : Below w.heap.size w W) : W.ownsRow base e size v n xs := by
  refine ⟨h.1, ?_⟩
  rcases h.2 with h0 | ⟨g, cap, cur, rfl, h1, h2, h3⟩
  · exact .inl h0
  · exact .inr ⟨g, cap, cur, rfl, h1, (hb.block _ (lt_of_block h2)).trans h2, h3⟩

theorem info_int : (Tryz.prog.info? 3).map (fun i => (i.zero, i.size, i.bytes)) = some (some (.int .i64 0), 1, 8) := by kernel_rfl

theorem box_store (w : World) (old cs : Array Value) (T : TypeId) : Below w.heap.size w ((w.alloc (.cells old T)).setRow w.heap.size cs) ∧ ((w.alloc (.cells old T)).setRow w.heap.size cs).heap[w.heap.size]? = some (.cells cs T (0, 0)) := by
  refine ⟨⟨rfl, rfl, rfl, by simp [World.setRow], fun k hk => ?_⟩, setRow_eq (heap_alloc_new w _) cs⟩
  rw [setRow_ne _ _ _ _ (by omega), heap_alloc_old _ _ hk]

theorem ev_one (ev : EvM) : (evV ev).toArray.all (·.oneCell') = true := all_oneCell_toArray (by
  intro v hv
  simp only [evV, List.mem_cons, List.not_mem_nil, or_false] at hv
  rcases hv with rfl | rfl | rfl | rfl | rfl | rfl | rfl | rfl | rfl | rfl | rfl | rfl | rfl | rfl | rfl | rfl <;> rfl)
theorem ev_len (ev : EvM) : (evV ev).toArray.size = 16 := rfl
theorem ev_size : (Tryz.prog.info? 60).map (·.size) = some 16 := by kernel_rfl

def pickK (es : List EvM) (k : Nat) : List Nat := (List.range k).filter fun i => tookAt es i != 0
theorem pickK_succ (es : List EvM) (k : Nat) : pickK es (k + 1) = if (tookAt es k != 0) = true then pickK es k ++ [k] else pickK es k := by
  unfold pickK
  rw [List.range_succ, List.filter_append]
  split
  · rename_i h; simp [h]
  · rename_i h; simp [h]
theorem pickK_lt (es : List EvM) (k : Nat) : ∀ i ∈ pickK es k, i < k := fun _ hi => List.mem_range.1 (List.mem_filter.1 hi).1
theorem pickK_length (es : List EvM) (k : Nat) : (pickK es k).length ≤ k := Nat.le_trans (List.length_filter_le _ _) (by simp)

def timelyE (e : EvM) : Bool := e.took == 0 || timelyB e.asked e.took e.ended

/-- Between two rounds of the first loop: W0 when it began. -/
def Order1I (W0 wr : World) (es : List EvM) (k : Nat) (v : Value) : Prop :=
  Below W0.heap.size W0 wr ∧ wr.ownsRow W0.heap.size 3 1 v (pickK es k).length ((pickK es k).map natV) ∧ ((es.take k).all timelyE = true)

theorem cell_one_int (w : World) (a : Value) (T : TypeId) : ∀ j u, [a][j]? = some u → (w.alloc (.cells #[a] T)).cell? ((⟨w.heap.size, 0, none⟩ : Addr).add j) = some u := by
  intro j u hj
  match j, hj with
  | 0, hj => simp at hj; subst hj; simp [Addr.add, go_sem]

def evAt (es : List EvM) (i : Nat) : EvM := es.getD i ⟨0, ⟨0, 0, 0, 0, 0, 0, []⟩, ⟨0, 0, 0, 0, []⟩, none, 0, none, 0, 0, 0, 0⟩
def lastOf (es : List EvM) (ps : List Nat) (w : Int) : Option Nat := ps.reverse.find? fun i => (evAt es i).wk == w
def stepOk (es : List EvM) (ps : List Nat) (i : Nat) : Bool :=
  (match ps.getLast? with | some p => (evAt es p).took != (evAt es i).took | none => true) &&
  (match lastOf es ps (evAt es i).wk with | some j => !((evAt es j).ended == 0 || decide ((evAt es i).asked ≤ (evAt es j).ended)) | none => true)
def okFrom (es : List EvM) : List Nat → List Nat → Bool
  | _, [] => true
  | ps, i :: r => stepOk es ps i && okFrom es (ps ++ [i]) r

def OrderPost (w : World) (es : List EvM) (e : Ending) (w' : World) : Prop :=
  Below w.heap.size w w' ∧
    ((es.all timelyE = false ∧ e = .returned (.tuple #[.slice none 0 0, .int .i64 10])) ∨
      (es.all timelyE = true ∧ ∃ ys : List Nat, ys.Perm (pickK es es.length) ∧ ys.Pairwise (fun i j => tookAt es i ≤ tookAt es j) ∧
        ((okFrom es [] ys = false ∧ e = .returned (.tuple #[.slice none 0 0, .int .i64 10])) ∨
          (okFrom es [] ys = true ∧ ∃ v, e = .returned (.tuple #[v, .int .i64 0]) ∧ w'.ownsRow w.heap.size 3 1 v ys.length (ys.map natV)))))

theorem tookAt_ev (es : List EvM) (i : Nat) : tookAt es i = (evAt es i).took := by
  unfold tookAt evAt
  rw [List.getD_eq_getElem?_getD]
  cases es[i]? <;> rfl

theorem evAt_get {es : List EvM} {i : Nat} (h : i < es.length) : es[i] = evAt es i := by
  unfold evAt
  rw [List.getD_eq_getElem?_getD, List.getElem?_eq_getElem h]
  rfl

/-- The map of the last event of each worker. -/
def LastD (es : List EvM) (ps : List Nat) (D : DataW Unit) : Prop :=
  Maps.IsMap D ∧ ∀ wk, (match lastOf es ps wk with | none => Maps.has D (.int .i64 wk) = false | some j => Maps.has D (.int .i64 wk) = true ∧ ∀ z, D.atKey (.int .i64 wk) z = .lit (.int .i64 j))

theorem lastOf_snoc (es : List EvM) (ps : List Nat) (i : Nat) (w : Int) : lastOf es (ps ++ [i]) w = if ((evAt es i).wk == w) = true then some i else lastOf es ps w := by
  unfold lastOf
  rw [List.reverse_append]
  simp only [List.reverse_cons, List.reverse_nil, List.nil_append, List.cons_append, List.find?_cons]
  split <;> simp_all

theorem lastD_put {es : List EvM} {ps : List Nat} {D : DataW Unit} (h : LastD es ps D) (i : Nat) : LastD es (ps ++ [i]) (D.put (.int .i64 (evAt es i).wk) (.lit (.int .i64 i))) := by
  refine ⟨h.1.put _ _, fun wk => ?_⟩
  rw [lastOf_snoc]
  by_cases e : (evAt es i).wk = wk
  · rw [if_pos (by simpa using e)]
    subst e
    exact ⟨Maps.has_put_same (k := Lit.int .i64 (evAt es i).wk) h.1 True.intro _, fun z => Maps.atKey_put_same (k := Lit.int .i64 (evAt es i).wk) h.1 True.intro _ z⟩
  · rw [if_neg (by simpa using e)]
    have hne : Lit.int .i64 wk ≠ Lit.int .i64 (evAt es i).wk := fun h => e (by simpa using h.symm)
    have := h.2 wk
    cases hl : lastOf es ps wk with
    | none =>
      rw [hl] at this
      simp only at this ⊢
      rw [Maps.has_put_other hne]; exact this
    | some j =>
      rw [hl] at this
      simp only at this ⊢
      exact ⟨by rw [Maps.has_put_other hne]; exact this.1, fun z => by rw [Maps.atKey_put_other hne]; exact this.2 z⟩

theorem lastD_nil (es : List EvM) : LastD es [] (.map []) := ⟨⟨[], rfl⟩, fun _ => rfl⟩

theorem lastOf_mem {es : List EvM} {ps : List Nat} {w : Int} {j : Nat} (h : lastOf es ps w = some j) : j ∈ ps := by
  have := List.mem_of_find?_eq_some h
  simpa using this

theorem okFrom_step (es : List EvM) (ys : List Nat) (k : Nat) (h : k < ys.length) : okFrom es (ys.take k) (ys.drop k) = (stepOk es (ys.take k) ys[k] && okFrom es (ys.take (k + 1)) (ys.drop (k + 1))) := by
  rw [List.drop_eq_getElem_cons h, okFrom, List.take_succ_eq_append_getElem h]

theorem stepOk_of {es : List EvM} {ps : List Nat} {i : Nat} {a b : Bool} (ha : (match ps.getLast? with | some p => (evAt es p).took != (evAt es i).took | none => true) = a)
    (hb : (match lastOf es ps (evAt es i).wk with | some j => !((evAt es j).ended == 0 || decide ((evAt es i).asked ≤ (evAt es j).ended)) | none => true) = b) : stepOk es ps i = (a && b) := by
  unfold stepOk
  rw [ha, hb]

theorem ownsMap_below {w W : World} {k : TypeId} {R : Value → Option (DataW Unit × List MemPlace)} {b n : Nat} {D : DataW Unit} (h : w.ownsMap Tryz.prog k R b n D) (hb : Below w.heap.size w W) : W.ownsMap Tryz.prog k R b n D := by
  have hl := h.lt
  obtain ⟨es, clock, h1, h2⟩ := h
  exact ⟨es, clock, (hb.block _ hl).trans h1, h2⟩

def Order2I (w2 wr : World) (es : List EvM) (ys : List Nat) (k : Nat) : Prop :=
  Below w2.heap.size w2 wr ∧ (∃ D, wr.ownsMap Tryz.prog 3 (plainElem Tryz.prog 3) w2.heap.size k D ∧ LastD es (ys.take k) D) ∧ okFrom es [] ys = okFrom es (ys.take k) (ys.drop k)

theorem zeroInt (w : World) : (zeroValue 3).run Tryz.prog w = .ok (.int .i64 0) w := by kernel_rfl

set_option maxRecDepth 100000 in
set_option maxHeartbeats 8000000 in
theorem order_any (w : World) (pv : Option Addr) (cap : Nat) (es : List EvM) (h : EvsAt w pv es) (hl : es.length ≤ 1099511627776) (hwk : ∀ e ∈ es, (Lit.int .i64 e.wk).wf = true) (hpv : ∀ g o, pv = some ⟨g, o, none⟩ → g < w.heap.size) :
    Calls Tryz.prog 21 #[.slice pv es.length cap] w (OrderPost w es) := by
  obtain ⟨i0, hi, hz0, hz1, hz2⟩ := info_parts info_int
  go_enter Tryz.func21, Tryz.ntmps21
  go_wp2
  obtain ⟨W0, hW0⟩ : ∃ W0, W0 = w.alloc (.cells #[.slice pv es.length cap] 58) := ⟨_, rfl⟩
  have hbox0 : W0.cell? ⟨w.heap.size, 0, none⟩ = some (.slice pv es.length cap) := by rw [hW0]; simp [go_sem]
  have hbW : Below w.heap.size w W0 := by rw [hW0]; exact (by repeat (first | exact Below.refl _ _ | assumption | refine Below.alloc ?_ (by first | omega | (simp <;> omega)) _ | refine Below.drew ?_ | refine Below.setCell ?_ (by first | omega | (simp <;> omega)) _ | refine Below.via (by assumption) (by first | omega | (simp <;> omega)) ?_))
  have hW1 : w.heap.size < W0.heap.size := by rw [hW0]; simp
  have hev : EvsAt W0 pv es := h.below hbW
  rw [← hW0]
  clear hW0 h
  go_loopw [4, 15] (fun v i wr => ∃ k : Nat, k ≤ es.length ∧ i = .int .i64 k ∧ Order1I W0 wr es k v) (fun _ i _ => es.length - (intOf i).toNat)
  case atStart => exact ⟨0, Nat.zero_le _, rfl, ⟨Below.refl _ _, World.ownsRow_nil _ _ _ _, rfl⟩⟩
  case round =>
    obtain ⟨k, hk, rfl, ⟨hbl, hrow, hall⟩⟩ := hrel
    by_cases hlt : k < es.length
    · obtain ⟨g, off, rfl, hc⟩ := hev k hlt
      have hT : tookAt es k = es[k].took := by simp [tookAt, hlt]
      have hpk := pickK_succ es k
      rw [hT] at hpk
      have hlen := pickK_length es k
      have hA : timelyE es[k] = true → (es.take (k + 1)).all timelyE = true := fun h1 => by
        rw [List.take_succ_eq_append_getElem hlt, List.all_append, hall]; simp [h1]
      have hF : timelyE es[k] = false → es.all timelyE = false := fun h1 => by
        rw [Bool.eq_false_iff]
        intro h2
        rw [List.all_eq_true] at h2
        rw [h2 _ (List.getElem_mem hlt)] at h1
        cases h1
      have HA := Lib.hid hA
      have HF := Lib.hid hF
      have HPK := Lib.hid hpk
      clear hT hpk hA hall hev hF
      generalize es[k] = ev at *
      have hrng : wr.rangeAt g (off + k * 16) (evV ev) := fun j v hv => cell_past hbl (cell_lt (hc j v hv)) (hc j v hv)
      have HRNG := Lib.hid hrng
      have hi1 : (0 : Int) ≤ k ∧ (k : Int) < es.length := by omega
      have hkw : IntKind.i64.wrap ((k : Int) + 1) = (k : Int) + 1 := by rw [IntKind.wrap_i64]; omega
      have HB := Lib.hid hbl
      have HBW := Lib.hid hbW
      have hwr : W0.heap.size ≤ wr.heap.size := hbl.size
      have HROW := Lib.hid hrow
      clear hbl hrow hbW hbox0 hc hrng
      go_wp2_with (first
        | (refine wpList_load_mid rfl 60 _ rfl g (off + k * 16) rfl (evV ev) _ HRNG.out Tryz.underlying60 rfl ev_size ?_)
        | (refine wpList_load_row rfl 60 _ rfl wr.heap.size rfl 60 (evV ev).toArray (0, 0) _ HBLK.out Tryz.underlying60 rfl (by rw [ev_size, ev_len]) ?_)
        | (refine wpList_store_row rfl 60 _ _ rfl wr.heap.size (evV ev).toArray rfl rfl 60 _ (heap_alloc_new wr _) (by rw [ev_size, ev_len]) (by rw [ev_len]; rfl) (ev_one ev) ?_
           obtain ⟨hb4, hblk⟩ := box_store wr #[.int .i64 0, .int .i64 0, .int .u64 0, .int .u64 0, .int .i64 0, .int .i64 0, .int .i64 0, .slice none 0 0, .int .i64 0, .int .i64 0, .int .i64 0, .int .i64 0, .slice none 0 0, .int .i64 0, .int .i64 0, .int .i64 0] (evV ev).toArray 60
           generalize (wr.alloc (.cells #[.int .i64 0, .int .i64 0, .int .u64 0, .int .u64 0, .int .i64 0, .int .i64 0, .int .i64 0, .slice none 0 0, .int .i64 0, .int .i64 0, .int .i64 0, .int .i64 0, .slice none 0 0, .int .i64 0, .int .i64 0, .int .i64 0] 60)).setRow wr.heap.size (evV ev).toArray = W4 at *
           have HBLK := Lib.hid hblk
           have b14 : W4.cell? ⟨wr.heap.size, 14, none⟩ = some (.int .i64 ev.took) := by rw [cell_of_block hblk]; rfl
           have HB4 := Lib.hid hb4
           have l4 := lt_of_block hblk
           clear hb4 hblk)
        | (go_at_call 35; refine (timely_any _ _ _ _ _ _ _ _ _ _ _ _ _ _ _ _ _).mono ?_; rintro e w1 ⟨rfl, hb⟩; obtain ⟨hc, hf⟩ := bcell hb; have hz := hb.size; (try simp at hz))
        | (at_builtin; refine wpList_append_own _ rfl _ _ 50 rfl W0.heap.size 3 i0 (.int .i64 0) 1 8 Tryz.underlying50 hi hz0 hz1 hz2 rfl (by decide) _ _ _ rfl ((ownsRow_below (ownsRow_below HROW.out HB4.out) hb).alloc _) ⟨w1.heap.size, 0, none⟩ 1 1 [.int .i64 k] rfl rfl (cell_one_int _ _ _) (fun u hu => by simp at hu; subst hu; rfl) (by unfold maxLen; omega) (by omega) (by simp; omega) ?_; intro v' w3 hown' hgrow3 hnil3))
      · have h0 : (ev.took == 0) = true := by assumption
        go_roundw
        case rel =>
          have hn : ¬ (ev.took != 0) = true := by simpa using h0
          exact ⟨k + 1, by omega, by go_num, HB.out.trans (HB4.out.mono hwr), by rw [HPK.out, if_neg hn]; exact ownsRow_below HROW.out HB4.out, HA.out (by rw [timelyE, h0]; rfl)⟩
        case measure => simp [intOf]; omega
      · have ht : (!timelyB ev.asked ev.took ev.ended) = true := by assumption
        have h1 : (ev.took == 0) = false := by assumption
        have ht' : timelyB ev.asked ev.took ev.ended = false := by simpa using ht
        have hB1 : Below W0.heap.size W0 w1 := (HB.out.trans (HB4.out.mono hwr)).trans (hb.mono (by omega))
        have hfin : OrderPost w es (.returned (.tuple #[.slice none 0 0, .int .i64 10])) w1 := ⟨HBW.out.trans (hB1.mono HBW.out.size), .inl ⟨HF.out (by rw [timelyE, h1, ht']; rfl), rfl⟩⟩
        clear hb hc hf hz
        go_ret2
        exact hfin
      · have h1 : (ev.took == 0) = false := by assumption
        have ht : (!timelyB ev.asked ev.took ev.ended) = false := by assumption
        have ht' : timelyB ev.asked ev.took ev.ended = true := by simpa using ht
        have h2 : (ev.took != 0) = true := by simpa using h1
        go_roundw
        case rel =>
          have hB1 : Below W0.heap.size W0 w1 := (HB.out.trans (HB4.out.mono hwr)).trans (hb.mono (by omega))
          have hB3 : Below W0.heap.size W0 w3 := Below.grown (hB1.alloc hB1.size _) hgrow3 (by have := hB1.size; simp; omega) (fun j e => (HROW.out.lt j e).1)
          exact ⟨k + 1, by omega, by go_num, hB3, by rw [HPK.out, if_pos h2, List.length_append, List.map_append]; exact hown', HA.out (by rw [timelyE, ht']; simp)⟩
        case measure => simp [intOf]; omega
    · obtain rfl : k = es.length := by omega
      rw [List.take_length] at hall
      have hbxr : wr.cell? ⟨w.heap.size, 0, none⟩ = some (.slice pv es.length cap) := cell_past hbl hW1 hbox0
      have hevr := hev.below hbl
      have hlenp := pickK_length es es.length
      have hsort := Lib.hid (fun v hrow => sort_row (W := wr) (base := W0.heap.size) es pv w.heap.size cap hW1 hbl.size hbxr (fun g o e => by have := hpv g o e; omega) hevr v (pickK es es.length).length (pickK es es.length) rfl (by omega) (pickK_lt es es.length) hrow)
      have hmm := @run_makeMap Tryz.prog
      have hmf : ∀ (fn : Fn) (first cap : Array Value) (w : World), (Instr.makeFunc fn first cap).run Tryz.prog w = .ok (.func fn first cap) w := fun _ _ _ _ => rfl
      have HROW := Lib.hid hrow
      have HALL := Lib.hid hall
      have HBL := Lib.hid hbl
      have HBWW := Lib.hid hbW
      clear hrow hall hbl hbxr hevr hbW
      go_wp2_with (go_at_call 36; refine (hsort.out _ HROW.out).mono ?_; rintro e w2 ⟨rfl, ys, hperm, hpair, hrow2, hb2⟩; obtain ⟨po, co, rfl, hget⟩ := ownsRow_ints hrow2)
      try go_frame
      have hn : ys.length = (pickK es es.length).length := hperm.length_eq
      have hB2 : Below W0.heap.size W0 w2 := HBL.out.trans (hb2.mono (Nat.le_refl _))
      have HB2 := Lib.hid hB2
      have HN := Lib.hid hn
      have hs2 : W0.heap.size ≤ w2.heap.size := hB2.size
      have hmem : ∀ i ∈ ys, i < es.length := fun i hi => pickK_lt es _ i (hperm.mem_iff.1 hi)
      have HROW2 := Lib.hid hrow2
      have HPERM := Lib.hid hperm
      have HPAIR := Lib.hid hpair
      clear hb2 hB2 hrow2 hperm hpair hsort
      rw [← hn] at hget hlenp
      generalize hnn : (pickK es es.length).length = nn at *
      go_loopw [37] (fun i wr => ∃ k : Nat, k ≤ ys.length ∧ i = .int .i64 k ∧ Order2I w2 wr es ys k) (fun i _ => ys.length - (intOf i).toNat)
      case atStart => exact ⟨0, Nat.zero_le _, rfl, (Below.refl _ _).alloc (Nat.le_refl _) _, ⟨_, World.ownsMap_made _ _ _ _, lastD_nil es⟩, rfl⟩
      case round =>
        obtain ⟨k, hk, rfl, hbl3, ⟨D, hmap, hD⟩, hok⟩ := hrel
        by_cases hlt2 : k < ys.length
        · have hi' := hmem ys[k] (List.getElem_mem hlt2)
          obtain ⟨gO, hpo, hgO, hcO⟩ := hget k hlt2
          subst hpo
          have hcO' : w2.cell? ⟨gO, k, none⟩ = some (.int .i64 (ys[k] : Nat)) := hcO.trans (by simp [hlt2, natV])
          have hB3 : Below W0.heap.size W0 wr := HB2.out.trans (hbl3.mono hs2)
          have hbx := cell_past hB3 hW1 hbox0
          have hc0 := cell_past hbl3 hgO hcO'
          obtain ⟨ge, oe, hpv', hc⟩ := hev ys[k] hi'
          subst hpv'
          have hstep := okFrom_step es ys k hlt2
          have htk : ys.take (k + 1) = ys.take k ++ [ys[k]] := List.take_succ_eq_append_getElem hlt2
          have HTK := Lib.hid htk
          clear htk
          have hrd : ∀ i, i < es.length → wr.cell? ⟨ge, oe + i * 16 + 14, none⟩ = some (.int .i64 (evAt es i).took) ∧ wr.cell? ⟨ge, oe + i * 16 + 15, none⟩ = some (.int .i64 (evAt es i).ended) := fun i hi => by
            obtain ⟨g', o', e, hc'⟩ := hev i hi
            cases e
            rw [evAt_get hi] at hc'
            exact ⟨cell_past hB3 (cell_lt (hc' 14 _ rfl)) (hc' 14 _ rfl), cell_past hB3 (cell_lt (hc' 15 _ rfl)) (hc' 15 _ rfl)⟩
          rw [evAt_get hi'] at hc
          have hwf := hwk _ (List.getElem_mem hi')
          rw [evAt_get hi'] at hwf
          have hprev : ∀ k', k = k' + 1 → ∃ p, p < es.length ∧ (ys.take k).getLast? = some p ∧ wr.cell? ⟨gO, k', none⟩ = some (.int .i64 (p : Nat)) := fun k' hk' => by
            have hk'' : k' < ys.length := by omega
            obtain ⟨g'', e'', _, hc''⟩ := hget k' hk''
            cases e''
            refine ⟨ys[k'], hmem _ (List.getElem_mem hk''), ?_, cell_past hbl3 hgO (hc''.trans (by simp [hk'', natV]))⟩
            subst hk'
            rw [List.take_succ_eq_append_getElem hk'']
            simp only [List.getLast?_append, List.getLast?_singleton, Option.some_or]
          generalize ys[k] = i at *
          obtain ⟨ev, hevq⟩ : ∃ ev, evAt es i = ev := ⟨_, rfl⟩
          rw [hevq] at hc hwf
          have HEV := Lib.hid hevq
          have HSTEP := Lib.hid hstep
          have HRD := Lib.hid hrd
          have HOK := Lib.hid hok
          have HD := Lib.hid hD
          have HGET := Lib.hid hget
          have HPREV := Lib.hid hprev
          have hbl := hB3
          have HB3 := Lib.hid hB3
          clear hcO hcO' hevq hstep hrd hok hD hget hprev hB3 hev
          have hrng : wr.rangeAt ge (oe + i * 16) (evV ev) := fun j v hv => cell_past hbl (cell_lt (hc j v hv)) (hc j v hv)
          have HRNG := Lib.hid hrng
          have HBL3 := Lib.hid hbl3
          have hs3 : w2.heap.size ≤ wr.heap.size := hbl3.size
          clear hbl hbl3 hbox0 hc hrng
          have hi1 : (0 : Int) ≤ i ∧ (i : Int) < es.length := by omega
          have hi2 : (0 : Int) ≤ k ∧ (k : Int) < nn := by have := HN.out; omega
          have hkw : IntKind.i64.wrap ((k : Int) + 1) = (k : Int) + 1 := by rw [IntKind.wrap_i64]; omega
          go_wp2_with (first
            | (refine wpList_load_mid rfl 60 _ rfl ge (oe + i * 16) rfl (evV ev) _ HRNG.out Tryz.underlying60 rfl ev_size ?_)
            | (refine wpList_store_row rfl 60 _ _ rfl wr.heap.size (evV ev).toArray rfl rfl 60 _ (heap_alloc_new wr _) (by rw [ev_size, ev_len]) (by rw [ev_len]; rfl) (ev_one ev) ?_
               obtain ⟨hb4, hblk⟩ := box_store wr #[.int .i64 0, .int .i64 0, .int .u64 0, .int .u64 0, .int .i64 0, .int .i64 0, .int .i64 0, .slice none 0 0, .int .i64 0, .int .i64 0, .int .i64 0, .int .i64 0, .slice none 0 0, .int .i64 0, .int .i64 0, .int .i64 0] (evV ev).toArray 60
               generalize (wr.alloc (.cells #[.int .i64 0, .int .i64 0, .int .u64 0, .int .u64 0, .int .i64 0, .int .i64 0, .int .i64 0, .slice none 0 0, .int .i64 0, .int .i64 0, .int .i64 0, .int .i64 0, .slice none 0 0, .int .i64 0, .int .i64 0, .int .i64 0] 60)).setRow wr.heap.size (evV ev).toArray = W4 at *
               have b0 : W4.cell? ⟨wr.heap.size, 0, none⟩ = some (.int .i64 ev.wk) := by rw [cell_of_block hblk]; rfl
               have b13 : W4.cell? ⟨wr.heap.size, 13, none⟩ = some (.int .i64 ev.asked) := by rw [cell_of_block hblk]; rfl
               have b14 : W4.cell? ⟨wr.heap.size, 14, none⟩ = some (.int .i64 ev.took) := by rw [cell_of_block hblk]; rfl
               have l4 := lt_of_block hblk
               clear hblk))
          have hmap4 := ownsMap_below hmap hb4
          have hbx4 := cell_past hb4 (cell_lt hbx) hbx
          clear hmap
          by_cases hk0 : k = 0
          · have hk1 : ¬ 0 < k := by omega
            have HA : Hid ((match (ys.take k).getLast? with | some p => (evAt es p).took != (evAt es i).took | none => true) = true) := by
              subst hk0; rfl
            clear hk0
            (refine wp_region_quiet_ext (by kernel_rfl) (by kernel_rfl) ?_; (repeat (first | go_big_quiet_step ((fail)) | quiet_step ((fail)))); refine wpQuiet_nil ?_; intro w1 hw1; obtain hb := below_of_ext hw1; clear hw1; obtain ⟨hc, hf⟩ := bcell hb; have hz := hb.size; (try simp at hz))
            have c0 := cell_past hb l4 b0
            have c13 := cell_past hb l4 b13
            have hmap1 := ownsMap_below hmap4 hb
            have hbx1 := cell_past hb (cell_lt hbx4) hbx4
            have lw1 : wr.heap.size < w1.heap.size := by omega
            have hbA := Lib.hid (Below.via hb (by have := hb4.size; omega) hb4)
            have HZ : Hid (w1.heap.size = w1.heap.size) := rfl
            clear hc hf b0 b13 b14 hmap4 hbx4 hb
            cases hlo : lastOf es (ys.take k) ev.wk with
            | none =>
              have hh : Maps.has D (.int .i64 ev.wk) = false := by have := HD.out.2 ev.wk; rw [hlo] at this; exact this
              have HS : Hid (stepOk es (ys.take k) i = true) := stepOk_of HA.out (by rw [HEV.out, hlo])
              clear hlo
              go_wp2_with (at_lookup; refine wpList_lookup_own_ok_int _ rfl _ _ 101 rfl 3 3 .i64 (Maps.int_keyed Tryz.underlying3) Tryz.underlying101 Tryz.underlying3 (zeroInt _) w2.heap.size k D rfl hmap1 _ _ rfl (Maps.keyOf_int_mk Tryz.underlying3 hwf) ?_; intro c hat hwc)
              (refine wp_region_quiet_ext (by kernel_rfl) (by kernel_rfl) ?_; (repeat (first | go_big_quiet_step ((fail)) | quiet_step ((fail)))); refine wpQuiet_nil ?_; intro w3 hw3; obtain hb3 := below_of_ext hw3; clear hw3; obtain ⟨hc3, hf3⟩ := bcell hb3; have hz3 := hb3.size; (try simp at hz3))
              have hmap3 := ownsMap_below hmap1 hb3
              have d0 := cell_past hb3 lw1 c0
              have HB3X := Lib.hid hb3
              clear hc3 hf3 hb3 c0 c13 hmap1 hat hwc hh
              go_wp2_with (at_mapUpdate; refine wpList_mapUpdate_own _ rfl _ _ _ 101 rfl 3 3 (Maps.int_keyed Tryz.underlying3) Tryz.underlying101 _ w2.heap.size k D rfl hmap3 (by unfold maxLen; omega) _ _ _ rfl rfl (Maps.keyOf_int_mk Tryz.underlying3 hwf) _ [] (plainElem_int Tryz.underlying3 (WalkArith.wf_i64 (by omega))) ?_; intro w5 hown5 hgrow5)
              go_roundw
              case rel =>
                have hstep1 : okFrom es (ys.take k) (ys.drop k) = okFrom es (ys.take (k + 1)) (ys.drop (k + 1)) := by rw [HSTEP.out, HS.out]; rfl
                have hbB : Below w2.heap.size w2 w3 := (HBL3.out.trans (hbA.out.mono hs3)).trans (HB3X.out.mono (by have := hbA.out.size; omega))
                have hlast := lastD_put HD.out i
                rw [← HTK.out, HEV.out] at hlast
                exact ⟨k + 1, by omega, by go_num, hbB.grown hgrow5 hbB.size (fun j e => by cases e; exact Nat.le_refl _), ⟨_, hown5, hlast⟩, HOK.out.trans hstep1⟩
              case measure => simp [intOf]; omega
            | some j =>
              have hj := HD.out.2 ev.wk
              rw [hlo] at hj
              obtain ⟨hh, hat0⟩ := hj
              have hjm : j < es.length := hmem j (List.mem_of_mem_take (lastOf_mem hlo))
              have hje := cell_past hbA.out (cell_lt (HRD.out j hjm).2) (HRD.out j hjm).2
              have HAT := Lib.hid (hat0 (.lit (.int .i64 0)))
              have hjr : (0 : Int) ≤ j ∧ (j : Int) < es.length := by omega
              have HSS : Hid (∀ b, (!((evAt es j).ended == 0 || decide (ev.asked ≤ (evAt es j).ended))) = b → stepOk es (ys.take k) i = b) := fun b hb' => (stepOk_of HA.out (by rw [HEV.out, hlo]; exact hb')).trans (Bool.true_and b)
              clear hlo hat0
              generalize (evAt es j).ended = ej at *
              by_cases he0 : (ej == 0) = true
              · have HS : Hid (stepOk es (ys.take k) i = false) := HSS.out _ (by rw [he0]; rfl)
                go_wp2_with ((at_lookup; refine wpList_lookup_own_ok_int _ rfl _ _ 101 rfl 3 3 .i64 (Maps.int_keyed Tryz.underlying3) Tryz.underlying101 Tryz.underlying3 (zeroInt _) w2.heap.size k D rfl hmap1 _ _ rfl (Maps.keyOf_int_mk Tryz.underlying3 hwf) ?_; intro c hat hwc); obtain rfl : c = (j : Int) := by { have hcj := hat.symm.trans HAT.out; simpa using hcj })
                (refine wp_region_quiet_ext (by kernel_rfl) (by kernel_rfl) ?_; (repeat (first | go_big_quiet_step ((fail)) | quiet_step ((fail)))); refine wpQuiet_nil ?_; intro w3 hw3; obtain hb3 := below_of_ext hw3; clear hw3; obtain ⟨hc3, hf3⟩ := bcell hb3; have hz3 := hb3.size; (try simp at hz3))
                have HB3X := Lib.hid hb3
                clear hc3 hf3 hb3 c0 c13 hmap1 hat hwc hh
                go_wp2
                go_ret2
                have hstep1 : okFrom es [] ys = false := by rw [HOK.out, HSTEP.out, HS.out]; rfl
                have hbB : Below w2.heap.size w2 w3 := (HBL3.out.trans (hbA.out.mono hs3)).trans (HB3X.out.mono (by have := hbA.out.size; omega))
                exact ⟨HBWW.out.trans ((HB2.out.trans (hbB.mono hs2)).mono HBWW.out.size), .inr ⟨HALL.out, ys, HPERM.out, HPAIR.out, .inl ⟨hstep1, rfl⟩⟩⟩
              · have he1 : (ej == 0) = false := by simpa using he0
                clear he0
                by_cases hea : ev.asked ≤ ej
                · have HS : Hid (stepOk es (ys.take k) i = false) := HSS.out _ (by rw [he1, decide_eq_true hea]; rfl)
                  go_wp2_with ((at_lookup; refine wpList_lookup_own_ok_int _ rfl _ _ 101 rfl 3 3 .i64 (Maps.int_keyed Tryz.underlying3) Tryz.underlying101 Tryz.underlying3 (zeroInt _) w2.heap.size k D rfl hmap1 _ _ rfl (Maps.keyOf_int_mk Tryz.underlying3 hwf) ?_; intro c hat hwc); obtain rfl : c = (j : Int) := by { have hcj := hat.symm.trans HAT.out; simpa using hcj })
                  (refine wp_region_quiet_ext (by kernel_rfl) (by kernel_rfl) ?_; (repeat (first | go_big_quiet_step ((fail)) | quiet_step ((fail)))); refine wpQuiet_nil ?_; intro w3 hw3; obtain hb3 := below_of_ext hw3; clear hw3; obtain ⟨hc3, hf3⟩ := bcell hb3; have hz3 := hb3.size; (try simp at hz3))
                  have HB3X := Lib.hid hb3
                  clear hc3 hf3 hb3 c0 c13 hmap1 hat hwc hh
                  go_wp2
                  go_ret2
                  have hstep1 : okFrom es [] ys = false := by rw [HOK.out, HSTEP.out, HS.out]; rfl
                  have hbB : Below w2.heap.size w2 w3 := (HBL3.out.trans (hbA.out.mono hs3)).trans (HB3X.out.mono (by have := hbA.out.size; omega))
                  exact ⟨HBWW.out.trans ((HB2.out.trans (hbB.mono hs2)).mono HBWW.out.size), .inr ⟨HALL.out, ys, HPERM.out, HPAIR.out, .inl ⟨hstep1, rfl⟩⟩⟩
                · have HS : Hid (stepOk es (ys.take k) i = true) := HSS.out _ (by rw [he1, decide_eq_false hea]; rfl)
                  go_wp2_with ((at_lookup; refine wpList_lookup_own_ok_int _ rfl _ _ 101 rfl 3 3 .i64 (Maps.int_keyed Tryz.underlying3) Tryz.underlying101 Tryz.underlying3 (zeroInt _) w2.heap.size k D rfl hmap1 _ _ rfl (Maps.keyOf_int_mk Tryz.underlying3 hwf) ?_; intro c hat hwc); obtain rfl : c = (j : Int) := by { have hcj := hat.symm.trans HAT.out; simpa using hcj })
                  (refine wp_region_quiet_ext (by kernel_rfl) (by kernel_rfl) ?_; (repeat (first | go_big_quiet_step ((fail)) | quiet_step ((fail)))); refine wpQuiet_nil ?_; intro w3 hw3; obtain hb3 := below_of_ext hw3; clear hw3; obtain ⟨hc3, hf3⟩ := bcell hb3; have hz3 := hb3.size; (try simp at hz3))
                  have hmap3 := ownsMap_below hmap1 hb3
                  have d0 := cell_past hb3 lw1 c0
                  have HB3X := Lib.hid hb3
                  clear hc3 hf3 hb3 c0 c13 hmap1 hat hwc hh
                  go_wp2_with (at_mapUpdate; refine wpList_mapUpdate_own _ rfl _ _ _ 101 rfl 3 3 (Maps.int_keyed Tryz.underlying3) Tryz.underlying101 _ w2.heap.size k D rfl hmap3 (by unfold maxLen; omega) _ _ _ rfl rfl (Maps.keyOf_int_mk Tryz.underlying3 hwf) _ [] (plainElem_int Tryz.underlying3 (WalkArith.wf_i64 (by omega))) ?_; intro w5 hown5 hgrow5)
                  go_roundw
                  case rel =>
                    have hstep1 : okFrom es (ys.take k) (ys.drop k) = okFrom es (ys.take (k + 1)) (ys.drop (k + 1)) := by rw [HSTEP.out, HS.out]; rfl
                    have hbB : Below w2.heap.size w2 w3 := (HBL3.out.trans (hbA.out.mono hs3)).trans (HB3X.out.mono (by have := hbA.out.size; omega))
                    have hlast := lastD_put HD.out i
                    rw [← HTK.out, HEV.out] at hlast
                    exact ⟨k + 1, by omega, by go_num, hbB.grown hgrow5 hbB.size (fun j e => by cases e; exact Nat.le_refl _), ⟨_, hown5, hlast⟩, HOK.out.trans hstep1⟩
                  case measure => simp [intOf]; omega
          · obtain ⟨k', hkk⟩ : ∃ k', k = k' + 1 := ⟨k - 1, by omega⟩
            obtain ⟨p, hp, hpl, hpc⟩ := HPREV.out k' hkk
            have hp1 := cell_past hb4 (cell_lt hpc) hpc
            have hp2 := cell_past hb4 (cell_lt (HRD.out p hp).1) (HRD.out p hp).1
            have hk1 : 0 < k := by omega
            have hp3 : (0 : Int) ≤ p ∧ (p : Int) < es.length := by omega
            have hk2 : (0 : Int) ≤ k' ∧ (k' : Int) < nn := by have := HN.out; omega
            have hkw2 : IntKind.i64.wrap ((k : Int) - 1) = (k' : Int) := by rw [IntKind.wrap_i64]; omega
            have HPL := Lib.hid hpl
            clear hpl hpc hk0 hkk
            by_cases hte : ((evAt es p).took == ev.took) = true
            · have HS : Hid (stepOk es (ys.take k) i = false) := by
                have h1 : (match (ys.take k).getLast? with | some p => (evAt es p).took != (evAt es i).took | none => true) = false := by rw [HPL.out, HEV.out]; simpa using hte
                show stepOk _ _ _ = false
                unfold stepOk
                rw [h1]
                rfl
              generalize (evAt es p).took = tp at *
              (refine wp_region_quiet_ext (by kernel_rfl) (by kernel_rfl) ?_; (repeat (first | go_big_quiet_step ((fail)) | quiet_step ((fail)))); refine wpQuiet_nil ?_; intro w1 hw1; obtain hb := below_of_ext hw1; clear hw1; obtain ⟨hc, hf⟩ := bcell hb; have hz := hb.size; (try simp at hz))
              have HZ := Lib.hid hb
              clear hc hf hb
              go_wp2
              go_ret2
              have hstep1 : okFrom es [] ys = false := by rw [HOK.out, HSTEP.out, HS.out]; rfl
              have hbB : Below w2.heap.size w2 w1 := (HBL3.out.trans (hb4.mono hs3)).trans (HZ.out.mono (by have := hb4.size; omega))
              exact ⟨HBWW.out.trans ((HB2.out.trans (hbB.mono hs2)).mono HBWW.out.size), .inr ⟨HALL.out, ys, HPERM.out, HPAIR.out, .inl ⟨hstep1, rfl⟩⟩⟩
            · have hte1 : ((evAt es p).took == ev.took) = false := by simpa using hte
              have HA : Hid ((match (ys.take k).getLast? with | some p => (evAt es p).took != (evAt es i).took | none => true) = true) := by
                show (match (ys.take k).getLast? with | some p => (evAt es p).took != (evAt es i).took | none => true) = true
                rw [HPL.out, HEV.out]
                simpa using hte
              clear hte
              generalize (evAt es p).took = tp at *
              (refine wp_region_quiet_ext (by kernel_rfl) (by kernel_rfl) ?_; (repeat (first | go_big_quiet_step ((fail)) | quiet_step ((fail)))); refine wpQuiet_nil ?_; intro w1 hw1; obtain hb := below_of_ext hw1; clear hw1; obtain ⟨hc, hf⟩ := bcell hb; have hz := hb.size; (try simp at hz))
              clear hp1 hp2 hte1 hkw2 hk2 hp3 hk1
              have c0 := cell_past hb l4 b0
              have c13 := cell_past hb l4 b13
              have hmap1 := ownsMap_below hmap4 hb
              have hbx1 := cell_past hb (cell_lt hbx4) hbx4
              have lw1 : wr.heap.size < w1.heap.size := by omega
              have hbA := Lib.hid (Below.via hb (by have := hb4.size; omega) hb4)
              have HZ : Hid (w1.heap.size = w1.heap.size) := rfl
              clear hc hf b0 b13 b14 hmap4 hbx4 hb
              cases hlo : lastOf es (ys.take k) ev.wk with
              | none =>
                have hh : Maps.has D (.int .i64 ev.wk) = false := by have := HD.out.2 ev.wk; rw [hlo] at this; exact this
                have HS : Hid (stepOk es (ys.take k) i = true) := stepOk_of HA.out (by rw [HEV.out, hlo])
                clear hlo
                go_wp2_with (at_lookup; refine wpList_lookup_own_ok_int _ rfl _ _ 101 rfl 3 3 .i64 (Maps.int_keyed Tryz.underlying3) Tryz.underlying101 Tryz.underlying3 (zeroInt _) w2.heap.size k D rfl hmap1 _ _ rfl (Maps.keyOf_int_mk Tryz.underlying3 hwf) ?_; intro c hat hwc)
                (refine wp_region_quiet_ext (by kernel_rfl) (by kernel_rfl) ?_; (repeat (first | go_big_quiet_step ((fail)) | quiet_step ((fail)))); refine wpQuiet_nil ?_; intro w3 hw3; obtain hb3 := below_of_ext hw3; clear hw3; obtain ⟨hc3, hf3⟩ := bcell hb3; have hz3 := hb3.size; (try simp at hz3))
                have hmap3 := ownsMap_below hmap1 hb3
                have d0 := cell_past hb3 lw1 c0
                have HB3X := Lib.hid hb3
                clear hc3 hf3 hb3 c0 c13 hmap1 hat hwc hh
                go_wp2_with (at_mapUpdate; refine wpList_mapUpdate_own _ rfl _ _ _ 101 rfl 3 3 (Maps.int_keyed Tryz.underlying3) Tryz.underlying101 _ w2.heap.size k D rfl hmap3 (by unfold maxLen; omega) _ _ _ rfl rfl (Maps.keyOf_int_mk Tryz.underlying3 hwf) _ [] (plainElem_int Tryz.underlying3 (WalkArith.wf_i64 (by omega))) ?_; intro w5 hown5 hgrow5)
                go_roundw
                case rel =>
                  have hstep1 : okFrom es (ys.take k) (ys.drop k) = okFrom es (ys.take (k + 1)) (ys.drop (k + 1)) := by rw [HSTEP.out, HS.out]; rfl
                  have hbB : Below w2.heap.size w2 w3 := (HBL3.out.trans (hbA.out.mono hs3)).trans (HB3X.out.mono (by have := hbA.out.size; omega))
                  have hlast := lastD_put HD.out i
                  rw [← HTK.out, HEV.out] at hlast
                  exact ⟨k + 1, by omega, by go_num, hbB.grown hgrow5 hbB.size (fun j e => by cases e; exact Nat.le_refl _), ⟨_, hown5, hlast⟩, HOK.out.trans hstep1⟩
                case measure => simp [intOf]; omega
              | some j =>
                have hj := HD.out.2 ev.wk
                rw [hlo] at hj
                obtain ⟨hh, hat0⟩ := hj
                have hjm : j < es.length := hmem j (List.mem_of_mem_take (lastOf_mem hlo))
                have hje := cell_past hbA.out (cell_lt (HRD.out j hjm).2) (HRD.out j hjm).2
                have HAT := Lib.hid (hat0 (.lit (.int .i64 0)))
                have hjr : (0 : Int) ≤ j ∧ (j : Int) < es.length := by omega
                have HSS : Hid (∀ b, (!((evAt es j).ended == 0 || decide (ev.asked ≤ (evAt es j).ended))) = b → stepOk es (ys.take k) i = b) := fun b hb' => (stepOk_of HA.out (by rw [HEV.out, hlo]; exact hb')).trans (Bool.true_and b)
                clear hlo hat0
                generalize (evAt es j).ended = ej at *
                by_cases he0 : (ej == 0) = true
                · have HS : Hid (stepOk es (ys.take k) i = false) := HSS.out _ (by rw [he0]; rfl)
                  go_wp2_with ((at_lookup; refine wpList_lookup_own_ok_int _ rfl _ _ 101 rfl 3 3 .i64 (Maps.int_keyed Tryz.underlying3) Tryz.underlying101 Tryz.underlying3 (zeroInt _) w2.heap.size k D rfl hmap1 _ _ rfl (Maps.keyOf_int_mk Tryz.underlying3 hwf) ?_; intro c hat hwc); obtain rfl : c = (j : Int) := by { have hcj := hat.symm.trans HAT.out; simpa using hcj })
                  (refine wp_region_quiet_ext (by kernel_rfl) (by kernel_rfl) ?_; (repeat (first | go_big_quiet_step ((fail)) | quiet_step ((fail)))); refine wpQuiet_nil ?_; intro w3 hw3; obtain hb3 := below_of_ext hw3; clear hw3; obtain ⟨hc3, hf3⟩ := bcell hb3; have hz3 := hb3.size; (try simp at hz3))
                  have HB3X := Lib.hid hb3
                  clear hc3 hf3 hb3 c0 c13 hmap1 hat hwc hh
                  go_wp2
                  go_ret2
                  have hstep1 : okFrom es [] ys = false := by rw [HOK.out, HSTEP.out, HS.out]; rfl
                  have hbB : Below w2.heap.size w2 w3 := (HBL3.out.trans (hbA.out.mono hs3)).trans (HB3X.out.mono (by have := hbA.out.size; omega))
                  exact ⟨HBWW.out.trans ((HB2.out.trans (hbB.mono hs2)).mono HBWW.out.size), .inr ⟨HALL.out, ys, HPERM.out, HPAIR.out, .inl ⟨hstep1, rfl⟩⟩⟩
                · have he1 : (ej == 0) = false := by simpa using he0
                  clear he0
                  by_cases hea : ev.asked ≤ ej
                  · have HS : Hid (stepOk es (ys.take k) i = false) := HSS.out _ (by rw [he1, decide_eq_true hea]; rfl)
                    go_wp2_with ((at_lookup; refine wpList_lookup_own_ok_int _ rfl _ _ 101 rfl 3 3 .i64 (Maps.int_keyed Tryz.underlying3) Tryz.underlying101 Tryz.underlying3 (zeroInt _) w2.heap.size k D rfl hmap1 _ _ rfl (Maps.keyOf_int_mk Tryz.underlying3 hwf) ?_; intro c hat hwc); obtain rfl : c = (j : Int) := by { have hcj := hat.symm.trans HAT.out; simpa using hcj })
                    (refine wp_region_quiet_ext (by kernel_rfl) (by kernel_rfl) ?_; (repeat (first | go_big_quiet_step ((fail)) | quiet_step ((fail)))); refine wpQuiet_nil ?_; intro w3 hw3; obtain hb3 := below_of_ext hw3; clear hw3; obtain ⟨hc3, hf3⟩ := bcell hb3; have hz3 := hb3.size; (try simp at hz3))
                    have HB3X := Lib.hid hb3
                    clear hc3 hf3 hb3 c0 c13 hmap1 hat hwc hh
                    go_wp2
                    go_ret2
                    have hstep1 : okFrom es [] ys = false := by rw [HOK.out, HSTEP.out, HS.out]; rfl
                    have hbB : Below w2.heap.size w2 w3 := (HBL3.out.trans (hbA.out.mono hs3)).trans (HB3X.out.mono (by have := hbA.out.size; omega))
                    exact ⟨HBWW.out.trans ((HB2.out.trans (hbB.mono hs2)).mono HBWW.out.size), .inr ⟨HALL.out, ys, HPERM.out, HPAIR.out, .inl ⟨hstep1, rfl⟩⟩⟩
                  · have HS : Hid (stepOk es (ys.take k) i = true) := HSS.out _ (by rw [he1, decide_eq_false hea]; rfl)
                    go_wp2_with ((at_lookup; refine wpList_lookup_own_ok_int _ rfl _ _ 101 rfl 3 3 .i64 (Maps.int_keyed Tryz.underlying3) Tryz.underlying101 Tryz.underlying3 (zeroInt _) w2.heap.size k D rfl hmap1 _ _ rfl (Maps.keyOf_int_mk Tryz.underlying3 hwf) ?_; intro c hat hwc); obtain rfl : c = (j : Int) := by { have hcj := hat.symm.trans HAT.out; simpa using hcj })
                    (refine wp_region_quiet_ext (by kernel_rfl) (by kernel_rfl) ?_; (repeat (first | go_big_quiet_step ((fail)) | quiet_step ((fail)))); refine wpQuiet_nil ?_; intro w3 hw3; obtain hb3 := below_of_ext hw3; clear hw3; obtain ⟨hc3, hf3⟩ := bcell hb3; have hz3 := hb3.size; (try simp at hz3))
                    have hmap3 := ownsMap_below hmap1 hb3
                    have d0 := cell_past hb3 lw1 c0
                    have HB3X := Lib.hid hb3
                    clear hc3 hf3 hb3 c0 c13 hmap1 hat hwc hh
                    go_wp2_with (at_mapUpdate; refine wpList_mapUpdate_own _ rfl _ _ _ 101 rfl 3 3 (Maps.int_keyed Tryz.underlying3) Tryz.underlying101 _ w2.heap.size k D rfl hmap3 (by unfold maxLen; omega) _ _ _ rfl rfl (Maps.keyOf_int_mk Tryz.underlying3 hwf) _ [] (plainElem_int Tryz.underlying3 (WalkArith.wf_i64 (by omega))) ?_; intro w5 hown5 hgrow5)
                    go_roundw
                    case rel =>
                      have hstep1 : okFrom es (ys.take k) (ys.drop k) = okFrom es (ys.take (k + 1)) (ys.drop (k + 1)) := by rw [HSTEP.out, HS.out]; rfl
                      have hbB : Below w2.heap.size w2 w3 := (HBL3.out.trans (hbA.out.mono hs3)).trans (HB3X.out.mono (by have := hbA.out.size; omega))
                      have hlast := lastD_put HD.out i
                      rw [← HTK.out, HEV.out] at hlast
                      exact ⟨k + 1, by omega, by go_num, hbB.grown hgrow5 hbB.size (fun j e => by cases e; exact Nat.le_refl _), ⟨_, hown5, hlast⟩, HOK.out.trans hstep1⟩
                    case measure => simp [intOf]; omega
        · obtain rfl : k = ys.length := by omega
          have hok' : okFrom es [] ys = true := by rw [hok, List.drop_length]; rfl
          have HOK := Lib.hid hok'
          clear hok hok' hmap hD hget
          have hlt3 : ¬ (ys.length : Int) < nn := by have := HN.out; omega
          go_wp2
          go_ret2
          refine ⟨HBWW.out.trans ((HB2.out.trans (hbl3.mono hs2)).mono HBWW.out.size), .inr ⟨HALL.out, ys, HPERM.out, HPAIR.out, .inr ⟨HOK.out, _, rfl, ?_⟩⟩⟩
          rw [HN.out]
          exact ownsRow_base_a (ownsRow_below HROW2.out hbl3) HBWW.out.size

end Go.Proofs.YtgcnbiccekaffaaGreat
