/- Judge. -/
import Derived.Test.YtgcnbiccekaffaaGreatW
import Derived.StillTailTactics
namespace Go.Proofs.YtgcnbiccekaffaaGreat
open Go.RowKit Go.ChangeMaps

/-- An event whose operation and answer are what a caller can hand in. -/
structure EvOk (w : World) (e : EvM) : Prop where
  op : OpOk e.o
  bytes : BytesOk e.x.data
  in1 : BytesIn w e.p1 e.o.data
  in2 : BytesIn w e.p2 e.x.data
  lt1 : e.o.data ≠ [] → ∀ b o, e.p1 = some ⟨b, o, none⟩ → b < w.heap.size
  lt2 : e.x.data ≠ [] → ∀ b o, e.p2 = some ⟨b, o, none⟩ → b < w.heap.size
  wk : (Lit.int .i64 e.wk).wf = true

def runE (es : List EvM) : AM → List Nat → Int × Int
  | _, [] => (-1, 0)
  | A, i :: r => if takeE A (evAt es i).o (evAt es i).x = 0 then runE es (takeA A (evAt es i).o (evAt es i).x) r else (i, takeE A (evAt es i).o (evAt es i).x)

def JudgePost (w : World) (bytes : Int) (es : List EvM) (e : Ending) (w' : World) : Prop :=
  Below w.heap.size w w' ∧ ∃ n er, e = .returned (.tuple #[.int .i64 n, .int .i64 er]) ∧
    (((bytes < 0 ∨ 1048576 < bytes) ∧ n = -1 ∧ er = 11) ∨ ((0 ≤ bytes ∧ bytes ≤ 1048576) ∧
      ((es.all timelyE = false ∧ n = -1 ∧ er = 10) ∨
        (es.all timelyE = true ∧ ∃ ys : List Nat, ys.Perm (pickK es es.length) ∧ ys.Pairwise (fun i j => tookAt es i ≤ tookAt es j) ∧
          ((okFrom es [] ys = false ∧ n = -1 ∧ er = 10) ∨ (okFrom es [] ys = true ∧ (n, er) = runE es ⟨bytes, []⟩ ys))))))

theorem rep_new (w : World) (bytes : Int) : Rep ((w.alloc (.map #[] 0)).alloc (.cells #[.int .i64 bytes, .map (some w.heap.size)] 76)) (w.heap.size + 1) ⟨bytes, []⟩ (fun k => k = w.heap.size ∨ k = w.heap.size + 1) := by
  refine ⟨w.heap.size, 0, [], ⟨?_, ?_, fun _ h => (by cases h), by simp [foot], by simp, fun _ h => (by cases h)⟩, List.Perm.refl _, fun k hk => ?_⟩
  · rw [show w.heap.size + 1 = (w.alloc (.map #[] 0)).heap.size from by simp, heap_alloc_new]
  · rw [heap_alloc_old _ _ (by simp), heap_alloc_new]; rfl
  · simp [foot] at hk
    omega

theorem inv_new {bytes : Int} (h0 : 0 ≤ bytes) (h1 : bytes ≤ 1048576) : Inv ⟨bytes, []⟩ := ⟨h0, h1, fun _ h => (by cases h), List.Pairwise.nil, fun _ h => (by cases h)⟩

theorem BytesIn.via {w W : World} {p : Option Addr} {ds : List Int} {B : Nat} (h : BytesIn w p ds) (hb : Below B w W) (hB : w.heap.size ≤ B) : BytesIn W p ds := h.below (hb.mono hB)

theorem turned_cell {G : Nat → Prop} {w W : World} (t : Turned G w W) {b o : Nat} {v : Value} (hg : ¬ G b) (h : w.cell? ⟨b, o, none⟩ = some v) : W.cell? ⟨b, o, none⟩ = some v := by
  have := t.block b (cell_lt h) hg
  unfold World.cell? at h ⊢
  simp only [this]
  exact h

theorem turned_bytes {G : Nat → Prop} {w W : World} (t : Turned G w W) {p : Option Addr} {ds : List Int} (h : BytesIn w p ds) (hg : Apart ds p G) : BytesIn W p ds := by
  intro i hi
  obtain ⟨b, o, e, hc⟩ := h i hi
  exact ⟨b, o, e, turned_cell t (hg (List.ne_nil_of_length_pos (by omega)) b o e) hc⟩

/-- Between two rounds of Judge: W when the loop began. -/
def JudgeI (W wr : World) (m : Nat) (es : List EvM) (ys : List Nat) (A0 : AM) (G : Nat → Prop) (k : Nat) : Prop :=
  ∃ A, Rep wr m A G ∧ Inv A ∧ Turned G W wr ∧ runE es A0 ys = runE es A (ys.drop k)

set_option maxRecDepth 100000 in
set_option maxHeartbeats 8000000 in
theorem judge_any (w : World) (bytes : Int) (pv : Option Addr) (cap : Nat) (es : List EvM) (h : EvsAt w pv es) (hl : es.length ≤ 1099511627776) (hok : ∀ e ∈ es, EvOk w e) (hpv : ∀ g o, pv = some ⟨g, o, none⟩ → g < w.heap.size) :
    Calls Tryz.prog 17 #[.int .i64 bytes, .slice pv es.length cap] w (JudgePost w bytes es) := by
  by_cases hb : 0 ≤ bytes ∧ bytes ≤ 1048576
  · obtain ⟨hb0, hb1⟩ := hb
    obtain ⟨W1, hW1⟩ : ∃ W1, W1 = (w.alloc (.map #[] 0)).alloc (.cells #[.int .i64 bytes, .map (some w.heap.size)] 76) := ⟨_, rfl⟩
    have hbW : Below w.heap.size w W1 := by rw [hW1]; exact (by repeat (first | exact Below.refl _ _ | assumption | refine Below.alloc ?_ (by first | omega | (simp <;> omega)) _ | refine Below.drew ?_ | refine Below.setCell ?_ (by first | omega | (simp <;> omega)) _ | refine Below.via (by assumption) (by first | omega | (simp <;> omega)) ?_))
    have hsW : W1.heap.size = w.heap.size + 2 := by rw [hW1]; simp
    have hrep : Rep W1 (w.heap.size + 1) ⟨bytes, []⟩ (fun k => k = w.heap.size ∨ k = w.heap.size + 1) := by rw [hW1]; exact rep_new w bytes
    have hord := Lib.hid (order_any W1 pv cap es (h.below hbW) hl (fun e he => (hok e he).wk) (fun g o e => by have := hpv g o e; omega))
    have hnew := new_yes bytes w hb0 hb1
    rw [← hW1] at hnew
    have HNEW := Lib.hid hnew
    have HREP := Lib.hid hrep
    have HBW := Lib.hid hbW
    have HB01 : Hid (0 ≤ bytes ∧ bytes ≤ 1048576) := ⟨hb0, hb1⟩
    have HSW := Lib.hid hsW
    clear hrep hnew hbW hb0 hb1 hW1 hsW
    go_enter Tryz.func17, Tryz.ntmps17
    go_wp2_with (first
      | (go_at_call 7; refine HNEW.out.mono ?_; rintro e w' ⟨rfl, hw'⟩; subst w')
      | (go_at_call 21; refine hord.out.mono ?_; rintro e w2 ⟨hb2, ⟨hal, rfl⟩ | ⟨hal, ys, hperm, hpair, ⟨hof, rfl⟩ | ⟨hof, v, rfl, hrow⟩⟩⟩; all_goals (try (obtain ⟨po, co, rfl, hget⟩ := ownsRow_ints hrow))))
    · go_ret2
      exact ⟨HBW.out.trans (hb2.mono HBW.out.size), -1, 10, rfl, .inr ⟨HB01.out, .inl ⟨hal, rfl, rfl⟩⟩⟩
    · go_ret2
      exact ⟨HBW.out.trans (hb2.mono HBW.out.size), -1, 10, rfl, .inr ⟨HB01.out, .inr ⟨hal, ys, hperm, hpair, .inl ⟨hof, rfl, rfl⟩⟩⟩⟩
    · have hlt := hrow.lt
      have hmem : ∀ i ∈ ys, i < es.length := fun i hi => pickK_lt es _ i (hperm.mem_iff.1 hi)
      have hlen : ys.length ≤ es.length := by rw [hperm.length_eq]; exact pickK_length es _
      have hg0 : ∀ g o, po = some ⟨g, o, none⟩ → W1.heap.size ≤ g ∧ g < w2.heap.size := fun g o e => by subst e; exact hlt g rfl
      obtain ⟨G, hG⟩ : ∃ G : Nat → Prop, ∀ j, G j ↔ (w.heap.size ≤ j ∧ ∀ g o, po = some ⟨g, o, none⟩ → j ≠ g) := ⟨_, fun _ => Iff.rfl⟩
      have hrep2 : Rep w2 (w.heap.size + 1) ⟨bytes, []⟩ G := (HREP.out.below hb2).mono (fun k hk _ => (hG k).2 ⟨by omega, fun g o e => by have := (hg0 g o e).1; have := HSW.out; omega⟩)
      have HREP2 := Lib.hid hrep2
      have HGG := Lib.hid hG
      have HG0 := Lib.hid hg0
      have HB2 := Lib.hid hb2
      have HALL : Hid (es.all timelyE = true) := hal
      have HPERM := Lib.hid hperm
      have HPAIR := Lib.hid hpair
      have HOF := Lib.hid hof
      have HGET := Lib.hid hget
      have HMEM := Lib.hid hmem
      clear hlt hrow hrep2 hG hg0 hb2 hal hperm hpair hof hget hmem
      have hs2 : w.heap.size ≤ w2.heap.size := Nat.le_trans HBW.out.size HB2.out.size
      try go_frame
      go_loopw [30] (fun i wr => ∃ k : Nat, k ≤ ys.length ∧ i = .int .i64 k ∧ JudgeI w2 wr (w.heap.size + 1) es ys ⟨bytes, []⟩ G k) (fun i _ => ys.length - (intOf i).toNat)
      case atStart => exact ⟨0, Nat.zero_le _, rfl, ⟨bytes, []⟩, HREP2.out, inv_new HB01.out.1 HB01.out.2, Turned.refl _ _, rfl⟩
      case round =>
        obtain ⟨k, hk, rfl, A, hR, hI, hT, hrun⟩ := hrel
        have hbx : Below w.heap.size w wr := (HBW.out.trans (HB2.out.mono HBW.out.size)).trans (hT.below (fun x hx => ((HGG.out x).1 hx).1) hs2)
        by_cases hlt : k < ys.length
        · have hi' := HMEM.out ys[k] (List.getElem_mem hlt)
          obtain ⟨gO, hpo, hgO, hcO⟩ := HGET.out k hlt
          subst hpo
          have hc0 : wr.cell? ⟨gO, k, none⟩ = some (.int .i64 (ys[k] : Nat)) := turned_cell hT (fun h => ((HGG.out gO).1 h).2 gO 0 rfl rfl) (hcO.trans (by simp [hlt, natV]))
          obtain ⟨ge, oe, rfl, hc⟩ := h ys[k] hi'
          have hev := hok _ (List.getElem_mem hi')
          rw [evAt_get hi'] at hc hev
          have hdrop : ys.drop k = ys[k] :: ys.drop (k + 1) := List.drop_eq_getElem_cons hlt
          have HDROP := Lib.hid hdrop
          clear hdrop hcO
          generalize ys[k] = i at *
          obtain ⟨ev, hevq⟩ : ∃ ev, evAt es i = ev := ⟨_, rfl⟩
          rw [hevq] at hc hev
          have HEV := Lib.hid hevq
          have ap1 : Apart ev.o.data ev.p1 (fun j => G j ∧ j < wr.heap.size) := fun hne b o e hF => by have := hev.lt1 hne b o e; have := ((HGG.out b).1 hF.1).1; omega
          have ap2 : Apart ev.x.data ev.p2 (fun j => G j ∧ j < wr.heap.size) := fun hne b o e hF => by have := hev.lt2 hne b o e; have := ((HGG.out b).1 hF.1).1; omega
          have hR1 : Rep wr (w.heap.size + 1) A (fun j => G j ∧ j < wr.heap.size) := hR.mono (fun k hk hl => ⟨hk, hl⟩)
          have hR' : Rep wr.drew (w.heap.size + 1) A (fun j => G j ∧ j < wr.heap.size) := hR1.below (Below.drew (Below.refl _ _))
          have htake := take_any (w := wr.drew) hR' hI (fun k hk => hk.2) ev.o ev.x hev.op ev.p1 ev.p2 ev.q1 ev.q2 (hev.in1.below (Below.drew (hbx))) ap1 (hev.in2.below (Below.drew hbx)) ap2
          unfold opV ansV at htake
          have HTAKE := Lib.hid htake
          have hI2 := Lib.hid (hI.take hev.op hev.bytes)
          have z1 := hc 1 _ rfl
          have z2 := hc 2 _ rfl
          have z3 := hc 3 _ rfl
          have z4 := hc 4 _ rfl
          have z5 := hc 5 _ rfl
          have z6 := hc 6 _ rfl
          have z7 := hc 7 _ rfl
          have z8 := hc 8 _ rfl
          have z9 := hc 9 _ rfl
          have z10 := hc 10 _ rfl
          have z11 := hc 11 _ rfl
          have z12 := hc 12 _ rfl
          have y1 := cell_past hbx (cell_lt z1) z1
          have y2 := cell_past hbx (cell_lt z2) z2
          have y3 := cell_past hbx (cell_lt z3) z3
          have y4 := cell_past hbx (cell_lt z4) z4
          have y5 := cell_past hbx (cell_lt z5) z5
          have y6 := cell_past hbx (cell_lt z6) z6
          have y7 := cell_past hbx (cell_lt z7) z7
          have y8 := cell_past hbx (cell_lt z8) z8
          have y9 := cell_past hbx (cell_lt z9) z9
          have y10 := cell_past hbx (cell_lt z10) z10
          have y11 := cell_past hbx (cell_lt z11) z11
          have y12 := cell_past hbx (cell_lt z12) z12
          clear z1 z2 z3 z4 z5 z6 z7 z8 z9 z10 z11 z12 hc hev hevq htake ap1 ap2 hR' hR1 h
          have hi1 : (0 : Int) ≤ i ∧ (i : Int) < es.length := by omega
          have hi2 : (0 : Int) ≤ k ∧ (k : Int) < ys.length := by omega
          have hkw : IntKind.i64.wrap ((k : Int) + 1) = (k : Int) + 1 := by rw [IntKind.wrap_i64]; omega
          have HT := Lib.hid hT
          have HRUN := Lib.hid hrun
          have HBX := Lib.hid hbx
          clear hR hI hT hrun hbx
          have hfin : ∀ w3, Rep w3 (w.heap.size + 1) (takeA A ev.o ev.x) (fun j => (G j ∧ j < wr.heap.size) ∨ wr.heap.size ≤ j) → Turned (fun j => G j ∧ j < wr.heap.size) wr.drew w3 →
              Rep w3 (w.heap.size + 1) (takeA A ev.o ev.x) G ∧ Turned G w2 w3 := fun w3 hR3 hT3 => by
            have hsz : w2.heap.size ≤ wr.heap.size := HT.out.size
            exact ⟨hR3.mono (fun j hj _ => by
              rcases hj with hj | hj
              · exact hj.1
              · exact (HGG.out j).2 ⟨by omega, fun g o e => by have := (HG0.out g o e).2; omega⟩), HT.out.drew.trans hT3 (fun x hx _ => hx.1)⟩
          have HFIN := Lib.hid hfin
          clear hfin
          have hcase : runE es A (ys.drop k) = if takeE A ev.o ev.x = 0 then runE es (takeA A ev.o ev.x) (ys.drop (k + 1)) else ((i : Int), takeE A ev.o ev.x) := by rw [HDROP.out, runE, HEV.out]
          have HCASE := Lib.hid hcase
          clear hcase
          by_cases ht0 : takeE A ev.o ev.x = 0
          · have hne : (takeE A ev.o ev.x != 0) = false := by simp [ht0]
            have HT0 := Lib.hid ht0
            clear ht0
            go_wp2
            go_still_tail 11, (by kernel_rfl)
            go_wp2_with (go_at_call 10; refine HTAKE.out.mono ?_; rintro e w3 ⟨rfl, hR3, hT3⟩)
            go_roundw
            case rel =>
              obtain ⟨r1, r2⟩ := HFIN.out w3 hR3 hT3
              exact ⟨k + 1, by omega, by go_num, _, r1, hI2.out, r2, HRUN.out.trans (by rw [HCASE.out, if_pos HT0.out])⟩
            case measure => simp [intOf]; omega
          · have hne : (takeE A ev.o ev.x != 0) = true := by simp [ht0]
            have HT0 := Lib.hid ht0
            clear ht0
            go_wp2
            go_still_tail 11, (by kernel_rfl)
            go_wp2_with (go_at_call 10; refine HTAKE.out.mono ?_; rintro e w3 ⟨rfl, hR3, hT3⟩)
            go_ret2
            obtain ⟨r1, r2⟩ := HFIN.out w3 hR3 hT3
            have hb3 : Below w.heap.size w w3 := (HBW.out.trans (HB2.out.mono HBW.out.size)).trans (r2.below (fun x hx => ((HGG.out x).1 hx).1) hs2)
            exact ⟨hb3, _, _, rfl, .inr ⟨HB01.out, .inr ⟨HALL.out, ys, HPERM.out, HPAIR.out, .inr ⟨HOF.out, (HRUN.out.trans (by rw [HCASE.out, if_neg HT0.out])).symm⟩⟩⟩⟩
        · obtain rfl : k = ys.length := by omega
          have hr : ((-1 : Int), (0 : Int)) = runE es ⟨bytes, []⟩ ys := by rw [hrun, List.drop_length]; rfl
          have HR := Lib.hid hr
          clear hr hrun hR hI hT
          go_wp2
          go_ret2
          exact ⟨hbx, -1, 0, rfl, .inr ⟨HB01.out, .inr ⟨HALL.out, ys, HPERM.out, HPAIR.out, .inr ⟨HOF.out, HR.out⟩⟩⟩⟩
  · have hb' : bytes < 0 ∨ 1048576 < bytes := by omega
    go_enter Tryz.func17, Tryz.ntmps17
    go_wp2_with (go_at_call 7; refine (new_no bytes w hb').mono ?_; rintro e w' ⟨rfl, rfl⟩)
    go_ret2
    exact ⟨Below.refl _ _, -1, 11, rfl, .inl ⟨hb', rfl, rfl⟩⟩

end Go.Proofs.YtgcnbiccekaffaaGreat
