/- Judge, as the reference has it. -/
import Derived.Test.YtgcnbiccekaffaaGreatXo
import Derived.Test.YtgcnbiccekaffaaGreatOl
import Derived.Test.YtgcnbiccekaffaaGreatOs
namespace Go.Proofs.YtgcnbiccekaffaaGreat
open Go.RowKit Go.ChangeMaps

/-- An event that the reference is told. -/
structure EvR (w : World) (e : EvM) : Prop where
  op : OpOk e.o
  bytes : BytesOk e.x.data
  in1 : BytesIn w e.p1 e.o.data
  in2 : BytesIn w e.p2 e.x.data

def JudgeRPost (w : World) (bytes : Int) (es : List EvM) (e : Ending) (w' : World) : Prop :=
  Below w.heap.size w w' ∧ ∃ n er, e = .returned (.tuple #[.int .i64 n, .int .i64 er]) ∧
    (((bytes < 0 ∨ 1048576 < bytes) ∧ n = -1 ∧ er = 11) ∨ ((0 ≤ bytes ∧ bytes ≤ 1048576) ∧
      ((¬ GoodE es ∧ n = -1 ∧ er = 10) ∨
        (GoodE es ∧ ∃ xs : List Nat, xs.Perm (pickK es es.length) ∧ xs.Pairwise (fun i j => tookAt es i ≤ tookAt es j) ∧ (n, er) = runE es ⟨bytes, []⟩ xs))))

theorem RefX.mono {F G : Nat → Prop} {w : World} {m : Nat} {A : AM} (h : RefX F w m A) (hg : ∀ k, F k → k < w.heap.size → G k) : RefX G w m A := by
  obtain ⟨vb, gy, cy, bs, h⟩ := h
  refine ⟨vb, gy, cy, bs, h.model, h.rows, fun g e => hg g (h.own g e) (h.rows.lt g e).2, h.bytes, h.of, ⟨hg _ h.lo.1 (lt_of_block h.model), hg _ h.lo.2 (lt_of_block h.bytes)⟩, h.cap⟩

/-- Between two rounds of Judge. -/
def JudgeRI (F : Nat → Prop) (W wr : World) (m : Nat) (es : List EvM) (xs : List Nat) (A0 : AM) (k : Nat) : Prop :=
  ∃ A, RefX F wr m A ∧ Inv A ∧ Tn F W wr ∧ runE es A0 xs = runE es A (xs.drop k)

theorem tn_bytes {F : Nat → Prop} {w W W' : World} {p : Option Addr} {ds : List Int} (h : BytesIn w p ds) (hb : Below w.heap.size w W) (hT : Tn F W W') (hF : ∀ k, k < w.heap.size → ¬ F k) : BytesIn W' p ds := fun i hi => by
  obtain ⟨b, o, e, hc⟩ := h i hi
  exact ⟨b, o, e, turned_cell hT (hF b (cell_lt hc)) (cell_past hb (cell_lt hc) hc)⟩

theorem tn_cell {F : Nat → Prop} {w W W' : World} {b o : Nat} {v : Value} (h : w.cell? ⟨b, o, none⟩ = some v) (hb : Below w.heap.size w W) (hT : Tn F W W') (hF : ∀ k, k < w.heap.size → ¬ F k) : W'.cell? ⟨b, o, none⟩ = some v :=
  turned_cell hT (hF b (cell_lt h)) (cell_past hb (cell_lt h) h)

theorem ints_own2 {w : World} {base : Nat} {v : Value} {ys : List Nat} (h : w.ownsRow base 3 1 v ys.length (ys.map natV)) : ∃ p c, v = .slice p ys.length c ∧ ∀ i (hi : i < ys.length), ∃ g o, p = some ⟨g, o, none⟩ ∧ w.cell? ⟨g, o + i, none⟩ = some (.int .i64 (ys[i] : Nat)) := by
  rcases h.2 with ⟨h0, h1⟩ | ⟨g, cap, cur, h0, hb, hg, r1, r2, r3, r4⟩
  · exact ⟨none, 0, by rw [h0, h1], fun i hi => by omega⟩
  · refine ⟨_, cap, h0, fun i hi => ⟨g, 0, rfl, ?_⟩⟩
    rw [cell_of_block hg, ← Array.getElem?_toList, Nat.zero_add]
    have e : cur.toList[i]? = (ys.map natV)[i]? := by rw [← r4, List.getElem?_take, if_pos (by omega)]
    rw [e]
    simp [hi, natV]

set_option maxRecDepth 100000 in
set_option maxHeartbeats 4000000 in
theorem judgeR_any (w : World) (bytes : Int) (pv : Option Addr) (cap : Nat) (es : List EvM) (h : EvsAt w pv es) (hl : es.length ≤ 100) (hok : ∀ e ∈ es, EvR w e) :
    Calls Tryz.prog 18 #[.int .i64 bytes, .slice pv es.length cap] w (JudgeRPost w bytes es) := by
  have HH := Lib.hid h
  have HOK := Lib.hid hok
  clear h hok
  by_cases hb : 0 ≤ bytes ∧ bytes ≤ 1048576
  · obtain ⟨nb, rfl⟩ := Int.eq_ofNat_of_zero_le hb.1
    have HB01 := Lib.hid hb
    have hnb : nb ≤ 1048576 := by omega
    clear hb
    go_enter Tryz.func18, Tryz.ntmps18
    go_wp2_with (fail)
    refine (newR_yes nb w hnb).mono ?_
    rintro e W1 ⟨m, rfl, hx1, hb1⟩
    have HX1 := Lib.hid (hx1.mono (G := fun k => w.heap.size ≤ k ∧ k < W1.heap.size) (fun k h1 h2 => ⟨h1, h2⟩))
    have HB1 := Lib.hid hb1
    have hord := refOrder_any W1 pv cap es (HH.out.below hb1) (by omega)
    have HORD := Lib.hid hord
    clear hx1 hb1 hord
    go_wp2_with (fail)
    refine HORD.out.mono ?_
    rintro e W2 ⟨hb2, hcase⟩
    have HB2 := Lib.hid hb2
    by_cases hgood : GoodE es
    · obtain ⟨xs, v, hxp, hxs, rfl, hrow⟩ : ∃ (xs : List Nat) (v : Value), xs.Perm (pickK es es.length) ∧ xs.Pairwise (fun i j => tookAt es i ≤ tookAt es j) ∧ e = .returned (.tuple #[v, .bool true]) ∧ W2.ownsRow W1.heap.size 3 1 v xs.length (xs.map natV) := by
        rcases hcase with ⟨h1, _⟩ | ⟨_, xs, h1, h2, v, rfl, h3⟩
        · exact absurd hgood h1
        · exact ⟨xs, v, h1, h2, rfl, h3⟩
      have hge := fun g (e : v.ownBlock = some g) => hrow.lt g e
      obtain ⟨po, co, rfl, hints⟩ := ints_own2 hrow
      have HGE : Hid (∀ g o, po = some ⟨g, o, none⟩ → W1.heap.size ≤ g ∧ g < W2.heap.size) := fun g o e => hge g (by rw [e]; rfl)
      have HINTS := Lib.hid hints
      have HXP := Lib.hid hxp
      have HXS := Lib.hid hxs
      have HGOOD := Lib.hid hgood
      have hmem : ∀ i ∈ xs, i < es.length := fun i hi => by
        have := hxp.mem_iff.1 hi
        unfold pickK at this
        exact List.mem_range.1 (List.mem_filter.1 this).1
      have HMEM := Lib.hid hmem
      have hxl : xs.length ≤ 100 := by rw [hxp.length_eq]; have := pickK_length es es.length; omega
      have hBW : Below w.heap.size w W2 := HB1.out.trans (hb2.mono HB1.out.size)
      have HBW := Lib.hid hBW
      obtain ⟨F, hF⟩ : ∃ F : Nat → Prop, F = fun k => (w.heap.size ≤ k ∧ k < W1.heap.size) ∨ W2.heap.size ≤ k := ⟨_, rfl⟩
      have HFD := Lib.hid hF
      have hx2 : RefX F W2 m ⟨nb, []⟩ := (HX1.out.below hb2).mono (fun k h1 _ => by rw [hF]; exact .inl h1)
      have HX2 := Lib.hid hx2
      have hFlo : ∀ k, k < w.heap.size → ¬ F k := fun k hk hh => by
        rw [hF] at hh
        have := HB1.out.size
        have := HB2.out.size
        rcases hh with hh | hh <;> omega
      have HFLO := Lib.hid hFlo
      have hs12 : W1.heap.size ≤ W2.heap.size := HB2.out.size
      have hs1 : w.heap.size ≤ W1.heap.size := HB1.out.size
      clear hcase hxp hxs hgood hmem hrow hge hints hb2 hBW hF hx2 hFlo HORD
      go_wp2
      go_loopw [10] (fun i wr => ∃ k : Nat, k ≤ xs.length ∧ i = .int .i64 k ∧ JudgeRI F W2 wr m es xs ⟨nb, []⟩ k) (fun i _ => xs.length - (intOf i).toNat)
      case atStart => exact ⟨0, Nat.zero_le _, rfl, ⟨nb, []⟩, HX2.out, inv_new HB01.out.1 HB01.out.2, Turned.refl _ _, rfl⟩
      case round =>
        obtain ⟨k, hk, rfl, A, hR, hI, hT, hrun⟩ := hrel
        by_cases hlt : k < xs.length
        · have hi' := HMEM.out xs[k] (List.getElem_mem hlt)
          obtain ⟨gO, oO, hpo, hcO⟩ := HINTS.out k hlt
          have hgl := HGE.out gO oO hpo
          subst hpo
          have hc0 : wr.cell? ⟨gO, oO + k, none⟩ = some (.int .i64 (xs[k] : Nat)) := turned_cell hT (fun h => by rw [HFD.out] at h; rcases h with h | h <;> omega) hcO
          obtain ⟨ge, oe, rfl, hc⟩ := HH.out xs[k] hi'
          have hev := HOK.out _ (List.getElem_mem hi')
          rw [evAt_get hi'] at hc hev
          have hdrop : xs.drop k = xs[k] :: xs.drop (k + 1) := List.drop_eq_getElem_cons hlt
          have HDROP := Lib.hid hdrop
          clear hdrop hcO
          generalize xs[k] = i at *
          obtain ⟨ev, hevq⟩ : ∃ ev, evAt es i = ev := ⟨_, rfl⟩
          rw [hevq] at hc hev
          have HEV := Lib.hid hevq
          have hbd : Below wr.heap.size wr wr.drew := Below.drew (Below.refl _ _)
          have hTd : Tn F W2 wr.drew := hT.trans (tof hbd)
          have htake := takeR_any (hR.below hbd) hI ev.o ev.x hev.op hev.bytes ev.p1 ev.p2 ev.q1 ev.q2 (tn_bytes hev.in1 HBW.out hTd HFLO.out) (tn_bytes hev.in2 HBW.out hTd HFLO.out) (fun k hk => by rw [HFD.out]; exact .inr (Nat.le_trans hT.size hk))
          unfold opR ansR at htake
          have HTAKE := Lib.hid htake
          have hI2 := Lib.hid (hI.take hev.op hev.bytes)
          have y1 := tn_cell (hc 1 _ rfl) HBW.out hT HFLO.out
          have y2 := tn_cell (hc 2 _ rfl) HBW.out hT HFLO.out
          have y3 := tn_cell (hc 3 _ rfl) HBW.out hT HFLO.out
          have y4 := tn_cell (hc 4 _ rfl) HBW.out hT HFLO.out
          have y5 := tn_cell (hc 5 _ rfl) HBW.out hT HFLO.out
          have y6 := tn_cell (hc 6 _ rfl) HBW.out hT HFLO.out
          have y7 := tn_cell (hc 7 _ rfl) HBW.out hT HFLO.out
          have y8 := tn_cell (hc 8 _ rfl) HBW.out hT HFLO.out
          have y9 := tn_cell (hc 9 _ rfl) HBW.out hT HFLO.out
          have y10 := tn_cell (hc 10 _ rfl) HBW.out hT HFLO.out
          have y11 := tn_cell (hc 11 _ rfl) HBW.out hT HFLO.out
          have y12 := tn_cell (hc 12 _ rfl) HBW.out hT HFLO.out
          have hi1 : (0 : Int) ≤ i ∧ (i : Int) < es.length := by omega
          have hi2 : (0 : Int) ≤ k ∧ (k : Int) < xs.length := by omega
          have hkw : IntKind.i64.wrap ((k : Int) + 1) = (k : Int) + 1 := by rw [IntKind.wrap_i64]; omega
          have HT := Lib.hid hT
          have HRUN := Lib.hid hrun
          have hcase : runE es A (xs.drop k) = if takeE A ev.o ev.x = 0 then runE es (takeA A ev.o ev.x) (xs.drop (k + 1)) else ((i : Int), takeE A ev.o ev.x) := by rw [HDROP.out, runE, HEV.out]
          have HCASE := Lib.hid hcase
          clear hcase hc hev hevq htake hbd hTd hR hI hT hrun
          by_cases ht0 : takeE A ev.o ev.x = 0
          · have hne : (takeE A ev.o ev.x != 0) = false := by simp [ht0]
            have HT0 := Lib.hid ht0
            clear ht0
            go_wp2
            go_still_tail 17, (by kernel_rfl)
            go_wp2_with (fail)
            refine HTAKE.out.mono ?_
            rintro e w3 ⟨rfl, hR3, hT3⟩
            have HR3 := Lib.hid hR3
            have HT3 := Lib.hid hT3
            have hc3 := turned_cell hT3 (fun h => by rw [HFD.out] at h; have := hgl; rcases h with h | h <;> omega) (show wr.drew.cell? ⟨gO, oO + k, none⟩ = _ from hc0)
            clear hR3 hT3
            go_wp2
            go_roundw
            case rel =>
              exact ⟨k + 1, by omega, by go_num, _, HR3.out, hI2.out, HT.out.trans ((tof (Below.drew (Below.refl _ _))).trans HT3.out), HRUN.out.trans (by rw [HCASE.out, if_pos HT0.out])⟩
            case measure => simp [intOf]; omega
          · have hne : (takeE A ev.o ev.x != 0) = true := by simp [ht0]
            have HT0 := Lib.hid ht0
            clear ht0
            go_wp2
            go_still_tail 17, (by kernel_rfl)
            go_wp2_with (fail)
            refine HTAKE.out.mono ?_
            rintro e w3 ⟨rfl, hR3, hT3⟩
            have HT3 := Lib.hid hT3
            have hc3 := turned_cell hT3 (fun h => by rw [HFD.out] at h; have := hgl; rcases h with h | h <;> omega) (show wr.drew.cell? ⟨gO, oO + k, none⟩ = _ from hc0)
            have HTT : Hid (Tn F W2 w3) := HT.out.trans ((tof (Below.drew (Below.refl _ _))).trans hT3)
            clear hR3 hT3
            go_wp2
            go_ret2
            have hb3 : Below w.heap.size w w3 := HBW.out.trans (Turned.below HTT.out (fun x hx => Nat.le_of_not_lt fun hlt => HFLO.out x hlt hx) HBW.out.size)
            exact ⟨hb3, _, _, rfl, .inr ⟨HB01.out, .inr ⟨HGOOD.out, xs, HXP.out, HXS.out, (HRUN.out.trans (by rw [HCASE.out, if_neg HT0.out])).symm⟩⟩⟩
        · obtain rfl : k = xs.length := by omega
          have hr : ((-1 : Int), (0 : Int)) = runE es ⟨nb, []⟩ xs := by rw [hrun, List.drop_length]; rfl
          have hb3 : Below w.heap.size w wr := HBW.out.trans (Turned.below hT (fun x hx => Nat.le_of_not_lt fun hlt => HFLO.out x hlt hx) HBW.out.size)
          have HR := Lib.hid hr
          have HB3 := Lib.hid hb3
          clear hr hrun hR hI hT hb3
          go_wp2
          go_ret2
          exact ⟨HB3.out, -1, 0, rfl, .inr ⟨HB01.out, .inr ⟨HGOOD.out, xs, HXP.out, HXS.out, HR.out⟩⟩⟩
    · obtain rfl : e = .returned (.tuple #[.slice none 0 0, .bool false]) := by
        rcases hcase with ⟨_, h1⟩ | ⟨h1, _⟩
        · exact h1
        · exact absurd h1 hgood
      have HGOOD := Lib.hid hgood
      have HBW := Lib.hid (HB1.out.trans (hb2.mono HB1.out.size))
      clear hcase hb2 hgood HORD
      go_wp2
      go_ret2
      exact ⟨HBW.out, -1, 10, rfl, .inr ⟨HB01.out, .inl ⟨HGOOD.out, rfl, rfl⟩⟩⟩
  · have hb2 : bytes < 0 ∨ 1048576 < bytes := by omega
    have HB := Lib.hid hb2
    have hno := Lib.hid (newR_no bytes w hb2)
    clear hb hb2
    go_enter Tryz.func18, Tryz.ntmps18
    go_wp2_with (fail)
    refine hno.out.mono ?_
    rintro e W1 ⟨rfl, rfl⟩
    go_wp2
    go_ret2
    exact ⟨Below.refl _ _, -1, 11, rfl, .inl ⟨HB.out, rfl, rfl⟩⟩

end Go.Proofs.YtgcnbiccekaffaaGreat
