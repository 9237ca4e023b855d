/- read, again. -/
import Derived.Test.YtgcnbiccekaffaaGreatI
namespace Go.Proofs.YtgcnbiccekaffaaGreat
open Go.RowKit Go.ChangeMaps

/-- Between two rounds of 'read': those that came are as they are known. -/
def ReadI (w0 wr : World) (cs : List (Option Int)) (fr : Nat) (ds : List Int) (k : Nat) : Prop :=
  Below w0.heap.size w0 wr ∧ readsB cs fr (ds.take k) = true

theorem readsB_snoc (cs : List (Option Int)) (fr : Nat) (ds : List Int) (k : Nat) (hk : k < ds.length) (h : readsB cs fr (ds.take k) = true) :
    readsB cs fr (ds.take (k + 1)) = okByte (cs.getD (fr + k) none) (ds.getD k 0) := by
  have e1 : ∀ j n, j < n → (ds.take n).getD j 0 = ds.getD j 0 := fun j n hj => by
    rw [List.getD_eq_getElem?_getD, List.getD_eq_getElem?_getD, List.getElem?_take, if_pos hj]
  have l0 : (ds.take k).length = k := by simp; omega
  have l1 : (ds.take (k + 1)).length = k + 1 := by simp; omega
  unfold readsB at *
  rw [l0] at h
  rw [l1, List.range_succ, List.all_append]
  have h2 : ((List.range k).all fun j => okByte (cs.getD (fr + j) none) ((ds.take (k + 1)).getD j 0)) = true := by
    rw [List.all_eq_true] at h ⊢
    intro j hj
    have := h j hj
    have hj' := List.mem_range.1 hj
    rw [e1 j k hj'] at this
    rw [e1 j (k + 1) (by omega)]
    exact this
  rw [h2]
  simp only [List.all_cons, List.all_nil, Bool.and_true, Bool.true_and]
  rw [e1 k (k + 1) (by omega)]

theorem readsB_false (cs : List (Option Int)) (fr : Nat) (ds : List Int) (k : Nat) (hk : k < ds.length) (h : readsB cs fr (ds.take (k + 1)) = false) : readsB cs fr ds = false := by
  rw [Bool.eq_false_iff] at *
  intro hh
  apply h
  have l1 : (ds.take (k + 1)).length = k + 1 := by simp; omega
  unfold readsB at *
  rw [l1]
  rw [List.all_eq_true] at hh ⊢
  intro j hj
  have hj' := List.mem_range.1 hj
  have := hh j (List.mem_range.2 (by omega))
  rw [List.getD_eq_getElem?_getD, List.getD_eq_getElem?_getD, List.getElem?_take, if_pos hj', ← List.getD_eq_getElem?_getD, ← List.getD_eq_getElem?_getD]
  exact this

set_option maxRecDepth 100000 in
set_option maxHeartbeats 2000000 in
theorem read_any {w : World} {m : Nat} {A : AM} {F : Nat → Prop} {mb clk : Nat} {ents : List Ent} (hI : Inv A) (g : RepG w m A.bytes mb clk ents) (p : (ents.map Ent.b).Perm A.blocks) (f : ∀ k ∈ foot m mb ents, F k)
    {x : Ent} (hx : x ∈ ents) (o : OpA) (xa : AnsA) (p1 p2 : Option Addr) (q1 q2 : Nat) (hd : BytesIn w p2 xa.data) (hap : Apart xa.data p2 F) :
    Calls Tryz.prog 47 #[.pointer (some ⟨x.blk, 0, none⟩), opV o p1 q1, ansV xa p2 q2] w (LegalPost m A F w (readA x.b o xa)) := by
  obtain ⟨e1, e2, rest, e3⟩ := g.each x hx
  have x1 : w.cell? ⟨x.blk, 1, none⟩ = some (.int .i64 x.b.n) := by rw [cell_of_block e1]; rfl
  have x3 : w.cell? ⟨x.blk, 3, none⟩ = some (.slice (some ⟨x.cb, 0, none⟩) x.b.n x.cap) := by rw [cell_of_block e1]; rfl
  have hlo := hI.lo x.b (p.mem_iff.1 (List.mem_map.2 ⟨x, hx, rfl⟩))
  have hb1 := hI.b1
  have hn0 : (0 : Int) ≤ x.b.n := by omega
  have hn1 : (x.b.n : Int) ≤ 1099511627776 := by omega
  have lx := cell_lt x1
  have HN0 := Lib.hid hn0
  have HN1 := Lib.hid hn1
  have H := Lib.hid hI
  have G := Lib.hid g
  have P := Lib.hid p
  have FF := Lib.hid f
  have HX := Lib.hid hx
  have HD := Lib.hid hd
  have HA := Lib.hid hap
  have E2 := Lib.hid e2
  have E3 := Lib.hid e3
  clear hI g p f hx hd hap e1 e2 e3 hlo hb1 hn0 hn1
  unfold opV ansV
  by_cases c1 : withinB o.fr o.n x.b.n = true
  · by_cases c2 : onlyB xa.err xa.at_ xa.n xa.count 0 0 0 0 = true
    · by_cases c3 : ((xa.data.length : Int) == o.n) = true
      · have hfr : readA x.b o xa = (.upd x.b.at_ { x.b with cells := learnL x.b.cells o.fr.toNat xa.data }, readsB x.b.cells o.fr.toNat xa.data) := by
          rw [readA, if_neg (by rw [c1]; simp), if_neg (by rw [c2, c3]; simp)]
        rw [hfr]
        clear hfr
        have hw := withinB_spec c1
        have C1 := Lib.hid c1
        have C3 := Lib.hid c3
        have hlen : (xa.data.length : Int) = o.n := by simpa using c3
        have c4 : ((xa.data.length : Int) != o.n) = false := by simp [hlen]
        generalize hfe : o.fr = fr at *
        obtain ⟨fn, rfl⟩ := Int.eq_ofNat_of_zero_le hw.1
        have hfit : fn + xa.data.length ≤ x.b.n := by omega
        have HF := Lib.hid hfe
        have HL := Lib.hid hlen
        simp only [Int.toNat_natCast]
        clear hfe hlen hw c3
        go_enter Tryz.func47, Tryz.ntmps47
        go_wp2_with (first
          | (go_at_call 71; refine (within_any _ _ _ _ _ HN0.out HN1.out (cell_past (by repeat (first | exact Below.refl _ _ | assumption | refine Below.alloc ?_ (by first | omega | (simp <;> omega)) _ | refine Below.drew ?_ | refine Below.setCell ?_ (by first | omega | (simp <;> omega)) _ | refine Below.via (by assumption) (by first | omega | (simp <;> omega)) ?_)) lx x1)).mono ?_; rintro e w1 ⟨rfl, rfl⟩)
          | (go_at_call 43; refine (only_any _ _ _ _ _ _ _ _ _ _ _).mono ?_; rintro e w1 ⟨rfl, hb⟩; obtain ⟨hc, hf⟩ := bcell hb; have hz := hb.size; (try simp at hz); have l10 : w.heap.size < w1.heap.size := (by omega); have l11 : w.heap.size + 1 < w1.heap.size := (by omega); have l12 : w.heap.size + 1 + 1 < w1.heap.size := (by omega)))
        have s0 : w1.cell? ⟨w.heap.size, 0, none⟩ = some (.pointer (some ⟨x.blk, 0, none⟩)) := by rw [hc _ _ (by simp <;> omega)]; simp [go_sem]
        have s1 : w1.cell? ⟨w.heap.size + 1, 4, none⟩ = some (.int .i64 fn) := by rw [hc _ _ (by simp)]; simp [go_sem]
        have s2 : w1.cell? ⟨w.heap.size + 1 + 1, 4, none⟩ = some (.slice p2 xa.data.length q2) := by rw [hc _ _ (by simp)]; simp [go_sem]
        have hb' : Below w.heap.size w w1 := (by repeat (first | exact Below.refl _ _ | assumption | refine Below.alloc ?_ (by first | omega | (simp <;> omega)) _ | refine Below.drew ?_ | refine Below.setCell ?_ (by first | omega | (simp <;> omega)) _ | refine Below.via (by assumption) (by first | omega | (simp <;> omega)) ?_))
        clear hc hf hb
        go_loopw [35] (fun i wr => ∃ k : Nat, k ≤ xa.data.length ∧ i = .int .i64 k ∧ ReadI w1 wr x.b.cells fn xa.data k) (fun i _ => xa.data.length - (intOf i).toNat)
        case atStart => exact ⟨0, Nat.zero_le _, rfl, Below.refl _ _, rfl⟩
        case round =>
          obtain ⟨k, hk, rfl, hbl, hall⟩ := hrel
          have ALL := Lib.hid hall
          clear hall
          have z0 := cell_past hbl l10 s0
          have z1 := cell_past hbl l11 s1
          have z2 := cell_past hbl l12 s2
          by_cases hlt : k < xa.data.length
          · obtain ⟨db, doff, rfl, hcell⟩ := HD.out k hlt
            have hbw : Below w.heap.size w wr := (by repeat (first | exact Below.refl _ _ | assumption | refine Below.alloc ?_ (by first | omega | (simp <;> omega)) _ | refine Below.drew ?_ | refine Below.setCell ?_ (by first | omega | (simp <;> omega)) _ | refine Below.via (by assumption) (by first | omega | (simp <;> omega)) ?_))
            have g1 : wr.cell? ⟨db, doff + k, none⟩ = some (.int .u8 (xa.data.getD k 0)) := cell_past hbw (cell_lt hcell) hcell
            have g2 : wr.cell? ⟨x.blk, 3, none⟩ = some (.slice (some ⟨x.cb, 0, none⟩) x.b.n x.cap) := cell_past hbw lx x3
            have hlc := lt_of_block E3.out
            have hcells : wr.heap[x.cb]? = some (.cells (cellsV x.b.cells ++ rest).toArray 92) := (hbw.block _ hlc).trans E3.out
            have hcl : x.b.cells.length = x.b.n := E2.out
            have g3 : wr.cell? ⟨x.cb, (fn + k) * 2, none⟩ = some (.int .u8 (cv (x.b.cells.getD (fn + k) none))) := by
              rw [cell_of_block hcells, List.getElem?_toArray, Nat.mul_comm, cellsV_get0 _ _ _ (by omega), List.getD_eq_getElem?_getD, List.getElem?_eq_getElem (by omega), Option.getD_some]
            have g4 : wr.cell? ⟨x.cb, (fn + k) * 2 + 1, none⟩ = some (.bool (x.b.cells.getD (fn + k) none).isSome) := by
              rw [cell_of_block hcells, List.getElem?_toArray, Nat.mul_comm, cellsV_get1 _ _ _ (by omega), List.getD_eq_getElem?_getD, List.getElem?_eq_getElem (by omega), Option.getD_some]
            have hnext := Lib.hid (readsB_snoc x.b.cells fn xa.data k hlt ALL.out)
            have hfal := Lib.hid (readsB_false x.b.cells fn xa.data k hlt)
            have hsz := hbl.size
            have LC := Lib.hid (Nat.lt_of_lt_of_le hlc hbw.size)
            have lc := LC.out
            clear hcells hcell hlc hcl
            generalize xa.data.getD k 0 = v at *
            generalize x.b.cells.getD (fn + k) none = u at *
            have lx' : x.blk < wr.heap.size := by omega
            have l0' : w.heap.size < wr.heap.size := by omega
            have l1' : w.heap.size + 1 < wr.heap.size := by omega
            have hn1 := HN1.out
            have i1 : IntKind.i64.wrap ((fn : Int) + k) = (fn : Int) + k := by rw [IntKind.wrap_i64]; omega
            have i2 : (0 : Int) ≤ (fn : Int) + k := by omega
            have i3 : (fn : Int) + k < (x.b.n : Int) := by omega
            have i4 : ((fn : Int) + k).toNat = fn + k := by omega
            have hkb : (k : Int) < 1099511627776 := by omega
            clear hn1
            have lw := hbw.size
            have hpost : ∀ W, Below wr.heap.size wr W → Below w1.heap.size w1 W := fun W h => hbl.trans (h.mono hsz)
            have HPOST := Lib.hid hpost
            clear hpost
            rcases u with _ | v0
            · have hok := Lib.hid (show readsB x.b.cells fn (xa.data.take (k + 1)) = true from by rw [hnext.out]; rfl)
              simp only [cv, Option.isSome_none] at g3 g4
              clear hnext hfal
              go_wp2; go_region_held3 (fun W : World => W.cell? ⟨w.heap.size, 0, none⟩ = some (.pointer (some ⟨x.blk, 0, none⟩)) ∧ W.cell? ⟨w.heap.size + 1, 4, none⟩ = some (.int .i64 fn) ∧ W.cell? ⟨x.blk, 3, none⟩ = some (.slice (some ⟨x.cb, 0, none⟩) x.b.n x.cap) ∧ W.cell? ⟨x.cb, (fn + k) * 2, none⟩ = some (.int .u8 (0 : Int)) ∧ W.cell? ⟨x.cb, (fn + k) * 2 + 1, none⟩ = some (.bool false)) (go_keep) (fail)
              go_wp2
              go_roundw
              case rel => exact ⟨k + 1, by omega, by go_num, HPOST.out _ (by repeat (first | exact Below.refl _ _ | assumption | refine Below.alloc ?_ (by first | omega | (simp <;> omega)) _ | refine Below.drew ?_ | refine Below.setCell ?_ (by first | omega | (simp <;> omega)) _ | refine Below.via (by assumption) (by first | omega | (simp <;> omega)) ?_)), hok.out⟩
              case measure => simp [intOf]; omega
            · simp only [cv, Option.isSome_some] at g3 g4
              by_cases hv : (v0 == v) = true
              · have hok := Lib.hid (show readsB x.b.cells fn (xa.data.take (k + 1)) = true from by rw [hnext.out]; exact hv)
                have hv2 : (v0 != v) = false := by simpa using hv
                clear hnext hfal hv
                go_wp2; go_region_held3 (fun W : World => W.cell? ⟨w.heap.size, 0, none⟩ = some (.pointer (some ⟨x.blk, 0, none⟩)) ∧ W.cell? ⟨w.heap.size + 1, 4, none⟩ = some (.int .i64 fn) ∧ W.cell? ⟨x.blk, 3, none⟩ = some (.slice (some ⟨x.cb, 0, none⟩) x.b.n x.cap) ∧ W.cell? ⟨x.cb, (fn + k) * 2, none⟩ = some (.int .u8 v0) ∧ W.cell? ⟨x.cb, (fn + k) * 2 + 1, none⟩ = some (.bool true)) (go_keep) (fail)
                go_wp2
                go_roundw
                case rel => exact ⟨k + 1, by omega, by go_num, HPOST.out _ (by repeat (first | exact Below.refl _ _ | assumption | refine Below.alloc ?_ (by first | omega | (simp <;> omega)) _ | refine Below.drew ?_ | refine Below.setCell ?_ (by first | omega | (simp <;> omega)) _ | refine Below.via (by assumption) (by first | omega | (simp <;> omega)) ?_)), hok.out⟩
                case measure => simp [intOf]; omega
              · have hno := Lib.hid (hfal.out (by rw [hnext.out]; simpa [okByte] using hv))
                have hv2 : (v0 != v) = true := by simpa using hv
                clear hnext hfal hv
                go_wp2; go_region_held3 (fun W : World => W.cell? ⟨w.heap.size, 0, none⟩ = some (.pointer (some ⟨x.blk, 0, none⟩)) ∧ W.cell? ⟨w.heap.size + 1, 4, none⟩ = some (.int .i64 fn) ∧ W.cell? ⟨x.blk, 3, none⟩ = some (.slice (some ⟨x.cb, 0, none⟩) x.b.n x.cap) ∧ W.cell? ⟨x.cb, (fn + k) * 2, none⟩ = some (.int .u8 v0) ∧ W.cell? ⟨x.cb, (fn + k) * 2 + 1, none⟩ = some (.bool true)) (go_keep) (fail)
                go_wp2
                go_ret2
                exact ⟨.func (.func 42) #[] #[], by simp only [hno.out]; rfl, Below.via (HPOST.out _ (by repeat (first | exact Below.refl _ _ | assumption | refine Below.alloc ?_ (by first | omega | (simp <;> omega)) _ | refine Below.drew ?_ | refine Below.setCell ?_ (by first | omega | (simp <;> omega)) _ | refine Below.via (by assumption) (by first | omega | (simp <;> omega)) ?_))) (by omega) hb', fun hh => by simp [hno.out] at hh⟩
          · obtain rfl : k = xa.data.length := by omega
            have hall := ALL.out
            rw [List.take_length] at hall
            have HALL := Lib.hid hall
            clear hall ALL
            have hbw : Below w.heap.size w wr := Below.via hbl (by omega) hb'
            have hc1 := Lib.hid c1
            go_wp2
            go_ret2
            exact ⟨.func (.func 72) #[] #[.pointer (some ⟨w.heap.size, 0, none⟩), .pointer (some ⟨w.heap.size + 1, 0, none⟩), .pointer (some ⟨w.heap.size + 1 + 1, 0, none⟩)], by simp only [HALL.out]; rfl, hbw,
              fun _ => does_read H.out (G.out.below hbw) P.out FF.out HX.out _ _ _ (fn : Int) o.n xa.data p2 q2 hc1.out HL.out (HD.out.below hbw) HA.out z0 z1 z2⟩
      · have c4 : ((xa.data.length : Int) != o.n) = true := by simpa [bne] using c3
        have hfr : readA x.b o xa = (.keep, false) := by
          rw [readA, if_neg (by rw [c1]; simp), if_pos (by rw [c2]; simpa using c3)]
        rw [hfr]
        clear hfr c3
        go_enter Tryz.func47, Tryz.ntmps47
        go_wp2_with (first
          | (go_at_call 71; refine (within_any _ _ _ _ _ HN0.out HN1.out (cell_past (by repeat (first | exact Below.refl _ _ | assumption | refine Below.alloc ?_ (by first | omega | (simp <;> omega)) _ | refine Below.drew ?_ | refine Below.setCell ?_ (by first | omega | (simp <;> omega)) _ | refine Below.via (by assumption) (by first | omega | (simp <;> omega)) ?_)) lx x1)).mono ?_; rintro e w1 ⟨rfl, rfl⟩)
          | (go_at_call 43; refine (only_any _ _ _ _ _ _ _ _ _ _ _).mono ?_; rintro e w1 ⟨rfl, hb⟩; obtain ⟨hc, hf⟩ := bcell hb; have hz := hb.size; (try simp at hz); have l10 : w.heap.size < w1.heap.size := (by omega); have l11 : w.heap.size + 1 < w1.heap.size := (by omega); have l12 : w.heap.size + 1 + 1 < w1.heap.size := (by omega)))
        go_ret2
        exact ⟨.func (.func 42) #[] #[], rfl, (by repeat (first | exact Below.refl _ _ | assumption | refine Below.alloc ?_ (by first | omega | (simp <;> omega)) _ | refine Below.drew ?_ | refine Below.setCell ?_ (by first | omega | (simp <;> omega)) _ | refine Below.via (by assumption) (by first | omega | (simp <;> omega)) ?_)), fun hh => by cases hh⟩
    · have c4 : onlyB xa.err xa.at_ xa.n xa.count 0 0 0 0 = false := by simpa using c2
      have hfr : readA x.b o xa = (.keep, false) := by
        rw [readA, if_neg (by rw [c1]; simp), if_pos (by rw [c4]; simp)]
      rw [hfr]
      clear hfr c2
      go_enter Tryz.func47, Tryz.ntmps47
      go_wp2_with (first
        | (go_at_call 71; refine (within_any _ _ _ _ _ HN0.out HN1.out (cell_past (by repeat (first | exact Below.refl _ _ | assumption | refine Below.alloc ?_ (by first | omega | (simp <;> omega)) _ | refine Below.drew ?_ | refine Below.setCell ?_ (by first | omega | (simp <;> omega)) _ | refine Below.via (by assumption) (by first | omega | (simp <;> omega)) ?_)) lx x1)).mono ?_; rintro e w1 ⟨rfl, rfl⟩)
        | (go_at_call 43; refine (only_any _ _ _ _ _ _ _ _ _ _ _).mono ?_; rintro e w1 ⟨rfl, hb⟩; obtain ⟨hc, hf⟩ := bcell hb; have hz := hb.size; (try simp at hz); have l10 : w.heap.size < w1.heap.size := (by omega); have l11 : w.heap.size + 1 < w1.heap.size := (by omega); have l12 : w.heap.size + 1 + 1 < w1.heap.size := (by omega)))
      go_ret2
      exact ⟨.func (.func 42) #[] #[], rfl, (by repeat (first | exact Below.refl _ _ | assumption | refine Below.alloc ?_ (by first | omega | (simp <;> omega)) _ | refine Below.drew ?_ | refine Below.setCell ?_ (by first | omega | (simp <;> omega)) _ | refine Below.via (by assumption) (by first | omega | (simp <;> omega)) ?_)), fun hh => by cases hh⟩
  · have c2 : withinB o.fr o.n x.b.n = false := by simpa using c1
    have hfr : readA x.b o xa = (.keep, bareA xa 11) := by rw [readA, if_pos c2]
    rw [hfr]
    clear hfr c1
    go_enter Tryz.func47, Tryz.ntmps47
    go_wp2_with (first
      | (go_at_call 71; refine (within_any _ _ _ _ _ HN0.out HN1.out (cell_past (by repeat (first | exact Below.refl _ _ | assumption | refine Below.alloc ?_ (by first | omega | (simp <;> omega)) _ | refine Below.drew ?_ | refine Below.setCell ?_ (by first | omega | (simp <;> omega)) _ | refine Below.via (by assumption) (by first | omega | (simp <;> omega)) ?_)) lx x1)).mono ?_; rintro e w1 ⟨rfl, rfl⟩)
      | (go_at_call 44; refine (bare_any _ _ _ _ _ _ _ _ _).mono ?_; rintro e w2 ⟨rfl, hb2⟩))
    go_ret2
    exact ⟨_, rfl, (by repeat (first | exact Below.refl _ _ | assumption | refine Below.alloc ?_ (by first | omega | (simp <;> omega)) _ | refine Below.drew ?_ | refine Below.setCell ?_ (by first | omega | (simp <;> omega)) _ | refine Below.via (by assumption) (by first | omega | (simp <;> omega)) ?_)), fun _ => does_nothing (Rep.below ⟨mb, clk, ents, G.out, P.out, FF.out⟩ (by repeat (first | exact Below.refl _ _ | assumption | refine Below.alloc ?_ (by first | omega | (simp <;> omega)) _ | refine Below.drew ?_ | refine Below.setCell ?_ (by first | omega | (simp <;> omega)) _ | refine Below.via (by assumption) (by first | omega | (simp <;> omega)) ?_)))⟩

end Go.Proofs.YtgcnbiccekaffaaGreat
