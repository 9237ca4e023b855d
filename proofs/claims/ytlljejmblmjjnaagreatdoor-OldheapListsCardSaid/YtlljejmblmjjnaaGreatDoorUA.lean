/- spans, ground: what is too much. (printed by gen_ua.py) -/
import Derived.Test.YtlljejmblmjjnaaGreatDoorTA
import Derived.WalkKit
import Derived.WalkSpells
import Derived.WalkLawsBesides
import Derived.BigQuiet
import Derived.Lib.Hide
import Derived.OrdersHeld
namespace Go.Proofs.YtlljejmblmjjnaaGreatDoor
set_option linter.unusedVariables false
set_option linter.unusedSimpArgs false
open Go.RowKit Go.ChangeMaps

set_option maxRecDepth 4000 in
set_option maxHeartbeats 1000000 in
theorem runHolds_all (r : Run) (n al : Nat) (ha : Pow2 al) (hr : r.stop ≤ 4096) (w : World) :
    Calls Tryz.prog 149 #[.agg #[.int .i64 r.page, .int .i64 r.n, .bool r.taken], .int .i64 n, .int .i64 al] w fun e w' => e = .returned (.bool (r.holds n al)) ∧ Below w.heap.size w w' := by
  have hb : r.page ≤ 4096 := by unfold Run.stop at hr; omega
  have HE := Lib.hid (fun w => runEnd_any r hr w)
  have HF := Lib.hid (fun w => runFirst_any r al ha hb w)
  have hfl : r.first al ≤ 8192 := by
    obtain ⟨i, hi, rfl⟩ := ha
    have hp : 2 ^ i ≤ 2 ^ 12 := Nat.pow_le_pow_right (by decide) hi
    unfold Run.first
    have := Nat.div_mul_le_self (r.page + (2 ^ i - 1)) (2 ^ i)
    omega
  cases ht : r.taken with
  | true =>
    rw [show r.holds n al = false by unfold Run.holds; rw [ht]; rfl]
    rw [ht] at HE HF
    go_enter Tryz.func149, Tryz.ntmps149
    go_wp2
    (refine wp_region_quiet_ext (by kernel_rfl) (by kernel_rfl) ?_; (repeat (first | go_big_quiet_step ((fail)) | quiet_step ((fail)))); refine wpQuiet_nil ?_; intro w1 hw1; obtain hb := below_of_ext hw1; clear hw1; obtain ⟨hc, hf⟩ := bcell hb; have hz := hb.size; (try simp at hz))
    have HB := Lib.hid (show Below w.heap.size w w1 from Below.via hb (by simp) (by repeat (first | exact Below.refl _ _ | assumption | refine Below.alloc ?_ (by first | omega | (simp <;> omega)) _ | refine Below.drew ?_ | refine Below.setCell ?_ (by first | omega | (simp <;> omega)) _ | refine Below.via (by assumption) (by first | omega | (simp <;> omega)) ?_)))
    clear hb hc hf
    go_wp2
    go_ret
    exact ⟨rfl, HB.out⟩
  | false =>
    have hh : r.holds n al = decide ((n : Int) ≤ (r.stop : Int) - (r.first al : Int)) := by
      unfold Run.holds
      rw [ht]
      simp only [Bool.not_false, Bool.true_and]
      apply decide_eq_decide.2
      omega
    rw [hh]
    rw [ht] at HE HF
    have hw : IntKind.i64.wrap ((r.stop : Int) - (r.first al : Int)) = (r.stop : Int) - (r.first al : Int) := by rw [IntKind.wrap_i64]; omega
    clear hh
    generalize r.stop = s at *
    generalize r.first al = f at *
    go_enter Tryz.func149, Tryz.ntmps149
    go_wp2
    (refine wp_region_quiet_ext (by kernel_rfl) (by kernel_rfl) ?_; (repeat (first | go_big_quiet_step (((first | (go_at_call 123; exact Calls.ext_of (HE.out _)) | (go_at_call 122; exact Calls.ext_of (HF.out _))))) | quiet_step (((first | (go_at_call 123; exact Calls.ext_of (HE.out _)) | (go_at_call 122; exact Calls.ext_of (HF.out _))))))); refine wpQuiet_nil ?_; intro w1 hw1; obtain hb := below_of_ext hw1; clear hw1; obtain ⟨hc, hf⟩ := bcell hb; have hz := hb.size; (try simp at hz))
    have HB := Lib.hid (show Below w.heap.size w w1 from Below.via hb (by simp) (by repeat (first | exact Below.refl _ _ | assumption | refine Below.alloc ?_ (by first | omega | (simp <;> omega)) _ | refine Below.drew ?_ | refine Below.setCell ?_ (by first | omega | (simp <;> omega)) _ | refine Below.via (by assumption) (by first | omega | (simp <;> omega)) ?_)))
    clear hb hc hf
    go_wp2
    go_ret
    exact ⟨rfl, HB.out⟩


set_option maxRecDepth 100000 in
set_option maxHeartbeats 2000000 in
theorem place_all (sp pages n al : Nat) (v : Value) (l : List Run) (w : World) (h : SpansAt w sp v pages l) (ha : Pow2 al) :
    Calls Tryz.prog 121 #[.pointer (some ⟨sp, 0, none⟩), .int .i64 n, .int .i64 al] w fun e w' => e = .returned (.int .i64 (placeI (placeR n al l))) ∧ Below w.heap.size w w' := by
  have c1 : w.cell? ⟨sp, 1, none⟩ = some v := by rw [cell_of_block h.obj]; rfl
  have hll := h.tile.length_le
  have hm := h.most
  obtain ⟨p, cap, rfl, hcap, hcell⟩ := h.open
  have HC := Lib.hid hcell
  have HT := Lib.hid (fun k (hk : k < l.length) => h.tile.bounds l[k] (List.getElem_mem hk))
  have HH := Lib.hid (fun (r : Run) (hr : r.stop ≤ 4096) w => runHolds_all r n al ha hr w)
  have hsl := cell_lt c1
  clear h hcell
  go_enter Tryz.func121, Tryz.ntmps121
  go_wp2
  go_loopw [7, 15] (fun b i wr => ∃ k : Nat, k ≤ l.length ∧ i = .int .i64 k ∧ PlaceR w wr n al l k b) (fun _ i _ => l.length - (intOf i).toNat)
  case atStart => exact ⟨0, Nat.zero_le _, rfl, none, rfl, rfl, fun j m hj => (by cases hj), Below.refl _ _⟩
  case round =>
    obtain ⟨k, hk, rfl, o, rfl, hpl, ho, hb⟩ := hrel
    have hszr := hb.size
    have HB := Lib.hid hb
    by_cases hlt : k < l.length
    · obtain ⟨g, rfl, hg, y0, y1, y2⟩ := HC.out k hlt
      obtain ⟨t1, t2, t3⟩ := HT.out k hlt
      have hHold := Lib.hid (HH.out l[k] (by omega))
      have x0 := cell_past hb hg y0
      have x1 := cell_past hb hg y1
      have x2 := cell_past hb hg y2
      have s1 := cell_past hb hsl c1
      have hd : l.drop k = l[k] :: l.drop (k + 1) := List.drop_eq_getElem_cons hlt
      rw [hd] at hpl
      have hi1 : (0 : Int) ≤ (k : Int) ∧ (k : Int) < l.length := by omega
      have hkw : IntKind.i64.wrap ((k : Int) + 1) = (k : Int) + 1 := by rw [IntKind.wrap_i64]; omega
      have hgr : g ≠ wr.heap.size := by omega
      cases hh : l[k].holds n al with
      | false =>
        rw [hh] at hHold
        have HREL := Lib.hid (show ∀ wq, Below w.heap.size w wq → PlaceR w wq n al l (k + 1) (.int .i64 (bestI o)) from fun wq hbq => ⟨o, rfl, by
          rw [← hpl]
          show _ = placeF n al _ (k + 1) (if (l[k].holds n al && lessB l[k] o) = true then some (k, l[k].n) else o)
          rw [hh]; rfl, fun j m hj => ⟨by have := (ho j m hj).1; omega, (ho j m hj).2⟩, hbq⟩)
        clear hpl ho hb hd hh t1 t2 t3 y0 y1 y2
        generalize hp0 : l[k].page = p0 at *
        generalize hp1 : l[k].n = p1 at *
        generalize hp2 : l[k].taken = p2 at *
        clear hp0 hp1 hp2
        go_wp2
        (refine wp_region_quiet_ext (by kernel_rfl) (by kernel_rfl) ?_; (repeat (first | go_big_quiet_step (((go_at_call 149; exact Calls.ext_of (hHold.out _)))) | quiet_step (((go_at_call 149; exact Calls.ext_of (hHold.out _)))))); refine wpQuiet_nil ?_; intro w1 hw1; obtain hb := below_of_ext hw1; clear hw1; obtain ⟨hc, hf⟩ := bcell hb; have hz := hb.size; (try simp at hz))
        have HB1 := Lib.hid (show Below w.heap.size w w1 from Below.via hb (by simp; omega) (HB.out.alloc hszr _))
        clear hb hc hf
        go_wp2
        go_roundw
        case rel => exact ⟨k + 1, by omega, by go_num, HREL.out _ HB1.out⟩
        case measure => first | (simp [intOf]; done) | (simp [intOf]; omega)
      | true =>
        rw [hh] at hHold
        cases ho2 : o with
        | none =>
          subst ho2
          have HREL := Lib.hid (show ∀ wq, Below w.heap.size w wq → PlaceR w wq n al l (k + 1) (.int .i64 (k : Int)) from fun wq hbq => ⟨some (k, l[k].n), rfl, by
            rw [← hpl]
            show _ = placeF n al _ (k + 1) (if (l[k].holds n al && lessB l[k] none) = true then some (k, l[k].n) else none)
            rw [hh]; rfl, fun j m hj => (by cases hj; exact ⟨by omega, hlt, rfl⟩), hbq⟩)
          rw [show bestI none = -1 from rfl]
          clear hpl ho hb hd hh t1 t2 t3 y0 y1 y2
          generalize hp0 : l[k].page = p0 at *
          generalize hp1 : l[k].n = p1 at *
          generalize hp2 : l[k].taken = p2 at *
          clear hp0 hp1 hp2
          go_wp2
          (refine wp_region_quiet_ext (by kernel_rfl) (by kernel_rfl) ?_; (repeat (first | go_big_quiet_step (((go_at_call 149; exact Calls.ext_of (hHold.out _)))) | quiet_step (((go_at_call 149; exact Calls.ext_of (hHold.out _)))))); refine wpQuiet_nil ?_; intro w1 hw1; obtain hb := below_of_ext hw1; clear hw1; obtain ⟨hc, hf⟩ := bcell hb; have hz := hb.size; (try simp at hz))
          have HB1 := Lib.hid (show Below w.heap.size w w1 from Below.via hb (by simp; omega) (HB.out.alloc hszr _))
          clear hb hc hf
          go_wp2
          go_roundw
          case rel => exact ⟨k + 1, by omega, by go_num, HREL.out _ HB1.out⟩
          case measure => first | (simp [intOf]; done) | (simp [intOf]; omega)
        | some jm =>
          obtain ⟨j, m⟩ := jm
          subst ho2
          obtain ⟨hjk, hjl, hjm⟩ := ho j m rfl
          obtain ⟨g2, hg2, hg2l, -, y1j, -⟩ := HC.out j hjl
          cases hg2
          have x1j := cell_past hb hg y1j
          have tj := HT.out j hjl
          have hj1 : ((j : Int) == -1) = false := by simp
          have hji : (0 : Int) ≤ (j : Int) ∧ (j : Int) < l.length := by omega
          rw [hjm] at x1j
          rw [show bestI (some (j, m)) = (j : Int) from rfl]
          by_cases hless : l[k].n < m
          · have HREL := Lib.hid (show ∀ wq, Below w.heap.size w wq → PlaceR w wq n al l (k + 1) (.int .i64 (k : Int)) from fun wq hbq => ⟨some (k, l[k].n), rfl, by
              rw [← hpl]
              show _ = placeF n al _ (k + 1) (if (l[k].holds n al && lessB l[k] (some (j, m))) = true then some (k, l[k].n) else some (j, m))
              rw [hh, show lessB l[k] (some (j, m)) = true from decide_eq_true hless]; rfl, fun j2 m2 hj => (by cases hj; exact ⟨by omega, hlt, rfl⟩), hbq⟩)
            have hl2 : decide ((l[k].n : Int) < (m : Int)) = true := decide_eq_true (by omega)
            have hl3 : decide (l[k].n < m) = true := decide_eq_true hless
            clear hjm y1j tj hless
            clear hpl ho hb hd hh t1 t2 t3 y0 y1 y2
            generalize hp0 : l[k].page = p0 at *
            generalize hp1 : l[k].n = p1 at *
            generalize hp2 : l[k].taken = p2 at *
            clear hp0 hp1 hp2
            have s1a := (World.cell?_alloc_past (w := wr) (Obj.cells #[.int .i64 (p0 : Int), .int .i64 (p1 : Int), .bool p2] 108) _ _ (cell_lt s1)).trans s1
            have x1a := (World.cell?_alloc_past (w := wr) (Obj.cells #[.int .i64 (p0 : Int), .int .i64 (p1 : Int), .bool p2] 108) _ _ (cell_lt x1j)).trans x1j
            go_wp2
            (refine wp_region_quiet_ext (by kernel_rfl) (by kernel_rfl) ?_; (repeat (first | go_big_quiet_step (((go_at_call 149; exact Calls.ext_of (hHold.out _)))) | quiet_step (((go_at_call 149; exact Calls.ext_of (hHold.out _)))))); refine wpQuiet_nil ?_; intro w1 hw1; obtain hb := below_of_ext hw1; clear hw1; obtain ⟨hc, hf⟩ := bcell hb; have hz := hb.size; (try simp at hz))
            have HB1 := Lib.hid (show Below w.heap.size w w1 from Below.via hb (by simp; omega) (HB.out.alloc hszr _))
            clear hb hc hf
            go_wp2
            go_roundw
            case rel => exact ⟨k + 1, by omega, by go_num, HREL.out _ HB1.out⟩
            case measure => first | (simp [intOf]; done) | (simp [intOf]; omega)
          · have HREL := Lib.hid (show ∀ wq, Below w.heap.size w wq → PlaceR w wq n al l (k + 1) (.int .i64 (j : Int)) from fun wq hbq => ⟨some (j, m), rfl, by
              rw [← hpl]
              show _ = placeF n al _ (k + 1) (if (l[k].holds n al && lessB l[k] (some (j, m))) = true then some (k, l[k].n) else some (j, m))
              rw [hh, show lessB l[k] (some (j, m)) = false from decide_eq_false hless]; rfl, fun j2 m2 hj => (by cases hj; exact ⟨by omega, hjl, hjm⟩), hbq⟩)
            have hl2 : decide ((l[k].n : Int) < (m : Int)) = false := decide_eq_false (by omega)
            have hl3 : decide (l[k].n < m) = false := decide_eq_false hless
            clear hjm y1j tj hless
            clear hpl ho hb hd hh t1 t2 t3 y0 y1 y2
            generalize hp0 : l[k].page = p0 at *
            generalize hp1 : l[k].n = p1 at *
            generalize hp2 : l[k].taken = p2 at *
            clear hp0 hp1 hp2
            have s1a := (World.cell?_alloc_past (w := wr) (Obj.cells #[.int .i64 (p0 : Int), .int .i64 (p1 : Int), .bool p2] 108) _ _ (cell_lt s1)).trans s1
            have x1a := (World.cell?_alloc_past (w := wr) (Obj.cells #[.int .i64 (p0 : Int), .int .i64 (p1 : Int), .bool p2] 108) _ _ (cell_lt x1j)).trans x1j
            go_wp2
            (refine wp_region_quiet_ext (by kernel_rfl) (by kernel_rfl) ?_; (repeat (first | go_big_quiet_step (((go_at_call 149; exact Calls.ext_of (hHold.out _)))) | quiet_step (((go_at_call 149; exact Calls.ext_of (hHold.out _)))))); refine wpQuiet_nil ?_; intro w1 hw1; obtain hb := below_of_ext hw1; clear hw1; obtain ⟨hc, hf⟩ := bcell hb; have hz := hb.size; (try simp at hz))
            have HB1 := Lib.hid (show Below w.heap.size w w1 from Below.via hb (by simp; omega) (HB.out.alloc hszr _))
            clear hb hc hf
            go_wp2
            go_roundw
            case rel => exact ⟨k + 1, by omega, by go_num, HREL.out _ HB1.out⟩
            case measure => first | (simp [intOf]; done) | (simp [intOf]; omega)
    · obtain rfl : k = l.length := by omega
      rw [List.drop_length] at hpl
      have hres : bestI o = placeI (placeR n al l) := by
        unfold placeR
        rw [← hpl]
        show _ = placeI ((some o).bind fun x => x.map Prod.fst)
        cases o <;> rfl
      rw [hres]
      clear hpl ho hres
      go_wp2
      go_ret
      exact ⟨rfl, HB.out⟩


set_option maxRecDepth 8000 in
set_option maxHeartbeats 2000000 in
theorem take_noneA (sp pages n al : Nat) (v : Value) (l : List Run) (w : World) (h : SpansAt w sp v pages l) (ha : Pow2 al) (hn : 1 ≤ n) (hp : placeR n al l = none) :
    Calls Tryz.prog 84 #[.pointer (some ⟨sp, 0, none⟩), .int .i64 n, .int .i64 al] w fun e w' => e = .returned (.tuple #[.int .i64 (-1), .int .i64 13]) ∧ Below w.heap.size w w' := by
  have HR := Lib.hid (fun w => spRight_yes n al hn ha w)
  have HP := Lib.hid (place_all sp pages n al v l w h ha)
  rw [hp, show placeI none = -1 from rfl] at HP
  clear h
  go_enter Tryz.func84, Tryz.ntmps84
  go_wp2_with (fail)
  refine (HR.out _).mono ?_
  rintro e w1 ⟨rfl, rfl⟩
  go_wp2_with (fail)
  refine HP.out.mono ?_
  rintro e w1 ⟨rfl, hb⟩
  have HB1 := Lib.hid hb
  clear hb
  go_wp2
  go_ret2
  exact ⟨rfl, HB1.out⟩


set_option maxRecDepth 8000 in
set_option maxHeartbeats 1000000 in
theorem gOpen_noA (gr cl pages a b c n al v cls : Nat) (p : GPl) (l : List Run) (E : List PE) (w : World) (h : GroundAt w gr cl p pages l E a b c) (ha : Pow2 al) (hn : 1 ≤ n) (hv : v < 3) (hc : cls < 64) (hp : placeR n al l = none) :
    Calls Tryz.prog 40 #[.pointer (some ⟨gr, 0, none⟩), .int .i64 n, .int .i64 al, .int .i64 v, .int .i64 cls] w fun e w' => e = .returned (.tuple #[.int .i64 (-1), .int .i64 13]) ∧ Below w.heap.size w w' := by
  obtain ⟨-, c1, -⟩ := h.cells
  have HR := Lib.hid (fun w => gRight_yes v cls hv hc w)
  have HT := Lib.hid (take_noneA p.sp pages n al p.sv l w h.spans ha hn hp)
  clear h hp
  go_enter Tryz.func40, Tryz.ntmps40
  go_wp2_with (fail)
  refine (HR.out _).mono ?_
  rintro e w1 ⟨rfl, rfl⟩
  go_wp2_with (fail)
  refine HT.out.mono ?_
  rintro e w1 ⟨rfl, hb⟩
  have HB := Lib.hid hb
  clear hb
  go_wp2
  go_ret2
  exact ⟨rfl, HB.out⟩


set_option maxRecDepth 8000 in
set_option maxHeartbeats 1000000 in
/-- Less than one page. -/
theorem gOpen_range (gr cl pages a b c : Nat) (n : Int) (al v cls : Nat) (p : GPl) (l : List Run) (E : List PE) (w : World) (h : GroundAt w gr cl p pages l E a b c) (hn : n < 1) (hv : v < 3) (hc : cls < 64) :
    Calls Tryz.prog 40 #[.pointer (some ⟨gr, 0, none⟩), .int .i64 n, .int .i64 al, .int .i64 v, .int .i64 cls] w fun e w' => (∃ z, e = .returned (.tuple #[.int .i64 (-1), .int .i64 z])) ∧ w = w' := by
  obtain ⟨-, c1, -⟩ := h.cells
  have HR := Lib.hid (fun w => gRight_yes v cls hv hc w)
  have HS : Hid (∀ w, Calls Tryz.prog 120 #[.int .i64 n, .int .i64 al] w fun e w' => e = .returned (.bool false) ∧ w = w') := fun w => by
    clear HR c1 h
    go_enter Tryz.func120, Tryz.ntmps120
    go_wp2
    go_ret
    exact ⟨rfl, rfl⟩
  have HT : Hid (∀ w, Calls Tryz.prog 84 #[.pointer (some ⟨p.sp, 0, none⟩), .int .i64 n, .int .i64 al] w fun e w' => (∃ z, e = .returned (.tuple #[.int .i64 (-1), .int .i64 z]) ∧ z ≠ 0) ∧ w = w') := fun w => by
    clear HR c1 h
    go_enter Tryz.func84, Tryz.ntmps84
    go_wp2_with (fail)
    refine (HS.out _).mono ?_
    rintro e w1 ⟨rfl, rfl⟩
    go_wp2
    go_ret2
    exact ⟨⟨_, rfl, by decide⟩, rfl⟩
  clear h HS
  go_enter Tryz.func40, Tryz.ntmps40
  go_wp2_with (fail)
  refine (HR.out _).mono ?_
  rintro e w1 ⟨rfl, rfl⟩
  go_wp2_with (fail)
  refine (HT.out _).mono ?_
  rintro e w1 ⟨⟨z, rfl, hz⟩, rfl⟩
  have hzb : (z == 0) = false := by simpa using hz
  go_wp2
  go_ret2
  exact ⟨⟨_, rfl⟩, rfl⟩

set_option maxRecDepth 8000 in
set_option maxHeartbeats 1000000 in
/-- Where no span begins: nothing is closed. -/
theorem gClose_no (gr cl pages a b c k : Nat) (p : GPl) (l : List Run) (E : List PE) (w : World) (h : GroundAt w gr cl p pages l E a b c) (hl : lenR pages l (k : Int) = 0) :
    Calls Tryz.prog 41 #[.pointer (some ⟨gr, 0, none⟩), .int .i64 k] w fun e w' => (∃ z, e = .returned (.tuple #[.int .i64 0, .int .i64 z])) ∧ Below w.heap.size w w' := by
  have HL := gLen_any gr cl pages a b c p l E (k : Int) w h
  rw [hl] at HL
  have HL := Lib.hid HL
  clear h hl
  go_enter Tryz.func41, Tryz.ntmps41
  go_wp2_with (fail)
  refine HL.out.mono ?_
  rintro e w1 ⟨rfl, hb⟩
  have HB := Lib.hid hb
  clear hb
  go_wp2
  go_ret2
  exact ⟨⟨_, rfl⟩, HB.out⟩

end Go.Proofs.YtlljejmblmjjnaaGreatDoor

/- oldheap: another hand opens and closes large spans. -/
namespace Go.Proofs.YtlljejmblmjjnaaGreatDoor
set_option linter.unusedVariables false
set_option linter.unusedSimpArgs false
open Go.RowKit Go.ChangeMaps

/-- The ground has turned, the slabs haven't. -/
theorem OHeapM.reground {w w' : World} {H : OHL} {pages : Nat} {s : OP} (h : OHeapM w H pages s) {l' : List Run} {E' : List PE} {p : GPl} {G' : List (Nat × Nat)} {c' : Nat} (t : Turned H.p.F w w')
    (hg : GroundAt w' H.gr H.cl p pages l' E' H.b 0 c') (hpf : ∀ k, p.F k → H.p.F k ∨ w.heap.size ≤ k) (hbase : OBase pages l' s.A (H.left.map (·.x))) (hent : EntO l' E' (s.A ++ H.left.map (·.x)) G' c') (hnum : freeN l' + H.b + c' = pages) :
    OHeapM w' { H with p := p, E := E', G := G', c := c' } pages ⟨l', s.A, s.R⟩ ∧ H.Of { H with p := p, E := E', G := G', c := c' } w.heap.size := by
  have K := h.keptG (t.mono (fun j hj _ => .inr hj))
  have hsz := h.size
  refine ⟨⟨K.obj, hg, K.ring, (t.block _ (lt_of_block h.map) h.off).trans h.map, ?_, K.tab, ?_, K.each, h.xs, h.perm, hbase, hent, hnum, h.cnt⟩, ⟨rfl, rfl, rfl, rfl, rfl, ?_⟩⟩
  · intro e
    rcases hpf _ e with e | e
    · exact h.off e
    · have h1 := lt_of_block h.map
      have h2 : w.heap.size ≤ H.mb := e
      omega
  · rintro (e | e | e | e | e | e | e)
    · exact h.pos (.inl e)
    · exact h.pos (.inr (.inl e))
    · exact h.pos (.inr (.inr (.inl e)))
    · exact h.pos (.inr (.inr (.inr (.inl e))))
    · exact h.pos (.inr (.inr (.inr (.inr (.inl e)))))
    · rcases hpf _ e with e | e
      · exact h.pos (.inr (.inr (.inr (.inr (.inr (.inl e))))))
      · omega
    · exact h.pos (.inr (.inr (.inr (.inr (.inr (.inr e))))))
  · rintro j (e | e | e | e | e | e | e)
    · exact .inl (.inl e)
    · exact .inl (.inr (.inl e))
    · exact .inl (.inr (.inr (.inl e)))
    · exact .inl (.inr (.inr (.inr (.inl e))))
    · exact .inl (.inr (.inr (.inr (.inr (.inl e)))))
    · exact (hpf _ e).imp (fun e => .inr (.inr (.inr (.inr (.inr (.inl e)))))) id
    · exact .inl (.inr (.inr (.inr (.inr (.inr (.inr e))))))

theorem placeR_freeA {n k : Nat} {l : List Run} {r : Run} (hp : placeR n 1 l = some k) (hr : l[k]? = some r) : r.taken = false ∧ r.first 1 + n ≤ r.stop := by
  obtain ⟨hkl, r', hr', hh⟩ := placeR_spec hp
  rw [hr] at hr'
  obtain rfl := Option.some.inj hr'
  unfold Run.holds at hh
  simp only [Bool.and_eq_true, Bool.not_eq_true', decide_eq_true_eq] at hh
  exact hh

/-- A large span is opened. -/
theorem OHeapM.large {w w' : World} {H : OHL} {pages : Nat} {s : OP} (h : OHeapM w H pages s) {n k st : Nat} {r : Run} {p : GPl} (hn : 0 < n) (hp : placeR n 1 s.l = some k) (hr : s.l[k]? = some r) (t : Turned H.p.F w w')
    (hg : GroundAt w' H.gr H.cl p pages (takeR s.l k r n 1) (setE H.E (r.first 1) (some (⟨r.first 1, 2, 0, 0⟩, st)) n) H.b 0 (H.c + n)) (hpf : ∀ k, p.F k → H.p.F k ∨ w.heap.size ≤ k) :
    ∃ H' : OHL, H'.left = H.left ∧ OHeapM w' H' pages ⟨takeR s.l k r n 1, s.A, s.R⟩ ∧ H.Of H' w.heap.size := by
  obtain ⟨ht, hfit⟩ := placeR_freeA hp hr
  have hge := r.first_ge (al := 1) (by decide)
  have hbd := h.base.tile.bounds _ (List.mem_of_getElem? hr)
  have hEl : r.first 1 + n ≤ H.E.length := by
    have := h.ground.map.most
    have := h.ground.map.len
    omega
  obtain ⟨o1, o2, o3, o4⟩ := EntO.open (n := n) (v := 2) (cls := 0) h.base h.ent hr ht hn 1 (by decide) hfit st hEl
  have hnG : ∀ g ∈ H.G, g.1 ≠ r.first 1 := fun g hg e => by
    obtain ⟨q1, -⟩ := h.ent.lg g hg
    have := h.base.tile.uniq q1 (List.mem_of_getElem? hr) (k := r.first 1) (by show g.1 ≤ r.first 1; omega) (by
      have := h.base.tile.bounds _ q1
      show r.first 1 < g.1 + g.2
      have hb2 : 0 < g.2 := this.2.1
      omega) hge (by omega)
    rw [← this] at ht
    cases ht
  have hb' : OBase pages (takeR s.l k r n 1) s.A (H.left.map (·.x)) := ⟨take_tile h.base.tile hr hn (by decide) hfit, h.base.srt, h.base.each, fun x hx => o4 _ (h.base.tk x hx) rfl, h.base.sep, h.base.nd⟩
  suffices hs : EntO (takeR s.l k r n 1) (setE H.E (r.first 1) (some (⟨r.first 1, 2, 0, 0⟩, st)) n) (s.A ++ H.left.map (·.x)) ((r.first 1, n) :: H.G) (H.c + n) ∧ freeN (takeR s.l k r n 1) + H.b + (H.c + n) = pages by
    obtain ⟨q1, q2⟩ := h.reground t hg hpf hb' hs.1 hs.2
    refine ⟨_, ?_, q1, q2⟩
    rfl
  refine ⟨⟨?_, o3, ?_, ?_, ?_, ?_⟩, ?_⟩
  · intro x hx j h1 h2
    rw [setE_get _ _ _ _ _ hEl, if_neg (o1 x hx j h1 h2)]
    exact h.ent.ent x hx j h1 h2
  · intro g hg
    rcases List.mem_cons.1 hg with rfl | hg
    · refine ⟨((take_mem hr ht hn _).2 (.inr rfl)).1, fun j h1 h2 => ⟨st, ?_⟩⟩
      rw [setE_get _ _ _ _ _ hEl, if_pos ⟨h1, h2⟩]
    · refine ⟨o4 _ (h.ent.lg g hg).1 rfl, fun j h1 h2 => ?_⟩
      rw [setE_get _ _ _ _ _ hEl, if_neg (o2 g hg j h1 h2)]
      exact (h.ent.lg g hg).2 j h1 h2
  · intro j e u hj hv
    rw [setE_get _ _ _ _ _ hEl] at hj
    split at hj
    · next hh => exact ⟨_, List.mem_cons_self, hh⟩
    · obtain ⟨g, hg, hh⟩ := h.ent.ver j e u hj hv
      exact ⟨g, List.mem_cons_of_mem _ hg, hh⟩
  · rw [List.map_cons, List.nodup_cons]
    refine ⟨fun hm => ?_, h.ent.gnd⟩
    obtain ⟨g, hg, e⟩ := List.mem_map.1 hm
    exact hnG g hg e
  · rw [List.map_cons, List.sum_cons, h.ent.sum]
    exact Nat.add_comm _ _
  · have h1 := free_take (al := 1) hr ht hn (by decide) hfit
    have h2 := h.num
    omega

/-- A large span is closed. -/
theorem OHeapM.unlarge {w w' : World} {H : OHL} {pages : Nat} {s : OP} (h : OHeapM w H pages s) {g : Nat × Nat} (hgm : g ∈ H.G) {k : Nat} {p : GPl} (hk : s.l[k]? = some ⟨g.1, g.2, true⟩) (t : Turned H.p.F w w')
    (hg : GroundAt w' H.gr H.cl p pages (giveR s.l k ⟨g.1, g.2, true⟩) (setE H.E g.1 none g.2) H.b 0 (H.c - g.2)) (hpf : ∀ k, p.F k → H.p.F k ∨ w.heap.size ≤ k) :
    ∃ H' : OHL, H'.left = H.left ∧ OHeapM w' H' pages ⟨giveR s.l k ⟨g.1, g.2, true⟩, s.A, s.R⟩ ∧ H.Of H' w.heap.size := by
  have hgl := (h.ent.lg g hgm).1
  have hbd := h.base.tile.bounds _ hgl
  have hn0 : 0 < g.2 := hbd.2.1
  have hEl : g.1 + g.2 ≤ H.E.length := by
    have h1 := h.ground.map.most
    have h2 := h.ground.map.len
    have h3 : g.1 + g.2 ≤ pages := hbd.2.2
    omega
  have hoff : ∀ q : Run, q ∈ s.l → q.page ≠ g.1 → ∀ j, q.page ≤ j → j < q.stop → ¬ (g.1 ≤ j ∧ j < g.1 + g.2) := fun q hq hqp j h1 h2 hh => by
    have := h.base.tile.uniq hq hgl (k := j) h1 h2 hh.1 hh.2
    exact hqp (congrArg Run.page this)
  have hkeep : ∀ q : Run, q ∈ s.l → q.taken = true → q.page ≠ g.1 → q ∈ giveR s.l k ⟨g.1, g.2, true⟩ := fun q hq hqt hqp =>
    ((give_mem h.base.tile hk rfl _).2 ⟨⟨hq, hqt⟩, fun e => hqp (congrArg Run.page e)⟩).1
  have hxne : ∀ x ∈ s.A ++ H.left.map (·.x), x.page ≠ g.1 := fun x hx e => by
    obtain ⟨st0, e0⟩ := (h.ent.lg g hgm).2 g.1 (Nat.le_refl _) (by omega)
    obtain ⟨st1, e1⟩ := h.ent.ent x hx g.1 (by omega) (by omega)
    rw [e0] at e1
    exact absurd (show (2 : Nat) = 0 from congrArg (fun q : Ent4 × Nat => q.1.version) (Option.some.inj e1)) (by decide)
  have hpm : H.G.Perm (g :: H.G.erase g) := List.perm_cons_erase hgm
  have hsum : g.2 + ((H.G.erase g).map (·.2)).sum = H.c := by
    have := (hpm.map (·.2)).sum_nat
    rw [List.map_cons, List.sum_cons, h.ent.sum] at this
    omega
  have hnd : ((H.G.erase g).map (·.1)).Nodup ∧ ∀ z ∈ H.G.erase g, z.1 ≠ g.1 := by
    have := (hpm.map (·.1)).nodup_iff.1 h.ent.gnd
    rw [List.map_cons, List.nodup_cons] at this
    exact ⟨this.2, fun z hz e => this.1 (List.mem_map.2 ⟨z, hz, e⟩)⟩
  have hsub : ∀ z ∈ H.G.erase g, z ∈ H.G := fun z hz => List.mem_of_mem_erase hz
  have hb' : OBase pages (giveR s.l k ⟨g.1, g.2, true⟩) s.A (H.left.map (·.x)) := ⟨give_tile h.base.tile hk, h.base.srt, h.base.each, fun x hx => hkeep _ (h.base.tk x hx) rfl (hxne x hx), h.base.sep, h.base.nd⟩
  suffices hs : EntO (giveR s.l k ⟨g.1, g.2, true⟩) (setE H.E g.1 none g.2) (s.A ++ H.left.map (·.x)) (H.G.erase g) (H.c - g.2) ∧ freeN (giveR s.l k ⟨g.1, g.2, true⟩) + H.b + (H.c - g.2) = pages by
    obtain ⟨q1, q2⟩ := h.reground t hg hpf hb' hs.1 hs.2
    refine ⟨_, ?_, q1, q2⟩
    rfl
  refine ⟨⟨?_, ?_, ?_, ?_, hnd.1, ?_⟩, ?_⟩
  · intro x hx j h1 h2
    rw [setE_get _ _ _ _ _ hEl, if_neg (hoff ⟨x.page, 4, true⟩ (h.base.tk x hx) (hxne x hx) j h1 h2)]
    exact h.ent.ent x hx j h1 h2
  · intro j e u hj
    rw [setE_get _ _ _ _ _ hEl] at hj
    split at hj
    · cases hj
    · next hh =>
      obtain ⟨r0, q1, q2, q3, q4, q5⟩ := h.ent.back j e u hj
      refine ⟨r0, hkeep r0 q1 q2 (fun ep => ?_), q2, q3, q4, q5⟩
      have := h.base.tile.same_page q1 hgl ep
      rw [this] at q4 q5
      exact hh ⟨q4, q5⟩
  · intro z hz
    refine ⟨hkeep _ (h.ent.lg z (hsub z hz)).1 rfl (hnd.2 z hz), fun j h1 h2 => ?_⟩
    rw [setE_get _ _ _ _ _ hEl, if_neg (hoff ⟨z.1, z.2, true⟩ (h.ent.lg z (hsub z hz)).1 (hnd.2 z hz) j h1 h2)]
    exact (h.ent.lg z (hsub z hz)).2 j h1 h2
  · intro j e u hj hv
    rw [setE_get _ _ _ _ _ hEl] at hj
    split at hj
    · cases hj
    · next hh =>
      obtain ⟨z, hz, h1, h2⟩ := h.ent.ver j e u hj hv
      refine ⟨z, ?_, h1, h2⟩
      rcases List.mem_cons.1 (hpm.mem_iff.1 hz) with rfl | hz'
      · exact absurd ⟨h1, h2⟩ hh
      · exact hz'
  · omega
  · have h1 : freeN (giveR s.l k ⟨g.1, g.2, true⟩) = freeN s.l + g.2 := free_give hk rfl
    have h2 := h.num
    omega

/-- What the lists keep where a slab leaves or comes, a large span is opened or closed. -/
theorem OInv.relay {pages : Nat} {s : OP} (h : OInv pages s) {l' : List Run} (ht : Tile 0 l' pages) (hk : ∀ x ∈ s.A, (⟨x.page, 4, true⟩ : Run) ∈ l') : OInv pages ⟨l', s.A, s.R⟩ := ⟨ht, h.srt, h.each, hk, h.ring, h.back, h.nodup⟩

end Go.Proofs.YtlljejmblmjjnaaGreatDoor

/- The law's Do, at any call: what it keeps. -/
namespace Go.Proofs.YtlljejmblmjjnaaGreatDoor
set_option linter.unusedVariables false
set_option linter.unusedSimpArgs false
open Go.RowKit Go.ChangeMaps

theorem OInv.joined {pages : Nat} {s : OP} (h : OInv pages s) {x : PO} (hx : x.Ok0 pages) (hr : (⟨x.page, 4, true⟩ : Run) ∈ s.l) (hne : ∀ z ∈ s.A, z.page ≠ x.page) : OInv pages (joinO s x) := by
  have hm := front_move h.nodup x.item (4 * x.cls + ofO x.O)
  refine h.ins (y := { x with sealed := false }) ⟨hx.al, hx.fits, hx.cls, hx.top, fun e => by cases e⟩ hne h.tile (fun u hu => ?_) ?_
  · rcases insO_mem.1 hu with rfl | hu
    · exact hr
    · exact h.tk u hu
  · rw [num_of (x := { x with sealed := false }) rfl]
    exact hm

/-- The law's world on its way: slabs may be away, and another hand may hold large spans. -/
structure WorldI (w wr : World) (x : Nat) (lv : Value) (H : OHL) (pages : Nat) (s : OP) : Prop where
  at_ : WorldO wr x w.heap.size lv H pages s
  inv : OInv pages s
  foot : ∀ k, H.F k → w.heap.size ≤ k
  x : w.heap.size ≤ x
  pos : 0 < w.heap.size
  below : Below w.heap.size w wr
theorem WorldI.below' {w w1 w2 : World} {x : Nat} {lv : Value} {H : OHL} {pages : Nat} {s : OP} (h : WorldI w w1 x lv H pages s) (hb : Below w1.heap.size w1 w2) : WorldI w w2 x lv H pages s :=
  ⟨h.at_.below hb, h.inv, h.foot, h.x, h.pos, Below.via hb h.below.size h.below⟩
theorem WorldI.next {w w1 w2 : World} {x : Nat} {lv lv' : Value} {H H' : OHL} {pages : Nat} {s s' : OP} (h : WorldI w w1 x lv H pages s) (ha : WorldO w2 x w.heap.size lv' H' pages s') (hi : OInv pages s') (ho : H.Of H' w1.heap.size) (hb : Below w.heap.size w1 w2) : WorldI w w2 x lv' H' pages s' :=
  ⟨ha, hi, fun k hk => (ho.foot k hk).elim (h.foot k) (fun e => Nat.le_trans h.below.size e), h.x, h.pos, h.below.trans hb⟩
theorem WorldI.done {w w1 w2 : World} {x : Nat} {lv : Value} {H : OHL} {pages : Nat} {s s' : OP} {res : List Int} {err : Int} {e : Ending} (h : WorldI w w1 x lv H pages s) (hi : OInv pages s') (hp : DoPost w1 x w.heap.size lv H pages s s' res err e w2) :
    ∃ v H', e = .returned (.tuple #[v, .int .i64 err]) ∧ Ints w2 w1.heap.size v res ∧ WorldI w w2 x lv H' pages s' ∧ H'.h = H.h ∧ H'.gr = H.gr ∧ Turned H.F w1 w2 ∧ H.Of H' w1.heap.size := by
  obtain ⟨v, H', p1, p2, p3, p4, p5, p6, p7, p8⟩ := hp
  exact ⟨v, H', p1, p2, h.next p3 hi p7 (p8.below (B := w.heap.size) h.foot h.below.size), p7.h, p7.gr, p8, p7⟩
/-- What a call leaves, whatever it answers. -/
def DoAny (w : World) (x pages : Nat) (e : Ending) (w' : World) : Prop := (∃ v, e = .returned v) ∧ ∃ lv H s, WorldI w w' x lv H pages s

set_option maxRecDepth 8000 in
set_option maxHeartbeats 2000000 in
theorem doX_any {w wr : World} {x : Nat} {lv : Value} {H : OHL} {pages : Nat} {s : OP} (h : WorldI w wr x lv H pages s) (what cls at_ n pg : Int) (hw : what < 0 ∨ 8 < what) :
    Calls Tryz.prog 11 #[.pointer (some ⟨x, 0, none⟩), .agg #[.int .i64 what, .int .i64 cls, .int .i64 at_, .int .i64 n, .int .i64 pg]] wr (DoAny w x pages) := by
  have HH := Lib.hid h
  have e0 : (what == 0) = false := by simp; omega
  have e1 : (what == 1) = false := by simp; omega
  have e2 : (what == 2) = false := by simp; omega
  have e3 : (what == 3) = false := by simp; omega
  have e4 : (what == 4) = false := by simp; omega
  have e5 : (what == 5) = false := by simp; omega
  have e6 : (what == 6) = false := by simp; omega
  have e7 : (what == 7) = false := by simp; omega
  have e8 : (what == 8) = false := by simp; omega
  clear h hw
  go_enter Tryz.func11, Tryz.ntmps11
  go_wp2
  go_ret2
  exact ⟨⟨_, rfl⟩, lv, H, s, HH.out.below' ((Below.refl _ _).alloc (Nat.le_refl _) _)⟩

end Go.Proofs.YtlljejmblmjjnaaGreatDoor

/- The law's Do: a slab leaves. -/
namespace Go.Proofs.YtlljejmblmjjnaaGreatDoor
set_option linter.unusedVariables false
set_option linter.unusedSimpArgs false
open Go.RowKit Go.ChangeMaps

theorem info_oslab : (Tryz.prog.info? 42).map (fun i => (i.zero, i.size, i.bytes)) = some (some (.pointer none), 1, 8) := by kernel_rfl
theorem OHeapM.left_le {w : World} {H : OHL} {pages : Nat} {s : OP} (h : OHeapM w H pages s) : H.left.length ≤ 64 := by
  have h1 := h.num
  have h2 := h.cnt
  have h3 := h.ground.map.most
  omega
/-- What a call may turn, beside what is new. -/
def worldF (H : OHL) (x : Nat) (lv : Value) : Nat → Prop := fun k => H.F k ∨ k = x ∨ lv.ownBlock = some k
theorem own_block_is {w : World} {base n size : Nat} {T : TypeId} {v : Value} {xs : List Value} (h : w.ownsRow base T size v n xs) {k : Nat} (hk : v.ownBlock = some k) : base ≤ k ∧ ∃ cur, w.heap[k]? = some (.cells cur T (0, 0)) := by
  rcases h.2 with ⟨rfl, -⟩ | ⟨g, cap, cur, rfl, hb, hg, -⟩
  · cases hk
  · cases hk
    exact ⟨hb, cur, hg⟩
/-- A slab more in the law's row of those that left. -/
theorem WorldO.pushed {w4 w5 : World} {x base : Nat} {lv v' : Value} {H : OHL} {pages : Nat} {s : OP} {tmp : Obj} {L : List OS} (hb0 : 0 < base)
    (hob : w4.heap[x]? = some (.cells #[.pointer (some ⟨H.gr, 0, none⟩), .pointer (some ⟨H.h, 0, none⟩), lv] 36 (0, 0))) (hrow : w4.ownsRow base 42 1 lv L.length (L.map fun y => .pointer (some ⟨y.L.s, 0, none⟩))) (hA : OHeapM w4 H pages s)
    (hg : (w4.alloc tmp).grownBy w5 lv.ownBlock) (hown : w5.ownsRow base 42 1 v' H.left.length (H.left.map fun y => .pointer (some ⟨y.L.s, 0, none⟩))) :
    w5.heap[x]? = some (.cells #[.pointer (some ⟨H.gr, 0, none⟩), .pointer (some ⟨H.h, 0, none⟩), lv] 36 (0, 0)) ∧ WorldO (w5.setCell ⟨x, 2, none⟩ v') x base v' H pages s ∧ Turned (fun k => k = x ∨ lv.ownBlock = some k) w4 (w5.setCell ⟨x, 2, none⟩ v') := by
  have hxl := lt_of_block hob
  have hxne : some x ≠ lv.ownBlock := fun e => by
    obtain ⟨-, cur, hc⟩ := own_block_is hrow e.symm
    rw [hob] at hc
    cases hc
  have t1 : Turned (fun k => lv.ownBlock = some k) w4 w5 := ((Turned.refl _ w4).alloc tmp).trans (G := fun k => lv.ownBlock = some k) ⟨hg.os, hg.tape, hg.output, hg.size, fun k hk hf => hg.block k hk (fun e => hf e.symm)⟩ (fun _ h _ => h)
  have hob5 := (t1.block x hxl (fun e => hxne e.symm)).trans hob
  have hF1 : ∀ k, H.F k → ¬ lv.ownBlock = some k := fun k hk e => by
    obtain ⟨-, cur, hc⟩ := own_block_is hrow e
    exact hA.offT hc (by decide) hk
  have hA5 : OHeapM w5 H pages s := hA.turned t1 (fun e => by have := (own_block_is hrow e).1; omega) hF1
  have t2 : Turned (fun k => k = x) w5 (w5.setCell ⟨x, 2, none⟩ v') := Turned.setCell (F := fun k => k = x) (p := ⟨x, 2, none⟩) (Turned.refl _ w5) (.inl rfl) v'
  refine ⟨hob5, ⟨?_, ?_, ?_⟩, ?_⟩
  · rw [heap_setCell_eq hob5]
    rfl
  · refine ownsRow_turned t2 hown fun g cs hgb e => ?_
    rw [e, hob5] at hgb
    cases hgb
  · refine hA5.turned t2 (fun e => ?_) (fun k hk e => hA5.offT hob5 (by decide) (e ▸ hk))
    have e0 : x = 0 := e.symm
    have hT := hA5.tab 0 (by decide)
    have h2 := cell_of_block hob5 0
    rw [e0] at h2
    have h3 := h2.symm.trans hT
    simp at h3
  · exact (t1.mono (fun k hk _ => .inr hk)).trans (t2.mono (fun k hk _ => .inl hk)) (fun _ h _ => h)

set_option maxRecDepth 8000 in
set_option maxHeartbeats 2000000 in
theorem do5_no {w : World} {x base : Nat} {lv : Value} {H : OHL} {pages : Nat} {s : OP} (h : WorldO w x base lv H pages s) (cls at_ n pg : Int) (hp : getO s.A pg = none) :
    Calls Tryz.prog 11 #[.pointer (some ⟨x, 0, none⟩), .agg #[.int .i64 5, .int .i64 cls, .int .i64 at_, .int .i64 n, .int .i64 pg]] w fun e w' => (∃ v, e = .returned v) ∧ Below w.heap.size w w' := by
  obtain ⟨-, cx, -⟩ := h.cells
  have hxl := cell_lt cx
  obtain ⟨W1, hW1⟩ : ∃ W1, W1 = w.alloc (.cells #[.int .i64 5, .int .i64 cls, .int .i64 at_, .int .i64 n, .int .i64 pg] 31) := ⟨_, rfl⟩
  have hb1 : Below w.heap.size w W1 := by rw [hW1]; exact (Below.refl _ _).alloc (Nat.le_refl _) _
  have hbox : W1.heap[w.heap.size]? = some (.cells #[.int .i64 5, .int .i64 cls, .int .i64 at_, .int .i64 n, .int .i64 pg] 31 (0, 0)) := by rw [hW1]; exact heap_alloc_new _ _
  have h1 := (h.below hb1).heap.drew
  have hoffx : ¬ H.F x := (h.below hb1).heap.offT (h.below hb1).obj (by decide)
  have hoffb : ¬ H.F w.heap.size := (h.below hb1).heap.offT hbox (by decide)
  have hob1 := (h.below hb1).obj
  have x1 : W1.cell? ⟨x, 1, none⟩ = some (.pointer (some ⟨H.h, 0, none⟩)) := cell_past hb1 hxl cx
  have q0 := cell_of_block hbox 0
  have q1 := cell_of_block hbox 1
  have q2 := cell_of_block hbox 2
  have q3 := cell_of_block hbox 3
  have q4 := cell_of_block hbox 4
  have HB1 := Lib.hid hb1
  have H1 := Lib.hid h1
  have HOFF := Lib.hid (And.intro hoffx hoffb)
  have HOB := Lib.hid hob1
  have HLT := Lib.hid h
  clear h hb1 hbox h1 hoffx hoffb hob1 cx
  go_enter Tryz.func11, Tryz.ntmps11
  go_upto_region 14 with (fail)
  rw [← hW1]
  clear hW1
  have HC := Lib.hid (hleaveO_no H1.out pg hp)
  (refine wp_region_held_drew (S := fun W : World => W.cell? ⟨x, 1, none⟩ = some (.pointer (some ⟨H.h, 0, none⟩)) ∧ W.cell? ⟨w.heap.size, 1, none⟩ = some (.int .i64 cls) ∧ W.cell? ⟨w.heap.size, 2, none⟩ = some (.int .i64 at_) ∧ W.cell? ⟨w.heap.size, 3, none⟩ = some (.int .i64 n) ∧ W.cell? ⟨w.heap.size, 4, none⟩ = some (.int .i64 pg)) (by kernel_rfl) (by exact ⟨x1, q1, q2, q3, q4⟩) (fun hHeld0 => ?_))
  (refine wpAnyH_take (i := 0) (v := ?_) rfl (by kernel_rfl) (by kernel_rfl) (by kernel_rfl) (fun _ _ _ h => h) (Or.inl ⟨by rfl, ?_⟩) (by assumption) ?_; rotate_left; focus (intro w hSw; (try dsimp only at hSw); go_simp; first | done | with_reducible rfl); (try simp only [Act.put, List.setIfInBounds_toArray, List.set_cons_zero, List.set_cons_succ, List.getElem_toArray, List.getElem_cons_zero, List.getElem_cons_succ]))
  (refine wpAnyH_take (i := 1) (v := ?_) rfl (by kernel_rfl) (by kernel_rfl) (by kernel_rfl) (fun _ _ _ h => h) (Or.inl ⟨by rfl, ?_⟩) (by assumption) ?_; rotate_left; focus (intro w hSw; (try dsimp only at hSw); go_simp; first | done | with_reducible rfl); (try simp only [Act.put, List.setIfInBounds_toArray, List.set_cons_zero, List.set_cons_succ, List.getElem_toArray, List.getElem_cons_zero, List.getElem_cons_succ]))
  (refine wpAnyH_take (i := 2) (v := ?_) rfl (by kernel_rfl) (by kernel_rfl) (by kernel_rfl) (fun _ _ _ h => h) (Or.inl ⟨by rfl, ?_⟩) (by assumption) ?_; rotate_left; focus (intro w hSw; (try dsimp only at hSw); go_simp; first | done | with_reducible rfl); (try simp only [Act.put, List.setIfInBounds_toArray, List.set_cons_zero, List.set_cons_succ, List.getElem_toArray, List.getElem_cons_zero, List.getElem_cons_succ]))
  (refine wpAnyH_take (i := 3) (v := ?_) rfl (by kernel_rfl) (by kernel_rfl) (by kernel_rfl) (fun _ _ _ h => h) (Or.inl ⟨by rfl, ?_⟩) (by assumption) ?_; rotate_left; focus (intro w hSw; (try dsimp only at hSw); go_simp; first | done | with_reducible rfl); (try simp only [Act.put, List.setIfInBounds_toArray, List.set_cons_zero, List.set_cons_succ, List.getElem_toArray, List.getElem_cons_zero, List.getElem_cons_succ]))
  (refine wpAnyH_take (i := 4) (v := ?_) rfl (by kernel_rfl) (by kernel_rfl) (by kernel_rfl) (fun _ _ _ h => h) (Or.inl ⟨by rfl, ?_⟩) (by assumption) ?_; rotate_left; focus (intro w hSw; (try dsimp only at hSw); go_simp; first | done | with_reducible rfl); (try simp only [Act.put, List.setIfInBounds_toArray, List.set_cons_zero, List.set_cons_succ, List.getElem_toArray, List.getElem_cons_zero, List.getElem_cons_succ]))
  (refine wpAnyH_take (i := 5) (v := ?_) rfl (by kernel_rfl) (by kernel_rfl) (by kernel_rfl) (fun _ _ _ h => h) (Or.inl ⟨by rfl, ?_⟩) (by assumption) ?_; rotate_left; focus (intro w hSw; (try dsimp only at hSw); go_simp; first | done | with_reducible rfl); (try simp only [Act.put, List.setIfInBounds_toArray, List.set_cons_zero, List.set_cons_succ, List.getElem_toArray, List.getElem_cons_zero, List.getElem_cons_succ]))
  (refine wpAnyH_ready (rs := [6]) (by kernel_rfl) (by simp) ?_; refine AllReadyH.cons rfl (fun K hK => ?_) AllReadyH.nil; go_simp)
  go_wp2_with (fail)
  refine HC.out.mono ?_
  rintro e w4 ⟨rfl, rfl⟩
  refine hK.out _ _ ⟨x1, q1, q2, q3, q4⟩ (fun hHeld => ?_)
  clear hK K hHeld0
  (try simp only [Act.put, List.setIfInBounds_toArray, List.set_cons_zero, List.set_cons_succ, List.getElem_toArray, List.getElem_cons_zero, List.getElem_cons_succ])
  clear x1 q0 q1 q2 q3 q4
  (refine wpAnyH_take (i := 7) (v := ?_) rfl (by kernel_rfl) (by kernel_rfl) (by kernel_rfl) (fun _ _ _ h => h) (Or.inl ⟨by rfl, ?_⟩) (by assumption) ?_; rotate_left; focus (intro w hSw; (try dsimp only at hSw); go_simp; first | done | with_reducible rfl); (try simp only [Act.put, List.setIfInBounds_toArray, List.set_cons_zero, List.set_cons_succ, List.getElem_toArray, List.getElem_cons_zero, List.getElem_cons_succ]))
  (refine wpAnyH_take (i := 8) (v := ?_) rfl (by kernel_rfl) (by kernel_rfl) (by kernel_rfl) (fun _ _ _ h => h) (Or.inl ⟨by rfl, ?_⟩) (by assumption) ?_; rotate_left; focus (intro w hSw; (try dsimp only at hSw); go_simp; first | done | with_reducible rfl); (try simp only [Act.put, List.setIfInBounds_toArray, List.set_cons_zero, List.set_cons_succ, List.getElem_toArray, List.getElem_cons_zero, List.getElem_cons_succ]))
  (refine wpAnyH_take (i := 9) (v := ?_) rfl (by kernel_rfl) (by kernel_rfl) (by kernel_rfl) (fun _ _ _ h => h) (Or.inl ⟨by rfl, ?_⟩) (by assumption) ?_; rotate_left; focus (intro w hSw; (try dsimp only at hSw); go_simp; first | done | with_reducible rfl); (try simp only [Act.put, List.setIfInBounds_toArray, List.set_cons_zero, List.set_cons_succ, List.getElem_toArray, List.getElem_cons_zero, List.getElem_cons_succ]))
  (refine wpAnyH_take (i := 10) (v := ?_) rfl (by kernel_rfl) (by kernel_rfl) (by kernel_rfl) (fun _ _ _ h => h) (Or.inl ⟨by rfl, ?_⟩) (by assumption) ?_; rotate_left; focus (intro w hSw; (try dsimp only at hSw); go_simp; first | done | with_reducible rfl); (try simp only [Act.put, List.setIfInBounds_toArray, List.set_cons_zero, List.set_cons_succ, List.getElem_toArray, List.getElem_cons_zero, List.getElem_cons_succ]))
  (refine wpAnyH_take (i := 11) (v := ?_) rfl (by kernel_rfl) (by kernel_rfl) (by kernel_rfl) (fun _ _ _ h => h) (Or.inl ⟨by rfl, ?_⟩) (by assumption) ?_; rotate_left; focus (intro w hSw; (try dsimp only at hSw); go_simp; first | done | with_reducible rfl); (try simp only [Act.put, List.setIfInBounds_toArray, List.set_cons_zero, List.set_cons_succ, List.getElem_toArray, List.getElem_cons_zero, List.getElem_cons_succ]))
  refine wpAnyH_done (by kernel_rfl) ?_ _
  clear hHeld
  go_wp2
  go_ret2
  exact ⟨⟨_, rfl⟩, Below.drew HB1.out⟩

set_option maxRecDepth 8000 in
set_option maxHeartbeats 2000000 in
theorem do5_yes {w : World} {x base : Nat} {lv : Value} {H : OHL} {pages : Nat} {s : OP} (h : WorldO w x base lv H pages s) (hb0 : 0 < base) (hbs : base ≤ w.heap.size) {y : OS} (hy : y ∈ H.xs) (cls at_ n pg : Int) (hpg : pg = y.x.page) :
    Calls Tryz.prog 11 #[.pointer (some ⟨x, 0, none⟩), .agg #[.int .i64 5, .int .i64 cls, .int .i64 at_, .int .i64 n, .int .i64 pg]] w fun e w' => (∃ v, e = .returned v) ∧ ∃ lv', WorldO w' x base lv' (dropH H y) pages (leaveO s y.x) ∧ H.Of (dropH H y) w.heap.size ∧ Turned (worldF H x lv) w w' := by
  obtain ⟨i0, hi, hz0, hz1, hz2⟩ := info_parts info_oslab
  have hll := h.heap.left_le
  have hrow := h.row
  obtain ⟨pl, cl, rfl⟩ := own_slice2 hrow
  have HROW := Lib.hid hrow
  have HPG := Lib.hid hpg
  clear hrow hpg
  obtain ⟨-, cx, -⟩ := h.cells
  have hxl := cell_lt cx
  obtain ⟨W1, hW1⟩ : ∃ W1, W1 = w.alloc (.cells #[.int .i64 5, .int .i64 cls, .int .i64 at_, .int .i64 n, .int .i64 pg] 31) := ⟨_, rfl⟩
  have hb1 : Below w.heap.size w W1 := by rw [hW1]; exact (Below.refl _ _).alloc (Nat.le_refl _) _
  have hbox : W1.heap[w.heap.size]? = some (.cells #[.int .i64 5, .int .i64 cls, .int .i64 at_, .int .i64 n, .int .i64 pg] 31 (0, 0)) := by rw [hW1]; exact heap_alloc_new _ _
  have h1 := (h.below hb1).heap.drew
  have hoffx : ¬ H.F x := (h.below hb1).heap.offT (h.below hb1).obj (by decide)
  have hoffb : ¬ H.F w.heap.size := (h.below hb1).heap.offT hbox (by decide)
  have hob1 := (h.below hb1).obj
  have x1 : W1.cell? ⟨x, 1, none⟩ = some (.pointer (some ⟨H.h, 0, none⟩)) := cell_past hb1 hxl cx
  have q0 := cell_of_block hbox 0
  have q1 := cell_of_block hbox 1
  have q2 := cell_of_block hbox 2
  have q3 := cell_of_block hbox 3
  have q4 := cell_of_block hbox 4
  have HB1 := Lib.hid hb1
  have H1 := Lib.hid h1
  have HOFF := Lib.hid (And.intro hoffx hoffb)
  have HOB := Lib.hid hob1
  have HLT := Lib.hid h
  clear h hb1 hbox h1 hoffx hoffb hob1 cx
  go_enter Tryz.func11, Tryz.ntmps11
  go_upto_region 14 with (fail)
  rw [← hW1]
  clear hW1
  have HC := hleaveO_yes H1.out hy
  rw [← HPG.out] at HC
  have HC := Lib.hid HC
  clear hy
  (refine wp_region_held_drew (S := fun W : World => W.cell? ⟨x, 1, none⟩ = some (.pointer (some ⟨H.h, 0, none⟩)) ∧ W.cell? ⟨w.heap.size, 1, none⟩ = some (.int .i64 cls) ∧ W.cell? ⟨w.heap.size, 2, none⟩ = some (.int .i64 at_) ∧ W.cell? ⟨w.heap.size, 3, none⟩ = some (.int .i64 n) ∧ W.cell? ⟨w.heap.size, 4, none⟩ = some (.int .i64 pg)) (by kernel_rfl) (by exact ⟨x1, q1, q2, q3, q4⟩) (fun hHeld0 => ?_))
  (refine wpAnyH_take (i := 0) (v := ?_) rfl (by kernel_rfl) (by kernel_rfl) (by kernel_rfl) (fun _ _ _ h => h) (Or.inl ⟨by rfl, ?_⟩) (by assumption) ?_; rotate_left; focus (intro w hSw; (try dsimp only at hSw); go_simp; first | done | with_reducible rfl); (try simp only [Act.put, List.setIfInBounds_toArray, List.set_cons_zero, List.set_cons_succ, List.getElem_toArray, List.getElem_cons_zero, List.getElem_cons_succ]))
  (refine wpAnyH_take (i := 1) (v := ?_) rfl (by kernel_rfl) (by kernel_rfl) (by kernel_rfl) (fun _ _ _ h => h) (Or.inl ⟨by rfl, ?_⟩) (by assumption) ?_; rotate_left; focus (intro w hSw; (try dsimp only at hSw); go_simp; first | done | with_reducible rfl); (try simp only [Act.put, List.setIfInBounds_toArray, List.set_cons_zero, List.set_cons_succ, List.getElem_toArray, List.getElem_cons_zero, List.getElem_cons_succ]))
  (refine wpAnyH_take (i := 2) (v := ?_) rfl (by kernel_rfl) (by kernel_rfl) (by kernel_rfl) (fun _ _ _ h => h) (Or.inl ⟨by rfl, ?_⟩) (by assumption) ?_; rotate_left; focus (intro w hSw; (try dsimp only at hSw); go_simp; first | done | with_reducible rfl); (try simp only [Act.put, List.setIfInBounds_toArray, List.set_cons_zero, List.set_cons_succ, List.getElem_toArray, List.getElem_cons_zero, List.getElem_cons_succ]))
  (refine wpAnyH_take (i := 3) (v := ?_) rfl (by kernel_rfl) (by kernel_rfl) (by kernel_rfl) (fun _ _ _ h => h) (Or.inl ⟨by rfl, ?_⟩) (by assumption) ?_; rotate_left; focus (intro w hSw; (try dsimp only at hSw); go_simp; first | done | with_reducible rfl); (try simp only [Act.put, List.setIfInBounds_toArray, List.set_cons_zero, List.set_cons_succ, List.getElem_toArray, List.getElem_cons_zero, List.getElem_cons_succ]))
  (refine wpAnyH_take (i := 4) (v := ?_) rfl (by kernel_rfl) (by kernel_rfl) (by kernel_rfl) (fun _ _ _ h => h) (Or.inl ⟨by rfl, ?_⟩) (by assumption) ?_; rotate_left; focus (intro w hSw; (try dsimp only at hSw); go_simp; first | done | with_reducible rfl); (try simp only [Act.put, List.setIfInBounds_toArray, List.set_cons_zero, List.set_cons_succ, List.getElem_toArray, List.getElem_cons_zero, List.getElem_cons_succ]))
  (refine wpAnyH_take (i := 5) (v := ?_) rfl (by kernel_rfl) (by kernel_rfl) (by kernel_rfl) (fun _ _ _ h => h) (Or.inl ⟨by rfl, ?_⟩) (by assumption) ?_; rotate_left; focus (intro w hSw; (try dsimp only at hSw); go_simp; first | done | with_reducible rfl); (try simp only [Act.put, List.setIfInBounds_toArray, List.set_cons_zero, List.set_cons_succ, List.getElem_toArray, List.getElem_cons_zero, List.getElem_cons_succ]))
  (refine wpAnyH_ready (rs := [6]) (by kernel_rfl) (by simp) ?_; refine AllReadyH.cons rfl (fun K hK => ?_) AllReadyH.nil; go_simp)
  go_wp2_with (fail)
  refine HC.out.mono ?_
  rintro e w4 ⟨rfl, hA, ho, ht⟩
  have htt : Turned H.F W1 w4 := (Turned.of_below (F := H.F) (Below.drew (Below.refl _ W1)) (Nat.le_refl _)).trans ht (fun _ h _ => h)
  have hs4 := htt.size
  have hsW := HB1.out.size
  (refine hK.out _ _ ⟨turned_cell htt HOFF.out.1 x1, turned_cell htt HOFF.out.2 q1, turned_cell htt HOFF.out.2 q2, turned_cell htt HOFF.out.2 q3, turned_cell htt HOFF.out.2 q4⟩ (fun hHeld => ?_); clear hK K hHeld0; (try simp only [Act.put, List.setIfInBounds_toArray, List.set_cons_zero, List.set_cons_succ, List.getElem_toArray, List.getElem_cons_zero, List.getElem_cons_succ]))
  have HT := Lib.hid htt
  have HA := Lib.hid hA
  have HO := Lib.hid ho
  have HOB4 : Hid (w4.heap[x]? = some (.cells #[.pointer (some ⟨H.gr, 0, none⟩), .pointer (some ⟨H.h, 0, none⟩), .slice pl H.left.length cl] 36 (0, 0))) := (htt.block _ (lt_of_block HOB.out) HOFF.out.1).trans HOB.out
  have HROW4 : Hid (w4.ownsRow base 42 1 (.slice pl H.left.length cl) H.left.length (H.left.map fun y => .pointer (some ⟨y.L.s, 0, none⟩))) := ownsRow_turned htt ((rowI_below HB1.out) HROW.out) fun g cs hg => (HLT.out.below HB1.out).heap.offT hg (by decide)
  have c2 := cell_of_block HOB4.out 2
  have f2 := frozen_of_block HOB4.out 2
  simp only [List.getElem?_toArray, List.getElem?_cons_zero, List.getElem?_cons_succ] at c2
  clear htt x1 q0 q1 q2 q3 q4 hA ho ht
  (refine wpAnyH_take (i := 7) (v := ?_) rfl (by kernel_rfl) (by kernel_rfl) (by kernel_rfl) (fun _ _ _ h => h) (Or.inl ⟨by rfl, ?_⟩) (by assumption) ?_; rotate_left; focus (intro w hSw; (try dsimp only at hSw); go_simp; first | done | with_reducible rfl); (try simp only [Act.put, List.setIfInBounds_toArray, List.set_cons_zero, List.set_cons_succ, List.getElem_toArray, List.getElem_cons_zero, List.getElem_cons_succ]))
  (refine wpAnyH_take (i := 8) (v := ?_) rfl (by kernel_rfl) (by kernel_rfl) (by kernel_rfl) (fun _ _ _ h => h) (Or.inl ⟨by rfl, ?_⟩) (by assumption) ?_; rotate_left; focus (intro w hSw; (try dsimp only at hSw); go_simp; first | done | with_reducible rfl); (try simp only [Act.put, List.setIfInBounds_toArray, List.set_cons_zero, List.set_cons_succ, List.getElem_toArray, List.getElem_cons_zero, List.getElem_cons_succ]))
  (refine wpAnyH_take (i := 9) (v := ?_) rfl (by kernel_rfl) (by kernel_rfl) (by kernel_rfl) (fun _ _ _ h => h) (Or.inl ⟨by rfl, ?_⟩) (by assumption) ?_; rotate_left; focus (intro w hSw; (try dsimp only at hSw); go_simp; first | done | with_reducible rfl); (try simp only [Act.put, List.setIfInBounds_toArray, List.set_cons_zero, List.set_cons_succ, List.getElem_toArray, List.getElem_cons_zero, List.getElem_cons_succ]))
  (refine wpAnyH_take (i := 10) (v := ?_) rfl (by kernel_rfl) (by kernel_rfl) (by kernel_rfl) (fun _ _ _ h => h) (Or.inl ⟨by rfl, ?_⟩) (by assumption) ?_; rotate_left; focus (intro w hSw; (try dsimp only at hSw); go_simp; first | done | with_reducible rfl); (try simp only [Act.put, List.setIfInBounds_toArray, List.set_cons_zero, List.set_cons_succ, List.getElem_toArray, List.getElem_cons_zero, List.getElem_cons_succ]))
  (refine wpAnyH_take (i := 11) (v := ?_) rfl (by kernel_rfl) (by kernel_rfl) (by kernel_rfl) (fun _ _ _ h => h) (Or.inl ⟨by rfl, ?_⟩) (by assumption) ?_; rotate_left; focus (intro w hSw; (try dsimp only at hSw); go_simp; first | done | with_reducible rfl); (try simp only [Act.put, List.setIfInBounds_toArray, List.set_cons_zero, List.set_cons_succ, List.getElem_toArray, List.getElem_cons_zero, List.getElem_cons_succ]))
  refine wpAnyH_done (by kernel_rfl) ?_ _
  clear hHeld
  go_wp2_with (at_builtin; go_loud (refine wpList_append_own _ rfl _ _ 34 rfl base 42 i0 (.pointer none) 1 8 Tryz.underlying34 hi hz0 hz1 hz2 rfl (by decide) _ _ _ rfl (HROW4.out.alloc _) ⟨w4.heap.size, 0, none⟩ 1 1 [.pointer (some ⟨y.L.s, 0, none⟩)] rfl rfl (cell_one_new _ _ _) (fun u hu => by simp at hu; rcases hu with rfl; rfl) (by unfold maxLen; omega) (by omega) (by simp; omega) ?_; intro v' w5 hown' hgrow hnil; obtain ⟨g', cap', rfl⟩ := ownsRow_succ hown'; have hown5 : w5.ownsRow base 42 1 (.slice (some ⟨g', 0, none⟩) (H.left.length + 1) cap') (dropH H y).left.length ((dropH H y).left.map fun y => .pointer (some ⟨y.L.s, 0, none⟩)) := (by simpa [dropH] using hown'); have HEND := Lib.hid (WorldO.pushed (H := dropH H y) hb0 HOB4.out HROW4.out HA.out hgrow hown5); have c3 := cell_of_block HEND.out.1 2; have f3 := frozen_of_block HEND.out.1 2; simp only [List.getElem?_toArray, List.getElem?_cons_zero, List.getElem?_cons_succ] at c3; clear hown' hown5 hgrow hnil c2 f2))
  go_ret2
  have t1 : Turned (worldF H x (.slice pl H.left.length cl)) w w4 := (Turned.of_below (F := worldF H x (.slice pl H.left.length cl)) HB1.out (Nat.le_refl _)).trans HT.out (fun k hk _ => .inl hk)
  exact ⟨⟨_, rfl⟩, _, HEND.out.2.1, ⟨HO.out.h, HO.out.gr, HO.out.cl, HO.out.rg, HO.out.mb, fun k hk => (HO.out.foot k hk).imp id (fun e => Nat.le_trans hsW e)⟩, t1.trans HEND.out.2.2 (fun k hk _ => .inr hk)⟩

end Go.Proofs.YtlljejmblmjjnaaGreatDoor

/- The law's Do: a slab comes back. -/
namespace Go.Proofs.YtlljejmblmjjnaaGreatDoor
set_option linter.unusedVariables false
set_option linter.unusedSimpArgs false
open Go.RowKit Go.ChangeMaps

set_option maxRecDepth 8000 in
set_option maxHeartbeats 2000000 in
theorem do6_no {w : World} {x base : Nat} {lv : Value} {H : OHL} {pages : Nat} {s : OP} (h : WorldO w x base lv H pages s) (cls at_ n pg : Int) (hl : H.left = []) :
    Calls Tryz.prog 11 #[.pointer (some ⟨x, 0, none⟩), .agg #[.int .i64 6, .int .i64 cls, .int .i64 at_, .int .i64 n, .int .i64 pg]] w fun e w' => (∃ v, e = .returned v) ∧ Below w.heap.size w w' := by
  have hrow := h.row
  rw [hl, List.length_nil] at hrow
  obtain ⟨pl, cl, rfl⟩ := own_slice2 hrow
  have HB : Hid (Below w.heap.size w (w.alloc (.cells #[.int .i64 6, .int .i64 cls, .int .i64 at_, .int .i64 n, .int .i64 pg] 31))) := (Below.refl _ _).alloc (Nat.le_refl _) _
  obtain ⟨-, -, c2⟩ := h.cells
  have c2' := cell_past HB.out (cell_lt c2) c2
  clear h hrow hl c2
  go_enter Tryz.func11, Tryz.ntmps11
  go_wp2
  go_ret2
  exact ⟨⟨_, rfl⟩, HB.out⟩

/-- The law's row of those that left, cut by one. -/
theorem WorldO.popped {w : World} {x base : Nat} {lv : Value} {g cap n : Nat} {H : OHL} {pages : Nat} {s : OP} {L0 : List OS} {y : OS} (hn : n = L0.length)
    (hob : w.heap[x]? = some (.cells #[.pointer (some ⟨H.gr, 0, none⟩), .pointer (some ⟨H.h, 0, none⟩), lv] 36 (0, 0))) (hrow : w.ownsRow base 42 1 (.slice (some ⟨g, 0, none⟩) (n + 1) cap) (n + 1) ((L0 ++ [y]).map fun y => .pointer (some ⟨y.L.s, 0, none⟩))) (hA : OHeapM w H pages s) (hL : H.left = L0) :
    WorldO ((w.setCell ⟨x, 2, none⟩ (.slice (some ⟨g, 0, none⟩) n cap)).drew) x base (.slice (some ⟨g, 0, none⟩) n cap) H pages s ∧ Turned (fun k => k = x) w ((w.setCell ⟨x, 2, none⟩ (.slice (some ⟨g, 0, none⟩) n cap)).drew) := by
  have t2 : Turned (fun k => k = x) w (w.setCell ⟨x, 2, none⟩ (.slice (some ⟨g, 0, none⟩) n cap)) := Turned.setCell (F := fun k => k = x) (p := ⟨x, 2, none⟩) (Turned.refl _ w) (.inl rfl) _
  have hrow' : w.ownsRow base 42 1 (.slice (some ⟨g, 0, none⟩) n cap) n (L0.map fun y => .pointer (some ⟨y.L.s, 0, none⟩)) := by
    obtain ⟨e, h2⟩ := hrow
    refine ⟨by simp [hn], ?_⟩
    rcases h2 with ⟨h3, -⟩ | ⟨g', cap', cur, e3, hb, hg, h1, h4, h5, h6⟩
    · cases h3
    · cases e3
      refine .inr ⟨_, _, cur, rfl, hb, hg, by omega, h4, h5, ?_⟩
      have := congrArg (List.take (n * 1)) h6
      rw [List.take_take, Nat.min_eq_left (by omega), List.map_append, List.take_append_of_le_length (by simp [hn])] at this
      rw [this, List.take_of_length_le (by simp [hn])]
  refine ⟨WorldO.below ⟨?_, ?_, ?_⟩ (Below.drew (Below.refl _ _)), t2.drew⟩
  · rw [heap_setCell_eq hob]
    rfl
  · rw [hL, ← hn]
    refine ownsRow_turned t2 hrow' fun g cs hgb e => ?_
    rw [e, hob] at hgb
    cases hgb
  · refine hA.turned t2 (fun e => ?_) (fun k hk e => hA.offT hob (by decide) (e ▸ hk))
    have e0 : x = 0 := e.symm
    have hT := hA.tab 0 (by decide)
    have h2 := cell_of_block hob 0
    rw [e0] at h2
    have h3 := h2.symm.trans hT
    simp at h3

set_option maxRecDepth 8000 in
set_option maxHeartbeats 2000000 in
theorem do6_yes {w : World} {x base : Nat} {lv : Value} {H : OHL} {pages : Nat} {s : OP} (h : WorldO w x base lv H pages s) (hb0 : 0 < base) (hbs : base ≤ w.heap.size) {y : OS} {L0 : List OS} (hL : H.left = L0 ++ [y]) (cls at_ n pg : Int) :
    Calls Tryz.prog 11 #[.pointer (some ⟨x, 0, none⟩), .agg #[.int .i64 6, .int .i64 cls, .int .i64 at_, .int .i64 n, .int .i64 pg]] w fun e w' => (∃ v, e = .returned v) ∧ ∃ lv' H', WorldO w' x base lv' H' pages (joinO s y.x) ∧ H.Of H' w.heap.size ∧ Turned (worldF H x lv) w w' := by
  have hll := h.heap.left_le
  have hrow := h.row
  obtain ⟨n0, hn0⟩ : ∃ n0, n0 = L0.length := ⟨_, rfl⟩
  rw [hL, List.length_append, List.length_singleton, ← hn0] at hrow
  rw [hL, List.length_append, List.length_singleton, ← hn0] at hll
  obtain ⟨g, cap, rfl, hgb, hgc, hgo, hgl, hcl⟩ := own_cells hrow (by omega)
  have hcy : w.cell? ⟨g, n0, none⟩ = some (.pointer (some ⟨y.L.s, 0, none⟩)) := by
    rw [hcl n0 (by omega), List.getElem?_map, List.getElem?_append_right (by omega), hn0, Nat.sub_self]
    rfl
  have HROW := Lib.hid hrow
  have HLE := Lib.hid hL
  have HN0 := Lib.hid hn0
  obtain ⟨-, cx1, cx2⟩ := h.cells
  have hxl := cell_lt cx1
  obtain ⟨W1, hW1⟩ : ∃ W1, W1 = w.alloc (.cells #[.int .i64 6, .int .i64 cls, .int .i64 at_, .int .i64 n, .int .i64 pg] 31) := ⟨_, rfl⟩
  have hb1 : Below w.heap.size w W1 := by rw [hW1]; exact (Below.refl _ _).alloc (Nat.le_refl _) _
  have HB1 := Lib.hid hb1
  have x1 := cell_past hb1 hxl cx1
  have x2 := cell_past hb1 hxl cx2
  have y0 := cell_past hb1 hgl hcy
  have HLT := Lib.hid h
  have hw1 : IntKind.i64.wrap (((n0 + 1 : Nat) : Int) - 1) = (n0 : Int) := by rw [IntKind.wrap_i64]; omega
  have hnz : (((n0 + 1 : Nat) : Int) == 0) = false := by simp; omega
  have hi1 : (0 : Int) ≤ (n0 : Int) ∧ (n0 : Int) < ((n0 + 1 : Nat) : Int) := by omega
  have hi2 : n0 < n0 + 1 := by omega
  clear h hrow hL hn0 hcl hcy cx1 cx2 hb1
  go_enter Tryz.func11, Tryz.ntmps11
  go_upto_region 19 with (fail)
  rw [← hW1]
  clear hW1
  go_upto_region 21 with (fail)
  (refine wp_region_quiet_tail_ext 16 (by kernel_rfl) (by kernel_rfl) ?_; simp only [List.take_succ_cons, List.take_zero, List.drop_succ_cons, List.drop_zero])
  ((repeat (first | go_big_quiet_step ((fail)) | quiet_step ((fail)))); refine wpQuiet_nil ?_; intro w3 hw3; obtain hb3 := below_of_ext hw3; clear hw3; have hz3 := hb3.size; (try simp at hz3))
  have hsW := HB1.out.size
  have HB3 := Lib.hid (Below.via hb3 hsW HB1.out)
  clear hb3 x1 y0 x2
  have h3 := HLT.out.below HB3.out
  have HC := hjoinO_yes h3.heap HLE.out
  have HH3 := Lib.hid h3
  have HC := Lib.hid HC
  clear h3
  go_wp2_with (fail)
  refine HC.out.mono ?_
  rintro e w4 ⟨rfl, H', q1, q2, q3, q4, q5, q6⟩
  have hoffx : ¬ H.F x := HH3.out.heap.offT HH3.out.obj (by decide)
  have hob4 : w4.heap[x]? = some (.cells #[.pointer (some ⟨H'.gr, 0, none⟩), .pointer (some ⟨H'.h, 0, none⟩), .slice (some ⟨g, 0, none⟩) (n0 + 1) cap] 36 (0, 0)) := by
    rw [q5.gr, q5.h]
    exact (q6.block _ (lt_of_block HH3.out.obj) hoffx).trans HH3.out.obj
  have hrow4 : w4.ownsRow base 42 1 (.slice (some ⟨g, 0, none⟩) (n0 + 1) cap) (n0 + 1) ((L0 ++ [y]).map fun y => .pointer (some ⟨y.L.s, 0, none⟩)) := ownsRow_turned q6 (rowI_below HB3.out HROW.out) fun g cs hg => HH3.out.heap.offT hg (by decide)
  have HEND := Lib.hid (WorldO.popped HN0.out hob4 hrow4 q4 q1)
  have HO := Lib.hid q5
  have HT := Lib.hid q6
  have c2 := cell_of_block hob4 2
  have f2 := frozen_of_block hob4 2
  simp only [List.getElem?_toArray, List.getElem?_cons_zero, List.getElem?_cons_succ] at c2
  clear q1 q2 q3 q4 q5 q6 hob4 hrow4
  go_upto_region 23 with (fail)
  go_region
  go_wp2
  go_ret2
  have t1 : Turned (worldF H x (.slice (some ⟨g, 0, none⟩) (n0 + 1) cap)) w w4 := (Turned.of_below (F := worldF H x (.slice (some ⟨g, 0, none⟩) (n0 + 1) cap)) HB3.out (Nat.le_refl _)).trans HT.out (fun k hk _ => .inl hk)
  exact ⟨⟨_, rfl⟩, _, H', HEND.out.1, ⟨HO.out.h, HO.out.gr, HO.out.cl, HO.out.rg, HO.out.mb, fun k hk => (HO.out.foot k hk).imp id (fun e => Nat.le_trans HB3.out.size e)⟩, t1.trans HEND.out.2 (fun k hk _ => .inr (.inl hk))⟩

end Go.Proofs.YtlljejmblmjjnaaGreatDoor

/- The law's Do: another hand opens a large span. -/
namespace Go.Proofs.YtlljejmblmjjnaaGreatDoor
set_option linter.unusedVariables false
set_option linter.unusedSimpArgs false
open Go.RowKit Go.ChangeMaps

theorem WorldO.turnedH {w w' : World} {x base : Nat} {lv : Value} {H H' : OHL} {pages : Nat} {s s' : OP} (h : WorldO w x base lv H pages s) (t : Turned H.F w w') (hA : OHeapM w' H' pages s') (hl : H'.left = H.left) (hgr : H'.gr = H.gr) (hh : H'.h = H.h) : WorldO w' x base lv H' pages s' := by
  refine ⟨?_, ?_, hA⟩
  · rw [hgr, hh]
    exact (t.block _ (lt_of_block h.obj) (h.heap.offT h.obj (by decide))).trans h.obj
  · rw [hl]
    exact ownsRow_turned t h.row fun g cs hg => h.heap.offT hg (by decide)
/-- The ground has turned beside the slabs. -/
def GroundAny (w : World) (H : OHL) (pages : Nat) (s : OP) (w' : World) : Prop := ∃ (H' : OHL) (s' : OP), H'.left = H.left ∧ OHeapM w' H' pages s' ∧ OInv pages s' ∧ H.Of H' w.heap.size ∧ Turned H.F w w'
theorem GroundAny.stay {w w' : World} {H : OHL} {pages : Nat} {s : OP} (h : OHeapM w H pages s) (hI : OInv pages s) (hb : Below w.heap.size w w') : GroundAny w H pages s w' :=
  ⟨H, s, rfl, h.below hb, hI, OHL.Of.refl _ _, Turned.of_below hb (Nat.le_refl _)⟩
theorem mapF_sub {H : OHL} {w w' : World} (t : Turned H.p.F w w') : Turned H.F w w' := t.mono fun k hk _ => .inr (.inr (.inr (.inr (.inr (.inl hk)))))

theorem openL_any {w : World} {H : OHL} {pages : Nat} {s : OP} (h : OHeapM w H pages s) (hI : OInv pages s) (n : Int) :
    Calls Tryz.prog 40 #[.pointer (some ⟨H.gr, 0, none⟩), .int .i64 n, .int .i64 1, .int .i64 2, .int .i64 0] w fun e w' => (∃ a b, e = .returned (.tuple #[.int .i64 a, .int .i64 b])) ∧ GroundAny w H pages s w' := by
  by_cases hn : n < 1
  · refine (gOpen_range H.gr H.cl pages H.b 0 H.c n 1 2 0 H.p s.l H.E w h.ground hn (by decide) (by decide)).mono ?_
    rintro e w' ⟨⟨z, rfl⟩, rfl⟩
    exact ⟨⟨_, _, rfl⟩, .stay h hI (Below.refl _ _)⟩
  · obtain ⟨m, rfl⟩ : ∃ m : Nat, n = m := ⟨n.toNat, by omega⟩
    have hm : 1 ≤ m := by omega
    cases hp : placeR m 1 s.l with
    | none =>
      refine (gOpen_noA H.gr H.cl pages H.b 0 H.c m 1 2 0 H.p s.l H.E w h.ground ⟨0, by decide, rfl⟩ hm (by decide) (by decide) hp).mono ?_
      rintro e w' ⟨rfl, hb⟩
      exact ⟨⟨_, _, rfl⟩, .stay h hI hb⟩
    | some k =>
      obtain ⟨hkl, r, hr, -⟩ := placeR_spec hp
      obtain ⟨ht, hfit⟩ := placeR_freeA hp hr
      have hfr := free_take (al := 1) hr ht hm (by decide) hfit
      have hnum := h.num
      refine (gOpen_yes H.gr H.cl pages H.b 0 H.c m 1 2 0 k H.p s.l H.E r w h.ground ⟨0, by decide, rfl⟩ hm (by decide) (by decide) hp hr (by omega)).mono ?_
      rintro e w' ⟨rfl, p', hg, hpf, t⟩
      obtain ⟨H', q1, q2, q3⟩ := h.large hm hp hr t hg hpf
      have hbase := h.base
      obtain ⟨-, -, -, o4⟩ := EntO.open (n := m) (v := 2) (cls := 0) h.base h.ent hr ht hm 1 (by decide) hfit 0 (by
        have h1 := h.ground.map.most
        have h2 := h.ground.map.len
        have h3 := h.base.tile.bounds _ (List.mem_of_getElem? hr)
        omega)
      exact ⟨⟨_, _, rfl⟩, H', _, q1, q2, hI.relay q2.base.tile (fun x hx => o4 _ (hI.tk x hx) rfl), q3, mapF_sub t⟩

set_option maxRecDepth 8000 in
set_option maxHeartbeats 2000000 in
theorem do7_any {w : World} {x base : Nat} {lv : Value} {H : OHL} {pages : Nat} {s : OP} (h : WorldO w x base lv H pages s) (hI : OInv pages s) (cls at_ n pg : Int) :
    Calls Tryz.prog 11 #[.pointer (some ⟨x, 0, none⟩), .agg #[.int .i64 7, .int .i64 cls, .int .i64 at_, .int .i64 n, .int .i64 pg]] w fun e w' => (∃ v, e = .returned v) ∧ ∃ H' s', WorldO w' x base lv H' pages s' ∧ OInv pages s' ∧ H.Of H' w.heap.size ∧ Turned H.F w w' := by
  obtain ⟨cx, -, -⟩ := h.cells
  have hxl := cell_lt cx
  obtain ⟨W1, hW1⟩ : ∃ W1, W1 = w.alloc (.cells #[.int .i64 7, .int .i64 cls, .int .i64 at_, .int .i64 n, .int .i64 pg] 31) := ⟨_, rfl⟩
  have hb1 : Below w.heap.size w W1 := by rw [hW1]; exact (Below.refl _ _).alloc (Nat.le_refl _) _
  have hbox : W1.heap[w.heap.size]? = some (.cells #[.int .i64 7, .int .i64 cls, .int .i64 at_, .int .i64 n, .int .i64 pg] 31 (0, 0)) := by rw [hW1]; exact heap_alloc_new _ _
  have x0 : W1.cell? ⟨x, 0, none⟩ = some (.pointer (some ⟨H.gr, 0, none⟩)) := cell_past hb1 hxl cx
  have q3 := cell_of_block hbox 3
  simp only [List.getElem?_toArray, List.getElem?_cons_zero, List.getElem?_cons_succ] at q3
  have HB1 := Lib.hid hb1
  have HBX := Lib.hid hbox
  have HLT := Lib.hid h
  have HII := Lib.hid hI
  clear h hb1 hI cx hbox
  go_enter Tryz.func11, Tryz.ntmps11
  go_upto_region 26 with (fail)
  rw [← hW1]
  clear hW1
  have h3 := HLT.out.below HB1.out
  have h3d := h3.below (Below.drew (Below.refl _ W1))
  have hoffx : ¬ H.F x := h3.heap.offT h3.obj (by decide)
  have hoffb : ¬ H.F w.heap.size := h3.heap.offT HBX.out (by decide)
  have HOFF := Lib.hid (And.intro hoffx hoffb)
  have HC := Lib.hid (openL_any h3d.heap HII.out n)
  have H3 := Lib.hid h3d
  clear h3 h3d hoffx hoffb
  refine wp_region_held_drew (S := fun W : World => W.cell? ⟨x, 0, none⟩ = some (.pointer (some ⟨H.gr, 0, none⟩)) ∧ W.cell? ⟨w.heap.size, 3, none⟩ = some (.int .i64 n)) (by kernel_rfl) (by exact ⟨x0, q3⟩) (fun hHeld0 => ?_)
  (refine wpAnyH_take (i := 0) (v := ?_) rfl (by kernel_rfl) (by kernel_rfl) (by kernel_rfl) (fun _ _ _ h => h) (Or.inl ⟨by rfl, ?_⟩) (by assumption) ?_; rotate_left; focus (intro w hSw; (try dsimp only at hSw); go_simp; first | done | with_reducible rfl); (try simp only [Act.put, List.setIfInBounds_toArray, List.set_cons_zero, List.set_cons_succ, List.getElem_toArray, List.getElem_cons_zero, List.getElem_cons_succ]))
  (refine wpAnyH_take (i := 1) (v := ?_) rfl (by kernel_rfl) (by kernel_rfl) (by kernel_rfl) (fun _ _ _ h => h) (Or.inl ⟨by rfl, ?_⟩) (by assumption) ?_; rotate_left; focus (intro w hSw; (try dsimp only at hSw); go_simp; first | done | with_reducible rfl); (try simp only [Act.put, List.setIfInBounds_toArray, List.set_cons_zero, List.set_cons_succ, List.getElem_toArray, List.getElem_cons_zero, List.getElem_cons_succ]))
  (refine wpAnyH_take (i := 2) (v := ?_) rfl (by kernel_rfl) (by kernel_rfl) (by kernel_rfl) (fun _ _ _ h => h) (Or.inl ⟨by rfl, ?_⟩) (by assumption) ?_; rotate_left; focus (intro w hSw; (try dsimp only at hSw); go_simp; first | done | with_reducible rfl); (try simp only [Act.put, List.setIfInBounds_toArray, List.set_cons_zero, List.set_cons_succ, List.getElem_toArray, List.getElem_cons_zero, List.getElem_cons_succ]))
  (refine wpAnyH_take (i := 3) (v := ?_) rfl (by kernel_rfl) (by kernel_rfl) (by kernel_rfl) (fun _ _ _ h => h) (Or.inl ⟨by rfl, ?_⟩) (by assumption) ?_; rotate_left; focus (intro w hSw; (try dsimp only at hSw); go_simp; first | done | with_reducible rfl); (try simp only [Act.put, List.setIfInBounds_toArray, List.set_cons_zero, List.set_cons_succ, List.getElem_toArray, List.getElem_cons_zero, List.getElem_cons_succ]))
  (refine wpAnyH_take (i := 4) (v := ?_) rfl (by kernel_rfl) (by kernel_rfl) (by kernel_rfl) (fun _ _ _ h => h) (Or.inl ⟨by rfl, ?_⟩) (by assumption) ?_; rotate_left; focus (intro w hSw; (try dsimp only at hSw); go_simp; first | done | with_reducible rfl); (try simp only [Act.put, List.setIfInBounds_toArray, List.set_cons_zero, List.set_cons_succ, List.getElem_toArray, List.getElem_cons_zero, List.getElem_cons_succ]))
  (refine wpAnyH_take (i := 5) (v := ?_) rfl (by kernel_rfl) (by kernel_rfl) (by kernel_rfl) (fun _ _ _ h => h) (Or.inl ⟨by rfl, ?_⟩) (by assumption) ?_; rotate_left; focus (intro w hSw; (try dsimp only at hSw); go_simp; first | done | with_reducible rfl); (try simp only [Act.put, List.setIfInBounds_toArray, List.set_cons_zero, List.set_cons_succ, List.getElem_toArray, List.getElem_cons_zero, List.getElem_cons_succ]))
  (refine wpAnyH_ready (rs := [6]) (by kernel_rfl) (by simp) ?_; refine AllReadyH.cons rfl (fun K hK => ?_) AllReadyH.nil; go_simp)
  go_wp2_with (fail)
  refine HC.out.mono ?_
  rintro e w4 ⟨⟨a, b, rfl⟩, H', s', q1, q2, q3', q4, q5⟩
  have htt : Turned H.F W1 w4 := (Turned.of_below (F := H.F) (Below.drew (Below.refl _ W1)) (Nat.le_refl _)).trans q5 (fun _ h _ => h)
  have HO := Lib.hid q4
  have HT := Lib.hid htt
  have HI4 := Lib.hid q3'
  have HW := Lib.hid (H3.out.turnedH q5 q2 q1 q4.gr q4.h)
  refine hK.out _ _ ⟨turned_cell htt HOFF.out.1 x0, turned_cell htt HOFF.out.2 q3⟩ (fun hHeld => ?_)
  clear hK K hHeld0
  (try simp only [Act.put, List.setIfInBounds_toArray, List.set_cons_zero, List.set_cons_succ, List.getElem_toArray, List.getElem_cons_zero, List.getElem_cons_succ])
  clear q1 q2 q3 q3' q4 q5 htt x0
  (refine wpAnyH_take (i := 7) (v := ?_) rfl (by kernel_rfl) (by kernel_rfl) (by kernel_rfl) (fun _ _ _ h => h) (Or.inl ⟨by rfl, ?_⟩) (by assumption) ?_; rotate_left; focus (intro w hSw; (try dsimp only at hSw); go_simp; first | done | with_reducible rfl); (try simp only [Act.put, List.setIfInBounds_toArray, List.set_cons_zero, List.set_cons_succ, List.getElem_toArray, List.getElem_cons_zero, List.getElem_cons_succ]))
  (refine wpAnyH_take (i := 8) (v := ?_) rfl (by kernel_rfl) (by kernel_rfl) (by kernel_rfl) (fun _ _ _ h => h) (Or.inl ⟨by rfl, ?_⟩) (by assumption) ?_; rotate_left; focus (intro w hSw; (try dsimp only at hSw); go_simp; first | done | with_reducible rfl); (try simp only [Act.put, List.setIfInBounds_toArray, List.set_cons_zero, List.set_cons_succ, List.getElem_toArray, List.getElem_cons_zero, List.getElem_cons_succ]))
  (refine wpAnyH_take (i := 9) (v := ?_) rfl (by kernel_rfl) (by kernel_rfl) (by kernel_rfl) (fun _ _ _ h => h) (Or.inl ⟨by rfl, ?_⟩) (by assumption) ?_; rotate_left; focus (intro w hSw; (try dsimp only at hSw); go_simp; first | done | with_reducible rfl); (try simp only [Act.put, List.setIfInBounds_toArray, List.set_cons_zero, List.set_cons_succ, List.getElem_toArray, List.getElem_cons_zero, List.getElem_cons_succ]))
  (refine wpAnyH_take (i := 10) (v := ?_) rfl (by kernel_rfl) (by kernel_rfl) (by kernel_rfl) (fun _ _ _ h => h) (Or.inl ⟨by rfl, ?_⟩) (by assumption) ?_; rotate_left; focus (intro w hSw; (try dsimp only at hSw); go_simp; first | done | with_reducible rfl); (try simp only [Act.put, List.setIfInBounds_toArray, List.set_cons_zero, List.set_cons_succ, List.getElem_toArray, List.getElem_cons_zero, List.getElem_cons_succ]))
  (refine wpAnyH_take (i := 11) (v := ?_) rfl (by kernel_rfl) (by kernel_rfl) (by kernel_rfl) (fun _ _ _ h => h) (Or.inl ⟨by rfl, ?_⟩) (by assumption) ?_; rotate_left; focus (intro w hSw; (try dsimp only at hSw); go_simp; first | done | with_reducible rfl); (try simp only [Act.put, List.setIfInBounds_toArray, List.set_cons_zero, List.set_cons_succ, List.getElem_toArray, List.getElem_cons_zero, List.getElem_cons_succ]))
  refine wpAnyH_done (by kernel_rfl) ?_ _
  clear hHeld
  go_wp2
  go_ret2
  have hb : Below w4.heap.size w4 (w4.alloc (.cells #[.int .i64 a] 3)) := (Below.refl _ _).alloc (Nat.le_refl _) _
  exact ⟨⟨_, rfl⟩, H', s', HW.out.below hb, HI4.out, ⟨HO.out.h, HO.out.gr, HO.out.cl, HO.out.rg, HO.out.mb, fun k hk => (HO.out.foot k hk).imp id (fun e => Nat.le_trans HB1.out.size e)⟩,
    ((Turned.of_below (F := H.F) HB1.out (Nat.le_refl _)).trans HT.out (fun _ h _ => h)).trans (Turned.of_below (F := H.F) hb (Nat.le_refl _)) (fun _ h _ => h)⟩

end Go.Proofs.YtlljejmblmjjnaaGreatDoor
