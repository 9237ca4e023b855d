/- oldheap: small readers. -/
import Derived.Test.YtlljejmblmjjnaaGreatDoorKA
import Derived.WalkKit
import Derived.WalkSpells
import Derived.WalkLawsBesides
import Derived.BigQuiet
import Derived.Lib.Hide
import Derived.Laws.AppendOwn
namespace Go.Proofs.YtlljejmblmjjnaaGreatDoor
set_option linter.unusedVariables false
set_option linter.unusedSimpArgs false
open Go.RowKit Go.ChangeMaps

set_option maxRecDepth 8000 in
set_option maxHeartbeats 1000000 in
theorem opage_any {w : World} {L : OL} {x : PO} (h : OSlabAt w L x.O) : Calls Tryz.prog 70 #[.pointer (some ⟨L.s, 0, none⟩)] w fun e w' => e = .returned (.int .i64 x.page) ∧ w = w' := by
  have HB : Hid (Calls Tryz.prog 18 #[.pointer (some ⟨L.s, 0, none⟩)] w fun e w' => e = .returned (.int .i64 ((256 * x.page : Nat) : Int)) ∧ w = w') := obase_any h
  have hsh : ((256 * x.page : Nat) : Int) / 256 = (x.page : Int) := by omega
  clear h
  generalize ((256 * x.page : Nat) : Int) = b at *
  go_enter Tryz.func70, Tryz.ntmps70
  go_wp2_with (fail)
  refine HB.out.mono ?_
  rintro e w1 ⟨rfl, rfl⟩
  go_wp2
  go_ret
  exact ⟨rfl, rfl⟩
set_option maxHeartbeats 400000 in
theorem oitem_any (p : Nat) (hp : p ≤ 1048576) (w : World) : Calls Tryz.prog 106 #[.int .i64 p] w fun e w' => e = .returned (.int .i64 ((p / 4 : Nat) : Int)) ∧ w = w' := by
  have hq : IntKind.i64.wrap (Int.tdiv (p : Int) 4) = ((p / 4 : Nat) : Int) := by
    rw [Int.tdiv_eq_ediv_of_nonneg (by omega), IntKind.wrap_i64]
    omega
  go_enter Tryz.func106, Tryz.ntmps106
  go_wp2
  go_ret
  exact ⟨rfl, rfl⟩
set_option maxHeartbeats 400000 in
theorem onumber_any (c k : Nat) (hc : c ≤ 1024) (hk : k ≤ 1024) (w : World) : Calls Tryz.prog 46 #[.int .i64 c, .int .i64 k] w fun e w' => e = .returned (.int .i64 ((4 * c + k : Nat) : Int)) ∧ w = w' := by
  have h1 : IntKind.i64.wrap ((c : Int) * 4) = (c : Int) * 4 := by rw [IntKind.wrap_i64]; omega
  have h2 : IntKind.i64.wrap ((c : Int) * 4 + (k : Int)) = ((4 * c + k : Nat) : Int) := by rw [IntKind.wrap_i64]; omega
  go_enter Tryz.func46, Tryz.ntmps46
  go_wp2
  go_ret
  exact ⟨rfl, rfl⟩
set_option maxRecDepth 8000 in
set_option maxHeartbeats 1000000 in
theorem oof_any {w : World} {L : OL} {S : OM} (h : OSlabAt w L S) : Calls Tryz.prog 64 #[.pointer (some ⟨L.s, 0, none⟩)] w fun e w' => e = .returned (.int .i64 (ofO S : Nat)) ∧ w = w' := by
  have HS := Lib.hid (ostate_any h)
  have ho : ofO S = if stateO S = 0 then 2 else if stateO S = 2 then 1 else 0 := rfl
  clear h
  generalize ofO S = o at *
  generalize stateO S = st at *
  by_cases h0 : st = 0
  · have HO : Hid (o = 2) := by show _ = _; rw [ho, if_pos h0]
    subst h0
    clear ho
    go_enter Tryz.func64, Tryz.ntmps64
    go_wp2_with (fail)
    refine HS.out.mono ?_
    rintro e w1 ⟨rfl, rfl⟩
    go_wp2
    go_ret
    exact ⟨by rw [HO.out]; rfl, rfl⟩
  · have h0i : ¬ (st : Int) = 0 := by omega
    have h0b : ((st : Int) == 0) = false := beq_eq_false_iff_ne.2 h0i
    by_cases h2 : st = 2
    · have HO : Hid (o = 1) := by show _ = _; rw [ho, if_neg h0, if_pos h2]
      subst h2
      clear ho h0
      go_enter Tryz.func64, Tryz.ntmps64
      go_wp2_with (fail)
      refine HS.out.mono ?_
      rintro e w1 ⟨rfl, rfl⟩
      go_wp2
      go_ret
      exact ⟨by rw [HO.out]; rfl, rfl⟩
    · have HO : Hid (o = 0) := by show _ = _; rw [ho, if_neg h0, if_neg h2]
      have h2i : ¬ (st : Int) = 2 := by omega
      have h2b : ((st : Int) == 2) = false := beq_eq_false_iff_ne.2 h2i
      clear ho h0 h2
      go_enter Tryz.func64, Tryz.ntmps64
      go_wp2_with (fail)
      refine HS.out.mono ?_
      rintro e w1 ⟨rfl, rfl⟩
      go_wp2
      go_ret
      exact ⟨by rw [HO.out]; rfl, rfl⟩
def clsOkA (c : Int) : Bool := decide (0 ≤ c ∧ c < 16)
set_option maxRecDepth 8000 in
set_option maxHeartbeats 1000000 in
theorem oright_any (c : Int) (w : World) : Calls Tryz.prog 44 #[.int .i64 c] w fun e w' => e = .returned (.bool (clsOkA c)) ∧ Below w.heap.size w w' := by
  have HF := Lib.hid (asize_any c w)
  have hb : clsOkA c = decide (0 < sizeA c) := by
    unfold clsOkA sizeA
    by_cases hc : 0 ≤ c ∧ c < 16
    · have := (szA_all c.toNat (by omega)).1
      rw [if_pos hc]
      simp [hc]
      omega
    · rw [if_neg hc]
      simp [hc]
  rw [hb]
  clear hb
  generalize sizeA c = n at *
  go_enter Tryz.func44, Tryz.ntmps44
  go_wp2_with (fail)
  refine HF.out.mono ?_
  rintro e w1 ⟨rfl, hb⟩
  have HB := Lib.hid hb
  clear hb
  go_wp2
  go_ret
  exact ⟨ret_bool (by simp), HB.out⟩

/-- Is a slab's item in a list of its class? -/
def inB (R : Nat → List Nat) (x : PO) (k : Nat) : Bool := decide (x.item ∈ R (4 * x.cls + k))
set_option maxRecDepth 8000 in
set_option maxHeartbeats 2000000 in
theorem oin_any {w : World} {H : OHL} {pages : Nat} {s : OP} (h : OHeapM w H pages s) {y : OS} (hy : y ∈ H.xs) (k : Nat) (hk : k < 4) :
    Calls Tryz.prog 56 #[.pointer (some ⟨H.h, 0, none⟩), .pointer (some ⟨y.L.s, 0, none⟩), .int .i64 k] w fun e w' => e = .returned (.bool (inB s.R y.x k)) ∧ Below w.heap.size w w' := by
  obtain ⟨-, -, c2⟩ := h.hcells
  have hok := h.ok hy
  have hpm := h.ground.map.most
  have hc := hok.cls
  have hf := hok.fits
  have hal := hok.al
  have HPG : Hid (∀ W, Below w.heap.size w W → Calls Tryz.prog 70 #[.pointer (some ⟨y.L.s, 0, none⟩)] W fun e w' => e = .returned (.int .i64 y.x.page) ∧ W = w') := fun W hW => opage_any ((h.slab hy).below hW)
  have HCL : Hid (∀ W, Below w.heap.size w W → Calls Tryz.prog 13 #[.pointer (some ⟨y.L.s, 0, none⟩)] W fun e w' => e = .returned (.int .i64 y.x.cls) ∧ W = w') := fun W hW => oclass_any ((h.slab hy).below hW)
  have HIT := Lib.hid (fun W => oitem_any y.x.page (by omega) W)
  have HNB := Lib.hid (fun W => onumber_any y.x.cls k (by omega) (by omega) W)
  have hin : ∃ z : Int, inB s.R y.x k = (z == ((4 * y.x.cls + k : Nat) : Int)) ∧ ∀ W, Below w.heap.size w W → Calls Tryz.prog 105 #[.pointer (some ⟨H.rg, 0, none⟩), .int .i64 ((y.x.page / 4 : Nat) : Int)] W fun e w' => e = .returned (.int .i64 z) ∧ W = w' := by
    obtain ⟨it, ls, a, b, c, d⟩ := h.ring
    have hi : y.x.item < it.length := by rw [c]; show y.x.page / 4 < pages / 4; omega
    refine ⟨it[y.x.item].a, ?_, fun W hW => rin_yes (a.below hW) y.x.item hi⟩
    have := b.mem_iff (k := 4 * y.x.cls + k) hi (by omega)
    unfold inB
    by_cases hm : y.x.item ∈ s.R (4 * y.x.cls + k)
    · rw [decide_eq_true hm, this.2 hm]
      exact (beq_self_eq_true _).symm
    · rw [decide_eq_false hm]
      symm
      rw [beq_eq_false_iff_ne]
      exact fun e => hm (this.1 e)
  obtain ⟨z, hz, hin⟩ := hin
  have HIN := Lib.hid hin
  rw [hz]
  clear h hin hz hok hc hf hal hpm hy
  generalize ((4 * y.x.cls + k : Nat) : Int) = q at *
  generalize ((y.x.page / 4 : Nat) : Int) = i at *
  generalize (y.x.page : Int) = p at *
  generalize (y.x.cls : Int) = c at *
  go_enter Tryz.func56, Tryz.ntmps56
  go_upto_region 1 with (fail)
  (refine wp_region_quiet_ext (by kernel_rfl) (by kernel_rfl) ?_; (repeat (first | go_big_quiet_step (((first | (go_at_call 70; exact Calls.ext_same (HPG.out _ (below_ext _ _))) | (go_at_call 106; exact Calls.ext_same (HIT.out _)) | (go_at_call 105; exact Calls.ext_same (HIN.out _ (below_ext _ _))) | (go_at_call 13; exact Calls.ext_same (HCL.out _ (below_ext _ _))) | (go_at_call 46; exact Calls.ext_same (HNB.out _))))) | quiet_step (((first | (go_at_call 70; exact Calls.ext_same (HPG.out _ (below_ext _ _))) | (go_at_call 106; exact Calls.ext_same (HIT.out _)) | (go_at_call 105; exact Calls.ext_same (HIN.out _ (below_ext _ _))) | (go_at_call 13; exact Calls.ext_same (HCL.out _ (below_ext _ _))) | (go_at_call 46; exact Calls.ext_same (HNB.out _))))))); refine wpQuiet_nil ?_; intro w3 hw3; obtain hb3 := below_of_ext hw3; clear hw3; obtain ⟨hc3, hf3⟩ := bcell hb3; have hz3 := hb3.size; (try simp at hz3))
  have HB3 := Lib.hid hb3
  clear hc3 hf3 hb3
  go_wp2
  go_ret
  exact ⟨rfl, HB3.out⟩

end Go.Proofs.YtlljejmblmjjnaaGreatDoor

/- oldheap: front, settle. -/
namespace Go.Proofs.YtlljejmblmjjnaaGreatDoor
set_option linter.unusedVariables false
set_option linter.unusedSimpArgs false
open Go.RowKit Go.ChangeMaps

/-- The lists have turned. -/
def RingPost (w : World) (H : OHL) (pages : Nat) (s : OP) (R' : Nat → List Nat) (e : Ending) (w' : World) : Prop :=
  e = .returned (.tuple #[]) ∧ OHeapM w' H pages ⟨s.l, s.A, R'⟩ ∧ Turned (ringF H.ib H.lb) w w'

set_option maxRecDepth 8000 in
set_option maxHeartbeats 2000000 in
theorem ofront_any {w : World} {H : OHL} {pages : Nat} {s : OP} (h : OHeapM w H pages s) {y : OS} (hy : y ∈ H.xs) (k : Nat) (hk : k < 4) :
    Calls Tryz.prog 62 #[.pointer (some ⟨H.h, 0, none⟩), .pointer (some ⟨y.L.s, 0, none⟩), .int .i64 k] w (RingPost w H pages s (frontR s.R y.x.item (4 * y.x.cls + k))) := by
  obtain ⟨-, -, c2⟩ := h.hcells
  have hok := h.ok hy
  have hpm := h.ground.map.most
  have hc := hok.cls
  have hf := hok.fits
  have hal := hok.al
  have hil : y.x.item < pages / 4 := by show y.x.page / 4 < pages / 4; omega
  have HPG : Hid (∀ W, OSlabAt W y.L y.x.O → Calls Tryz.prog 70 #[.pointer (some ⟨y.L.s, 0, none⟩)] W fun e w' => e = .returned (.int .i64 y.x.page) ∧ W = w') := fun W hW => opage_any hW
  have HCL : Hid (∀ W, OSlabAt W y.L y.x.O → Calls Tryz.prog 13 #[.pointer (some ⟨y.L.s, 0, none⟩)] W fun e w' => e = .returned (.int .i64 y.x.cls) ∧ W = w') := fun W hW => oclass_any hW
  have HIT : Hid (∀ W, Calls Tryz.prog 106 #[.int .i64 y.x.page] W fun e w' => e = .returned (.int .i64 (y.x.item : Nat)) ∧ W = w') := fun W => oitem_any y.x.page (by omega) W
  have HNB := Lib.hid (fun W => onumber_any y.x.cls k (by omega) (by omega) W)
  have hnum : 4 * y.x.cls + k < 64 := by omega
  have hn64 := fun m (hm : m < 64) => h.ring.nodup hm
  have HREM : Hid (∀ W, Below w.heap.size w W → Calls Tryz.prog 108 #[.pointer (some ⟨H.rg, 0, none⟩), .int .i64 (y.x.item : Nat)] W fun e w' => (∃ z : Int, e = .returned (.int .i64 z)) ∧ OHeapM w' H pages ⟨s.l, s.A, delR s.R y.x.item⟩ ∧ Turned (ringF H.ib H.lb) W w') := fun W hW => by
    refine (rgRemove (h.ring.below hW) y.x.item hil).mono ?_
    rintro e w' ⟨hz, hr, ht⟩
    exact ⟨hz, (h.below hW).ringTurn ht hr, ht⟩
  have HPU : Hid (∀ W, OHeapM W H pages ⟨s.l, s.A, delR s.R y.x.item⟩ → Calls Tryz.prog 109 #[.pointer (some ⟨H.rg, 0, none⟩), .int .i64 ((4 * y.x.cls + k : Nat) : Int), .int .i64 (y.x.item : Nat)] W fun e w' => e = .returned (.int .i64 0) ∧ OHeapM w' H pages ⟨s.l, s.A, frontR s.R y.x.item (4 * y.x.cls + k)⟩ ∧ Turned (ringF H.ib H.lb) W w') := fun W hW => by
    refine (rgPush hW.ring (4 * y.x.cls + k) y.x.item hnum hil fun m hm hh => ((delR_mem hn64 hm).1 hh).1 rfl).mono ?_
    rintro e w' ⟨rfl, hr, ht⟩
    exact ⟨rfl, hW.ringTurn ht hr, ht⟩
  have HH := Lib.hid h
  have HY := Lib.hid hy
  have hhl := cell_lt c2
  clear h hok hc hf hal hpm hy hnum hil hn64
  generalize frontR s.R y.x.item (4 * y.x.cls + k) = R' at *
  generalize delR s.R y.x.item = R1 at *
  generalize ((4 * y.x.cls + k : Nat) : Int) = q at *
  generalize (y.x.item : Int) = i at *
  generalize (y.x.page : Int) = p at *
  generalize (y.x.cls : Int) = c at *
  go_enter Tryz.func62, Tryz.ntmps62
  go_upto_region 0 with (fail)
  (refine wp_region_quiet_tail_ext 7 (by kernel_rfl) (by kernel_rfl) ?_; simp only [List.take_succ_cons, List.take_zero, List.drop_succ_cons, List.drop_zero])
  ((repeat (first | go_big_quiet_step (((first | (go_at_call 70; exact Calls.ext_same (HPG.out _ ((HH.out.below (below_ext _ _)).slab HY.out))) | (go_at_call 106; exact Calls.ext_same (HIT.out _))))) | quiet_step (((first | (go_at_call 70; exact Calls.ext_same (HPG.out _ ((HH.out.below (below_ext _ _)).slab HY.out))) | (go_at_call 106; exact Calls.ext_same (HIT.out _))))))); refine wpQuiet_nil ?_; intro w3 hw3; obtain hb3 := below_of_ext hw3; clear hw3; have hz3 := hb3.size; (try simp at hz3))
  have HB3 := Lib.hid hb3
  clear hb3
  go_wp2_with (fail)
  refine (HREM.out _ HB3.out).mono ?_
  rintro e w4 ⟨⟨z, rfl⟩, h4, t4⟩
  have HT4 : Hid (Turned (ringF H.ib H.lb) w w4) := (Turned.of_below (F := ringF H.ib H.lb) HB3.out (Nat.le_refl _)).trans t4 (fun _ h _ => h)
  have c4 := h4.hcells.2.2
  have H4 := Lib.hid h4
  clear h4 t4 c2 hhl HREM
  go_upto_region 1 with (fail)
  (refine wp_region_quiet_tail_ext 11 (by kernel_rfl) (by kernel_rfl) ?_; simp only [List.take_succ_cons, List.take_zero, List.drop_succ_cons, List.drop_zero])
  ((repeat (first | go_big_quiet_step (((first | (go_at_call 70; exact Calls.ext_same (HPG.out _ ((H4.out.below (below_ext _ _)).slab HY.out))) | (go_at_call 106; exact Calls.ext_same (HIT.out _)) | (go_at_call 13; exact Calls.ext_same (HCL.out _ ((H4.out.below (below_ext _ _)).slab HY.out))) | (go_at_call 46; exact Calls.ext_same (HNB.out _))))) | quiet_step (((first | (go_at_call 70; exact Calls.ext_same (HPG.out _ ((H4.out.below (below_ext _ _)).slab HY.out))) | (go_at_call 106; exact Calls.ext_same (HIT.out _)) | (go_at_call 13; exact Calls.ext_same (HCL.out _ ((H4.out.below (below_ext _ _)).slab HY.out))) | (go_at_call 46; exact Calls.ext_same (HNB.out _))))))); refine wpQuiet_nil ?_; intro w3 hw3; obtain hb3 := below_of_ext hw3; clear hw3; have hz3 := hb3.size; (try simp at hz3))
  have HB5 := Lib.hid hb3
  clear hb3
  go_wp2_with (fail)
  refine (HPU.out _ (H4.out.below HB5.out)).mono ?_
  rintro e w6 ⟨rfl, h6, t6⟩
  have HF : Hid (OHeapM w6 H pages ⟨s.l, s.A, R'⟩ ∧ Turned (ringF H.ib H.lb) w w6) := ⟨h6, (HT4.out.trans (Turned.of_below (F := ringF H.ib H.lb) HB5.out (Nat.le_refl _)) (fun _ h _ => h)).trans t6 (fun _ h _ => h)⟩
  clear h6 t6
  go_wp2
  go_end0
  exact ⟨rfl, HF.out⟩

set_option maxRecDepth 8000 in
set_option maxHeartbeats 2000000 in
theorem osettle_any {w : World} {H : OHL} {pages : Nat} {s : OP} (h : OHeapM w H pages s) {y : OS} (hy : y ∈ H.xs) :
    Calls Tryz.prog 60 #[.pointer (some ⟨H.h, 0, none⟩), .pointer (some ⟨y.L.s, 0, none⟩)] w (RingPost w H pages s (settleR s.R y.x)) := by
  have ho := of_le y.x.O
  have HO : Hid (∀ W, Below w.heap.size w W → Calls Tryz.prog 64 #[.pointer (some ⟨y.L.s, 0, none⟩)] W fun e w' => e = .returned (.int .i64 (ofO y.x.O : Nat)) ∧ W = w') := fun W hW => oof_any ((h.slab hy).below hW)
  have HIN := Lib.hid (oin_any h hy (ofO y.x.O) (by omega))
  have HFR : Hid (∀ W, Below w.heap.size w W → Calls Tryz.prog 62 #[.pointer (some ⟨H.h, 0, none⟩), .pointer (some ⟨y.L.s, 0, none⟩), .int .i64 (ofO y.x.O : Nat)] W (RingPost W H pages s (frontR s.R y.x.item (4 * y.x.cls + ofO y.x.O)))) := fun W hW => ofront_any (h.below hW) hy (ofO y.x.O) (by omega)
  have hset : settleR s.R y.x = if inB s.R y.x (ofO y.x.O) = true then s.R else frontR s.R y.x.item (4 * y.x.cls + ofO y.x.O) := by
    unfold settleR inB
    simp only [decide_eq_true_eq]
  have HH := Lib.hid h
  clear h ho
  rw [hset]
  clear hset
  generalize frontR s.R y.x.item (4 * y.x.cls + ofO y.x.O) = R' at *
  generalize ((ofO y.x.O : Nat) : Int) = o at *
  cases hb : inB s.R y.x (ofO y.x.O) with
  | true =>
    rw [hb] at HIN
    rw [if_pos rfl]
    clear hb
    go_enter Tryz.func60, Tryz.ntmps60
    go_wp2_with (fail)
    refine (HO.out _ (Below.refl _ _)).mono ?_
    rintro e w1 ⟨rfl, rfl⟩
    go_wp2_with (fail)
    refine HIN.out.mono ?_
    rintro e w1 ⟨rfl, hb1⟩
    have HB1 := Lib.hid hb1
    clear hb1
    go_wp2
    go_end0
    exact ⟨rfl, HH.out.below HB1.out, Turned.of_below HB1.out (Nat.le_refl _)⟩
  | false =>
    rw [hb] at HIN
    rw [if_neg (by simp)]
    clear hb
    go_enter Tryz.func60, Tryz.ntmps60
    go_wp2_with (fail)
    refine (HO.out _ (Below.refl _ _)).mono ?_
    rintro e w1 ⟨rfl, rfl⟩
    go_wp2_with (fail)
    refine HIN.out.mono ?_
    rintro e w1 ⟨rfl, hb1⟩
    have HB1 := Lib.hid hb1
    clear hb1
    go_wp2_with (fail)
    refine (HO.out _ HB1.out).mono ?_
    rintro e w2 ⟨rfl, rfl⟩
    go_wp2_with (fail)
    refine (HFR.out _ HB1.out).mono ?_
    rintro e w2 ⟨rfl, h2, t2⟩
    have HF : Hid (OHeapM w2 H pages ⟨s.l, s.A, R'⟩ ∧ Turned (ringF H.ib H.lb) w w2) := ⟨h2, (Turned.of_below (F := ringF H.ib H.lb) HB1.out (Nat.le_refl _)).trans t2 (fun _ h _ => h)⟩
    clear h2 t2
    go_wp2
    go_end0
    exact ⟨rfl, HF.out⟩

end Go.Proofs.YtlljejmblmjjnaaGreatDoor

/- oldheap: drop, close. -/
namespace Go.Proofs.YtlljejmblmjjnaaGreatDoor
set_option linter.unusedVariables false
set_option linter.unusedSimpArgs false
open Go.RowKit Go.ChangeMaps

/-- The heap behind an operation. -/
def OMPost (w : World) (H : OHL) (pages : Nat) (s s' : OP) (v : Value) (e : Ending) (w' : World) : Prop :=
  e = .returned v ∧ ∃ H' : OHL, H'.left = H.left ∧ H'.G = H.G ∧ H'.c = H.c ∧ OHeapM w' H' pages s' ∧ H.Of H' w.heap.size ∧ Turned H.F w w'
theorem OMPost.trans {w W w' : World} {H H1 : OHL} {pages : Nat} {s s1 s' : OP} {v u : Value} {e e' : Ending} (hl : H1.left = H.left) (hG : H1.G = H.G) (hc : H1.c = H.c) (ho : H.Of H1 w.heap.size) (ht : Turned H.F w W) (hp : OMPost W H1 pages s1 s' u e' w') (he : e = .returned v) : OMPost w H pages s s' v e w' := by
  obtain ⟨-, H', q1, q2, q3, q4, q5, q6⟩ := hp
  refine ⟨he, H', q1.trans hl, q2.trans hG, q3.trans hc, q4, ho.trans q5 ht.size, ht.trans q6 fun k hk hlt => ?_⟩
  rcases ho.foot k hk with e | e
  · exact e
  · omega
theorem OHeapM.stays {w w' : World} {H : OHL} {pages : Nat} {s : OP} (h : OHeapM w H pages s) (hb : Below w.heap.size w w') {v : Value} {e : Ending} (he : e = .returned v) : OMPost w H pages s s v e w' :=
  ⟨he, H, rfl, rfl, rfl, h.below hb, OHL.Of.refl _ _, Turned.of_below hb (Nat.le_refl _)⟩
def dropH (H : OHL) (y : OS) : OHL := { H with xs := delK H.xs y.x.page, left := H.left ++ [y] }
def DropPost (w : World) (H : OHL) (pages : Nat) (s : OP) (y : OS) (e : Ending) (w' : World) : Prop :=
  e = .returned (.tuple #[]) ∧ OHeapM w' (dropH H y) pages (leaveO s y.x) ∧ H.Of (dropH H y) w.heap.size ∧ Turned (fun k => k = H.mb ∨ ringF H.ib H.lb k) w w'

set_option maxRecDepth 8000 in
set_option maxHeartbeats 2000000 in
theorem odrop_any {w : World} {H : OHL} {pages : Nat} {s : OP} (h : OHeapM w H pages s) {y : OS} (hy : y ∈ H.xs) :
    Calls Tryz.prog 71 #[.pointer (some ⟨H.h, 0, none⟩), .pointer (some ⟨y.L.s, 0, none⟩)] w (DropPost w H pages s y) := by
  obtain ⟨-, -, c2⟩ := h.hcells
  have hok := h.ok hy
  have hpm := h.ground.map.most
  have hf := hok.fits
  have hal := hok.al
  have hil : y.x.item < pages / 4 := by show y.x.page / 4 < pages / 4; omega
  have HPG : Hid (∀ W, OSlabAt W y.L y.x.O → Calls Tryz.prog 70 #[.pointer (some ⟨y.L.s, 0, none⟩)] W fun e w' => e = .returned (.int .i64 y.x.page) ∧ W = w') := fun W hW => opage_any hW
  have HIT : Hid (∀ W, Calls Tryz.prog 106 #[.int .i64 y.x.page] W fun e w' => e = .returned (.int .i64 (y.x.item : Nat)) ∧ W = w') := fun W => oitem_any y.x.page (by omega) W
  have HREM : Hid (∀ W, Below w.heap.size w W → Calls Tryz.prog 108 #[.pointer (some ⟨H.rg, 0, none⟩), .int .i64 (y.x.item : Nat)] W fun e w' => (∃ z : Int, e = .returned (.int .i64 z)) ∧ OHeapM w' H pages ⟨s.l, s.A, delR s.R y.x.item⟩ ∧ Turned (ringF H.ib H.lb) W w') := fun W hW => by
    refine (rgRemove (h.ring.below hW) y.x.item hil).mono ?_
    rintro e w' ⟨hz, hr, ht⟩
    exact ⟨hz, (h.below hW).ringTurn ht hr, ht⟩
  have HDEL : Hid (∀ W, OHeapM W H pages ⟨s.l, s.A, delR s.R y.x.item⟩ → ∀ ty, (Builtin.delete_ #[77, 3] ty #[.map (some H.mb), .int .i64 y.x.page]).run Tryz.prog W = .ok (.tuple #[]) (setBlock W H.mb (.map ((delK H.xs y.x.page).map oentry).toArray H.clk))) := fun W hW ty =>
    run_delete_old hW.map hW.keys _ ty
  have HH := Lib.hid h
  have HY := Lib.hid hy
  have hhl := cell_lt c2
  clear h hok hf hal hpm hy hil
  generalize hi : (y.x.item : Int) = i at *
  generalize hp : (y.x.page : Int) = p at *
  clear hi hp
  go_enter Tryz.func71, Tryz.ntmps71
  go_upto_region 0 with (fail)
  (refine wp_region_quiet_tail_ext 7 (by kernel_rfl) (by kernel_rfl) ?_; simp only [List.take_succ_cons, List.take_zero, List.drop_succ_cons, List.drop_zero])
  ((repeat (first | go_big_quiet_step (((first | (go_at_call 70; exact Calls.ext_same (HPG.out _ ((HH.out.below (below_ext _ _)).slab HY.out))) | (go_at_call 106; exact Calls.ext_same (HIT.out _))))) | quiet_step (((first | (go_at_call 70; exact Calls.ext_same (HPG.out _ ((HH.out.below (below_ext _ _)).slab HY.out))) | (go_at_call 106; exact Calls.ext_same (HIT.out _))))))); refine wpQuiet_nil ?_; intro w3 hw3; obtain hb3 := below_of_ext hw3; clear hw3; have hz3 := hb3.size; (try simp at hz3))
  have HB3 := Lib.hid hb3
  clear hb3
  go_wp2_with (fail)
  refine (HREM.out _ HB3.out).mono ?_
  rintro e w4 ⟨⟨z, rfl⟩, h4, t4⟩
  have HT4 : Hid (Turned (ringF H.ib H.lb) w w4) := (Turned.of_below (F := ringF H.ib H.lb) HB3.out (Nat.le_refl _)).trans t4 (fun _ h _ => h)
  have c4 := h4.hcells.2.1
  have H4 := Lib.hid h4
  clear h4 t4 c2 hhl HREM
  go_upto_region 1 with (fail)
  (refine wp_region_quiet_tail_ext 6 (by kernel_rfl) (by kernel_rfl) ?_; simp only [List.take_succ_cons, List.take_zero, List.drop_succ_cons, List.drop_zero])
  ((repeat (first | go_big_quiet_step (((go_at_call 70; exact Calls.ext_same (HPG.out _ ((H4.out.below (below_ext _ _)).slab HY.out))))) | quiet_step (((go_at_call 70; exact Calls.ext_same (HPG.out _ ((H4.out.below (below_ext _ _)).slab HY.out))))))); refine wpQuiet_nil ?_; intro w3 hw3; obtain hb3 := below_of_ext hw3; clear hw3; have hz3 := hb3.size; (try simp at hz3))
  have H5 := Lib.hid (H4.out.below hb3)
  have HB5 := Lib.hid hb3
  have hdel := HDEL.out _ H5.out
  clear hb3
  go_wp2
  go_end0
  have tM : Turned (fun k => k = H.mb) w3 (setBlock w3 H.mb (.map ((delK H.xs y.x.page).map oentry).toArray H.clk)) := Turned.setBlock (F := fun k => k = H.mb) (Turned.refl _ _) (.inl rfl) _
  obtain ⟨q1, q2⟩ := H5.out.dropMap (y := y) HY.out tM (heap_setBlock_eq (lt_of_block H5.out.map) _)
  have hs5 : w.heap.size ≤ w3.heap.size := Nat.le_trans HT4.out.size HB5.out.size
  refine ⟨rfl, q1, ⟨q2.h, q2.gr, q2.cl, q2.rg, q2.mb, fun k hk => (q2.foot k hk).imp id fun e => Nat.le_trans hs5 e⟩, ?_⟩
  exact ((HT4.out.mono (G := fun k => k = H.mb ∨ ringF H.ib H.lb k) (fun k hk _ => .inr hk)).trans (Turned.of_below (F := fun k => k = H.mb ∨ ringF H.ib H.lb k) HB5.out (Nat.le_refl _)) (fun _ h _ => h)).trans (tM.mono (G := fun k => k = H.mb ∨ ringF H.ib H.lb k) (fun k hk _ => .inl hk)) (fun _ h _ => h)

set_option maxRecDepth 8000 in
set_option maxHeartbeats 2000000 in
theorem oclose_any {w : World} {H : OHL} {pages : Nat} {s : OP} (h : OHeapM w H pages s) {y : OS} (hy : y ∈ H.xs) :
    Calls Tryz.prog 59 #[.pointer (some ⟨H.h, 0, none⟩), .pointer (some ⟨y.L.s, 0, none⟩)] w (OMPost w H pages s (closeO s y.x) (.tuple #[])) := by
  have HD := Lib.hid (odrop_any h hy)
  have HH := Lib.hid h
  clear h hy
  go_enter Tryz.func59, Tryz.ntmps59
  go_wp2_with (fail)
  refine HD.out.mono ?_
  rintro e w1 ⟨rfl, h1, o1, t1⟩
  have c0 : w1.cell? ⟨H.h, 0, none⟩ = some (.pointer (some ⟨H.gr, 0, none⟩)) := h1.hcells.1
  have hyl : y ∈ (dropH H y).xs ++ (dropH H y).left := List.mem_append_right _ (List.mem_append_right _ (List.mem_singleton.2 rfl))
  have hyB : y.x ∈ (leaveO s y.x).A ++ (dropH H y).left.map (·.x) := List.mem_append_right _ (List.mem_map.2 ⟨y, List.mem_append_right _ (List.mem_singleton.2 rfl), rfl⟩)
  have hok := h1.base.each y.x hyB
  have hpm := h1.ground.map.most
  have hEl := h1.ground.map.len
  have hf := hok.fits
  have htk := h1.base.tk y.x hyB
  have hk := idxR_ofO h1.base.tile htk
  obtain ⟨st, hst⟩ := h1.ent.ent y.x hyB y.x.page (Nat.le_refl _) (by omega)
  have hall : ∀ j, j < 4 → (H.E.getD (y.x.page + j) none).isSome = true := fun j hj => by
    obtain ⟨st', hst'⟩ := h1.ent.ent y.x hyB (y.x.page + j) (by omega) (by omega)
    have hst2 : H.E.getD (y.x.page + j) none = _ := hst'
    rw [hst2]; rfl
  have hb4 : 4 ≤ H.b := by
    have := h1.cnt
    have h2 : H.b = 4 * ((leaveO s y.x).A.length + (H.left ++ [y]).length) := this
    rw [List.length_append, List.length_singleton] at h2
    omega
  have HCL : Hid (∀ W, Below w1.heap.size w1 W → Calls Tryz.prog 41 #[.pointer (some ⟨H.gr, 0, none⟩), .int .i64 y.x.page] W
      (GOpenPost W H.gr H.cl H.p pages (giveR s.l (idxR y.x.page s.l) ⟨y.x.page, 4, true⟩) (setE H.E y.x.page none 4) (H.b - 4) 0 H.c 4 0)) := fun W hW =>
    gClose_yes H.gr H.cl pages H.b 0 H.c (idxR y.x.page s.l) st H.p s.l H.E ⟨y.x.page, 4, true⟩ _ W (h1.ground.below hW) hk rfl hst (by show 0 < 3; decide) hall hb4
  have HPG : Hid (∀ W, Below w1.heap.size w1 W → Calls Tryz.prog 70 #[.pointer (some ⟨y.L.s, 0, none⟩)] W fun e w' => e = .returned (.int .i64 y.x.page) ∧ W = w') := fun W hW => opage_any ((h1.each y hyl).below hW)
  have H1 := Lib.hid h1
  have HOT := Lib.hid (And.intro o1 t1)
  clear h1 o1 t1 hok hpm hEl hf htk hk hst hall hb4 hyB hyl
  go_upto_region 1 with (fail)
  (refine wp_region_quiet_tail_ext 6 (by kernel_rfl) (by kernel_rfl) ?_; simp only [List.take_succ_cons, List.take_zero, List.drop_succ_cons, List.drop_zero])
  ((repeat (first | go_big_quiet_step (((go_at_call 70; exact Calls.ext_same (HPG.out _ (below_ext _ _))))) | quiet_step (((go_at_call 70; exact Calls.ext_same (HPG.out _ (below_ext _ _))))))); refine wpQuiet_nil ?_; intro w3 hw3; obtain hb3 := below_of_ext hw3; clear hw3; have hz3 := hb3.size; (try simp at hz3))
  have HB3 := Lib.hid hb3
  clear hb3
  go_wp2_with (fail)
  refine (HCL.out _ HB3.out).mono ?_
  rintro e w4 ⟨rfl, p', hg4, hpf4, t4⟩
  have HF : Hid (OMPost w H pages s (closeO s y.x) (.tuple #[]) (.returned (.tuple #[])) w4) := by
    obtain ⟨o1, t1⟩ := HOT.out
    have h3 := H1.out.below HB3.out
    obtain ⟨H', q1, q2, q3, q4, q5⟩ := h3.closeLeft (y := y) (L0 := H.left) rfl t4 hg4 hpf4
    have hs1 := t1.size
    have hs3 := HB3.out.size
    refine ⟨rfl, H', q1, q2, q3, q4, o1.trans q5 (by omega), ?_⟩
    have tF : Turned H.F w w1 := t1.mono fun k hk _ => by
      rcases hk with rfl | hk
      · exact .inr (.inl rfl)
      · exact ringF.sub hk
    refine (tF.trans (Turned.of_below (F := H.F) HB3.out (Nat.le_refl _)) (fun _ h _ => h)).trans t4 fun k hk _ => ?_
    exact .inr (.inr (.inr (.inr (.inr (.inl hk)))))
  clear hg4 hpf4 t4
  go_wp2
  go_end0
  exact HF.out

end Go.Proofs.YtlljejmblmjjnaaGreatDoor

/- oldheap: next, near. -/
namespace Go.Proofs.YtlljejmblmjjnaaGreatDoor
set_option linter.unusedVariables false
set_option linter.unusedSimpArgs false
open Go.RowKit Go.ChangeMaps

theorem OBase.get {pages : Nat} {l : List Run} {A B : List PO} (h : OBase pages l A B) {x : PO} (hx : x ∈ A) : getO A x.page = some x := by
  cases hg : getO A x.page with
  | none =>
    unfold getO at hg
    rw [List.find?_eq_none] at hg
    exact absurd (by simp) (hg x hx)
  | some y =>
    obtain ⟨h1, h2⟩ := getO_mem hg
    obtain ⟨i, hi, rfl⟩ := List.mem_iff_getElem.1 hx
    obtain ⟨j, hj, rfl⟩ := List.mem_iff_getElem.1 h1
    have hp := List.pairwise_iff_getElem.1 h.srt
    rcases Nat.lt_trichotomy i j with hij | rfl | hij
    · have := hp i j hi hj hij; omega
    · rfl
    · have := hp j i hj hi hij; omega
theorem OHeapM.find_get {w : World} {H : OHL} {pages : Nat} {s : OP} (h : OHeapM w H pages s) (k : Int) : (H.xs.find? fun y => (y.x.page : Int) == k).map (·.x) = getO s.A k := by
  cases hf : H.xs.find? fun y => (y.x.page : Int) == k with
  | none =>
    cases hg : getO s.A k with
    | none => rfl
    | some x =>
      obtain ⟨hx, hp⟩ := getO_mem hg
      obtain ⟨y, hy, rfl⟩ := h.mem hx
      rw [List.find?_eq_none] at hf
      exact absurd (by simpa using hp) (hf y hy)
  | some y =>
    have hy := List.mem_of_find?_eq_some hf
    have hp := List.find?_some hf
    simp only [beq_iff_eq] at hp
    rw [← hp, h.base.get (h.mem' hy)]
    rfl
theorem OHeapM.lookup {w : World} {H : OHL} {pages : Nat} {s : OP} (h : OHeapM w H pages s) {y : OS} (hy : y ∈ H.xs) : (H.xs.find? fun z => (z.x.page : Int) == (y.x.page : Int)) = some y := by
  cases hf : H.xs.find? fun z => (z.x.page : Int) == (y.x.page : Int) with
  | none =>
    rw [List.find?_eq_none] at hf
    exact absurd (by simp) (hf y hy)
  | some z =>
    have hz := List.mem_of_find?_eq_some hf
    have hp := List.find?_some hf
    simp only [beq_iff_eq] at hp
    rw [h.uniq hz hy (by omega)]
/-- A slab, or none, by what is asked. -/
def OptPost (w : World) (H : OHL) (g : Option PO) (e : Ending) (w' : World) : Prop :=
  ∃ o : Option OS, e = .returned (ptrK o) ∧ (∀ y, o = some y → y ∈ H.xs) ∧ o.map (·.x) = g ∧ Below w.heap.size w w'

set_option maxRecDepth 8000 in
set_option maxHeartbeats 2000000 in
theorem onext_any {w : World} {H : OHL} {pages : Nat} {s : OP} (h : OHeapM w H pages s) (c : Nat) (hc : c < 16) :
    Calls Tryz.prog 66 #[.pointer (some ⟨H.h, 0, none⟩), .int .i64 c] w (OptPost w H (nextO s c)) := by
  obtain ⟨-, c1, c2⟩ := h.hcells
  have HN0 : Hid (∀ W, Calls Tryz.prog 46 #[.int .i64 c, .int .i64 0] W fun e w' => e = .returned (.int .i64 ((4 * c : Nat) : Int)) ∧ W = w') := fun W => onumber_any c 0 (by omega) (by omega) W
  have HN2 : Hid (∀ W, Calls Tryz.prog 46 #[.int .i64 c, .int .i64 2] W fun e w' => e = .returned (.int .i64 ((4 * c + 2 : Nat) : Int)) ∧ W = w') := fun W => onumber_any c 2 (by omega) (by omega) W
  have HF0 : Hid (∀ W, Below w.heap.size w W → Calls Tryz.prog 112 #[.pointer (some ⟨H.rg, 0, none⟩), .int .i64 ((4 * c : Nat) : Int)] W fun e w' => e = .returned (.int .i64 (headOr (s.R (4 * c)) (-1))) ∧ W = w') := fun W hW => rgFirst (h.ring.below hW) (4 * c) (by omega)
  have HF2 : Hid (∀ W, Below w.heap.size w W → Calls Tryz.prog 112 #[.pointer (some ⟨H.rg, 0, none⟩), .int .i64 ((4 * c + 2 : Nat) : Int)] W fun e w' => e = .returned (.int .i64 (headOr (s.R (4 * c + 2)) (-1))) ∧ W = w') := fun W hW => rgFirst (h.ring.below hW) (4 * c + 2) (by omega)
  have HLK : Hid (∀ W, Below w.heap.size w W → ∀ k : Int, (Instr.lookup 77 (.map (some H.mb)) (.int .i64 k) false).run Tryz.prog W = .ok (ptrK (H.xs.find? fun x => (x.x.page : Int) == k)) W) := fun W hW k => run_lookup_old (h.below hW).map k
  have HGT := Lib.hid h.find_get
  have HMM : Hid (∀ k : Int, ∀ y, (H.xs.find? fun x => (x.x.page : Int) == k) = some y → y ∈ H.xs) := fun k y hy => List.mem_of_find?_eq_some hy
  have hql : ∀ m, m < 64 → ∀ q ∈ s.R m, q < 16 := fun m hm q hq => by
    have := h.ring.lt hm q hq
    have := h.ground.map.most
    omega
  have HQ := Lib.hid hql
  have hhl := cell_lt c1
  have HNX : Hid (nextO s c = match s.R (4 * c) with | q :: _ => getO s.A (4 * q : Nat) | [] => match s.R (4 * c + 2) with | q :: _ => getO s.A (4 * q : Nat) | [] => none) := rfl
  have HSZ : Hid (0 < w.heap.size) := h.size
  clear h hql
  generalize nextO s c = g at *
  obtain ⟨W1, hW1⟩ : ∃ W1, W1 = w.alloc (.cells #[.int .i64 0, .int .i64 2] 3) := ⟨_, rfl⟩
  have hB1 : Below w.heap.size w W1 := by rw [hW1]; exact (Below.refl _ _).alloc (Nat.le_refl _) _
  have x0 : W1.cell? ⟨w.heap.size, 0, none⟩ = some (.int .i64 0) := by rw [hW1, cell_of_block (heap_alloc_new _ _)]; rfl
  have x1 : W1.cell? ⟨w.heap.size, 1, none⟩ = some (.int .i64 2) := by rw [hW1, cell_of_block (heap_alloc_new _ _)]; rfl
  have HB1 := Lib.hid hB1
  have HC : Hid (w.cell? ⟨H.h, 1, none⟩ = some (.map (some H.mb)) ∧ w.cell? ⟨H.h, 2, none⟩ = some (.pointer (some ⟨H.rg, 0, none⟩))) := ⟨c1, c2⟩
  clear c1 c2
  go_enter Tryz.func66, Tryz.ntmps66
  go_upto_region 2 with (fail)
  rw [← hW1]
  clear hW1 hB1
  go_loopw [10] (fun i wr => ∃ j : Nat, j ≤ 2 ∧ i = .int .i64 j ∧ Below W1.heap.size W1 wr ∧ (1 ≤ j → s.R (4 * c) = []) ∧ (2 ≤ j → s.R (4 * c + 2) = [])) (fun i _ => 2 - (intOf i).toNat)
  case atStart => exact ⟨0, by omega, rfl, Below.refl _ _, fun h => absurd h (by decide), fun h => absurd h (by decide)⟩
  case round =>
    obtain ⟨j, hj, rfl, hb, hj0, hj2⟩ := hrel
    have HBR := Lib.hid hb
    have HBW : Hid (Below w.heap.size w wr) := Below.via hb HB1.out.size HB1.out
    obtain rfl | rfl | rfl : j = 0 ∨ j = 1 ∨ j = 2 := by omega
    · clear hj0 hj2 hj
      have y2 := cell_past HBW.out (cell_lt HC.out.2) HC.out.2
      have z0 := cell_past hb (cell_lt x0) x0
      cases hR : s.R (4 * c) with
      | nil =>
        rw [hR] at HF0
        have HE : Hid (s.R (4 * c) = []) := hR
        clear hR hb
        go_upto_region 4 with (fail)
        (refine wp_region_quiet_ext (by kernel_rfl) (by kernel_rfl) ?_; (repeat (first | go_big_quiet_step (((first | (go_at_call 46; exact Calls.ext_same (HN0.out _)) | (go_at_call 112; exact Calls.ext_same (HF0.out _ (Below.via (below_ext _ _) HBW.out.size HBW.out)))))) | quiet_step (((first | (go_at_call 46; exact Calls.ext_same (HN0.out _)) | (go_at_call 112; exact Calls.ext_same (HF0.out _ (Below.via (below_ext _ _) HBW.out.size HBW.out)))))))); refine wpQuiet_nil ?_; intro w3 hw3; obtain hb3 := below_of_ext hw3; clear hw3; obtain ⟨hc3, hf3⟩ := bcell hb3; have hz3 := hb3.size; (try simp at hz3))
        have HB3 := Lib.hid hb3
        clear hc3 hf3 hb3 y2 z0
        go_wp2
        go_roundw
        case rel => refine ⟨1, by omega, by go_num, HBR.out.trans (HB3.out.mono HBR.out.size), ?_, ?_⟩ <;> first | trivial | exact fun _ => HE.out | (intro hh; omega)
        case measure => simp [intOf]
      | cons q l =>
        rw [hR] at HF0
        have hql := HQ.out (4 * c) (by omega) q (by rw [hR]; exact List.mem_cons_self)
        have HE : Hid (s.R (4 * c) = q :: l) := hR
        rw [show headOr (q :: l) (-1) = (q : Int) from rfl] at HF0
        have hqn : ¬ (q : Int) = -1 := by omega
        have hqb : ((q : Int) != -1) = true := bne_iff_ne.2 hqn
        have hqw : IntKind.i64.wrap ((q : Int) * 4) = (q : Int) * 4 := by rw [IntKind.wrap_i64]; omega
        have y1 := cell_past HBW.out (cell_lt HC.out.1) HC.out.1
        clear hR hb
        go_upto_region 4 with (fail)
        (refine wp_region_quiet_ext (by kernel_rfl) (by kernel_rfl) ?_; (repeat (first | go_big_quiet_step (((first | (go_at_call 46; exact Calls.ext_same (HN0.out _)) | (go_at_call 112; exact Calls.ext_same (HF0.out _ (Below.via (below_ext _ _) HBW.out.size HBW.out)))))) | quiet_step (((first | (go_at_call 46; exact Calls.ext_same (HN0.out _)) | (go_at_call 112; exact Calls.ext_same (HF0.out _ (Below.via (below_ext _ _) HBW.out.size HBW.out)))))))); refine wpQuiet_nil ?_; intro w3 hw3; obtain hb3 := below_of_ext hw3; clear hw3; obtain ⟨hc3, hf3⟩ := bcell hb3; have hz3 := hb3.size; (try simp at hz3))
        have HB3 := Lib.hid (Below.via hb3 HBW.out.size HBW.out)
        have d1 := cell_past hb3 (cell_lt y1) y1
        clear hc3 hf3 hb3 y2 z0 y1
        have hlk := HLK.out w3 HB3.out ((q : Int) * 4)
        have hgt := HGT.out ((q : Int) * 4)
        have hmm := HMM.out ((q : Int) * 4)
        have HG : Hid (g = getO s.A ((q : Int) * 4)) := by
          show _ = _
          rw [HNX.out, HE.out]
          show getO s.A ((4 * q : Nat) : Int) = _
          rw [show ((4 * q : Nat) : Int) = (q : Int) * 4 by omega]
        generalize (H.xs.find? fun x => (x.x.page : Int) == (q : Int) * 4) = o at *
        obtain ⟨v, hv⟩ : ∃ v, ptrK o = .pointer v := by cases o <;> exact ⟨_, rfl⟩
        rw [hv] at hlk
        have HV := Lib.hid hv
        have HGM := Lib.hid (And.intro hgt hmm)
        clear hv hgt hmm
        go_wp2
        go_ret
        exact ⟨o, by rw [HV.out]; rfl, HGM.out.2, by rw [HG.out]; exact HGM.out.1, HB3.out⟩
    · have HJ0 := Lib.hid (hj0 (by decide))
      clear hj0 hj2 hj
      have y2 := cell_past HBW.out (cell_lt HC.out.2) HC.out.2
      have z1 := cell_past hb (cell_lt x1) x1
      cases hR : s.R (4 * c + 2) with
      | nil =>
        rw [hR] at HF2
        have HE : Hid (s.R (4 * c + 2) = []) := hR
        clear hR hb
        go_upto_region 4 with (fail)
        (refine wp_region_quiet_ext (by kernel_rfl) (by kernel_rfl) ?_; (repeat (first | go_big_quiet_step (((first | (go_at_call 46; exact Calls.ext_same (HN2.out _)) | (go_at_call 112; exact Calls.ext_same (HF2.out _ (Below.via (below_ext _ _) HBW.out.size HBW.out)))))) | quiet_step (((first | (go_at_call 46; exact Calls.ext_same (HN2.out _)) | (go_at_call 112; exact Calls.ext_same (HF2.out _ (Below.via (below_ext _ _) HBW.out.size HBW.out)))))))); refine wpQuiet_nil ?_; intro w3 hw3; obtain hb3 := below_of_ext hw3; clear hw3; obtain ⟨hc3, hf3⟩ := bcell hb3; have hz3 := hb3.size; (try simp at hz3))
        have HB3 := Lib.hid hb3
        clear hc3 hf3 hb3 y2 z1
        go_wp2
        go_roundw
        case rel => refine ⟨2, by omega, by go_num, HBR.out.trans (HB3.out.mono HBR.out.size), ?_, ?_⟩ <;> first | trivial | exact fun _ => HE.out | exact fun _ => HJ0.out | (intro hh; omega)
        case measure => simp [intOf]
      | cons q l =>
        rw [hR] at HF2
        have hql := HQ.out (4 * c + 2) (by omega) q (by rw [hR]; exact List.mem_cons_self)
        have HE : Hid (s.R (4 * c + 2) = q :: l) := hR
        rw [show headOr (q :: l) (-1) = (q : Int) from rfl] at HF2
        have hqn : ¬ (q : Int) = -1 := by omega
        have hqb : ((q : Int) != -1) = true := bne_iff_ne.2 hqn
        have hqw : IntKind.i64.wrap ((q : Int) * 4) = (q : Int) * 4 := by rw [IntKind.wrap_i64]; omega
        have y1 := cell_past HBW.out (cell_lt HC.out.1) HC.out.1
        clear hR hb
        go_upto_region 4 with (fail)
        (refine wp_region_quiet_ext (by kernel_rfl) (by kernel_rfl) ?_; (repeat (first | go_big_quiet_step (((first | (go_at_call 46; exact Calls.ext_same (HN2.out _)) | (go_at_call 112; exact Calls.ext_same (HF2.out _ (Below.via (below_ext _ _) HBW.out.size HBW.out)))))) | quiet_step (((first | (go_at_call 46; exact Calls.ext_same (HN2.out _)) | (go_at_call 112; exact Calls.ext_same (HF2.out _ (Below.via (below_ext _ _) HBW.out.size HBW.out)))))))); refine wpQuiet_nil ?_; intro w3 hw3; obtain hb3 := below_of_ext hw3; clear hw3; obtain ⟨hc3, hf3⟩ := bcell hb3; have hz3 := hb3.size; (try simp at hz3))
        have HB3 := Lib.hid (Below.via hb3 HBW.out.size HBW.out)
        have d1 := cell_past hb3 (cell_lt y1) y1
        clear hc3 hf3 hb3 y2 z1 y1
        have hlk := HLK.out w3 HB3.out ((q : Int) * 4)
        have hgt := HGT.out ((q : Int) * 4)
        have hmm := HMM.out ((q : Int) * 4)
        have HG : Hid (g = getO s.A ((q : Int) * 4)) := by
          show _ = _
          rw [HNX.out, HJ0.out, HE.out]
          show getO s.A ((4 * q : Nat) : Int) = _
          rw [show ((4 * q : Nat) : Int) = (q : Int) * 4 by omega]
        generalize (H.xs.find? fun x => (x.x.page : Int) == (q : Int) * 4) = o at *
        obtain ⟨v, hv⟩ : ∃ v, ptrK o = .pointer v := by cases o <;> exact ⟨_, rfl⟩
        rw [hv] at hlk
        have HV := Lib.hid hv
        have HGM := Lib.hid (And.intro hgt hmm)
        clear hv hgt hmm
        go_wp2
        go_ret
        exact ⟨o, by rw [HV.out]; rfl, HGM.out.2, by rw [HG.out]; exact HGM.out.1, HB3.out⟩
    · have HG : Hid (g = none) := by
        show _ = _
        rw [HNX.out, hj0 (by decide), hj2 (by decide)]
      clear hj0 hj2 hj hb
      go_wp2
      go_ret
      exact ⟨none, rfl, fun y hy => (by cases hy), by rw [HG.out]; rfl, HBW.out⟩

end Go.Proofs.YtlljejmblmjjnaaGreatDoor

/- oldheap: Take. -/
namespace Go.Proofs.YtlljejmblmjjnaaGreatDoor
set_option linter.unusedVariables false
set_option linter.unusedSimpArgs false
open Go.RowKit Go.ChangeMaps

def ansO (q : Int × Int) : Value := .tuple #[.int .i64 q.1, .int .i64 q.2]
theorem PO.Ok0.set {pages : Nat} {x : PO} (h : x.Ok0 pages) {k : Nat} (hk : k < slA x.cls) : (x.set k).Ok0 pages := ⟨h.al, h.fits, h.cls, setW_lt hk h.top⟩
theorem PO.Ok0.clr {pages : Nat} {x : PO} (h : x.Ok0 pages) (k : Nat) : (x.clr k).Ok0 pages := ⟨h.al, h.fits, h.cls, clrW_lt k h.top⟩
/-- A slab of the heap takes its first free slot. -/
theorem otakeM_any {w : World} {H : OHL} {pages : Nat} {s : OP} (h : OHeapM w H pages s) {y : OS} (hy : y ∈ H.xs) (hk : ∃ k, k < slA y.x.cls ∧ y.x.x.testBit k = false) :
    Calls Tryz.prog 68 #[.pointer (some ⟨y.L.s, 0, none⟩)] w fun e w' => e = .returned (.tuple #[.int .i64 (y.x.addr (firstC y.x.x (slA y.x.cls)) : Nat), .int .i64 0]) ∧
      OHeapM w' { H with xs := updK (y.x.set (firstC y.x.x (slA y.x.cls))) H.xs } pages ⟨s.l, updO s.A (y.x.set (firstC y.x.x (slA y.x.cls))), s.R⟩ ∧ Turned (fun k => k = y.L.b) w w' := by
  refine (otake_any (h.slab hy) h.tab).mono ?_
  intro e w' hp
  cases hp with
  | full hf he hb =>
    obtain ⟨k, k1, k2⟩ := hk
    have := hf k k1
    rw [show y.x.O.x = y.x.x from rfl, k2] at this
    cases this
  | some k k1 k2 k3 he ha ht =>
    have hf : firstC y.x.x (slA y.x.cls) = k := firstC_of k1 k2 k3
    rw [hf]
    exact ⟨he, h.slabTurn hy (x := y.x.set k) rfl rfl rfl ((h.ok hy).set k1) ht ha, ht⟩
theorem take_post {w w1 w5 w6 : World} {H H1 : OHL} {pages : Nat} {s s1 : OP} {y : OS} (hb : H1.left = H.left ∧ H1.G = H.G ∧ H1.c = H.c) (ho : H.Of H1 w.heap.size) (ht : Turned H.F w w1) (hM : OHeapM w1 H1 pages s1) (hy : y ∈ H1.xs)
    (t5 : Turned (fun k => k = y.L.b) w1 w5) (h6 : OHeapM w6 { H1 with xs := updK (y.x.set (firstC y.x.x (slA y.x.cls))) H1.xs } pages ⟨s1.l, updO s1.A (y.x.set (firstC y.x.x (slA y.x.cls))), settleR s1.R (y.x.set (firstC y.x.x (slA y.x.cls)))⟩)
    (t6 : Turned (ringF H1.ib H1.lb) w5 w6) : OMPost w H pages s (takeFromO s1 y.x).2 (ansO (takeFromO s1 y.x).1) (.returned (ansO (takeFromO s1 y.x).1)) w6 := by
  have t : Turned H1.F w1 w6 := (t5.mono (G := H1.F) fun k hk _ => by
    rw [hk]
    exact .inr (.inr (.inr (.inr (.inr (.inr ⟨y, List.mem_append_left _ hy, .inr (.inr rfl)⟩)))))).trans t6 fun k hk _ => ringF.sub hk
  exact OMPost.trans (s1 := s1) hb.1 hb.2.1 hb.2.2 ho ht (u := ansO (takeFromO s1 y.x).1) (e := .returned (ansO (takeFromO s1 y.x).1)) ⟨rfl, { H1 with xs := updK (y.x.set (firstC y.x.x (slA y.x.cls))) H1.xs }, rfl, rfl, rfl, h6, OHeapM.slabOf _, t⟩ rfl

set_option maxRecDepth 8000 in
set_option maxHeartbeats 4000000 in
theorem htakeO_any {w : World} {H : OHL} {pages : Nat} {s : OP} (h : OHeapM w H pages s) (hI : OInv pages s) (cls : Int) :
    Calls Tryz.prog 29 #[.pointer (some ⟨H.h, 0, none⟩), .int .i64 cls] w (OMPost w H pages s (takeO s cls).2 (ansO (takeO s cls).1)) := by
  have HR := Lib.hid (oright_any cls w)
  by_cases hc : 0 ≤ cls ∧ cls < 16
  · have hcl : clsOkA cls = true := decide_eq_true hc
    obtain ⟨c, rfl⟩ : ∃ c : Nat, cls = c := ⟨cls.toNat, by omega⟩
    have hc2 : c < 16 := by omega
    rw [hcl] at HR
    have HNX : Hid (∀ W, Below w.heap.size w W → Calls Tryz.prog 66 #[.pointer (some ⟨H.h, 0, none⟩), .int .i64 c] W (OptPost W H (nextO s c))) := fun W hW => onext_any (h.below hW) c hc2
    cases hn : nextO s c with
    | some x =>
      have HTO : Hid (takeO s (c : Int) = takeFromO s x) := by
        show _ = _
        unfold takeO
        rw [if_pos hc, Int.toNat_natCast, hn]
      have hcl := (hI.next_some hc2 hn).2.2.2.1
      have HCL := Lib.hid hcl
      rw [hn] at HNX
      have HH := Lib.hid h
      clear h hI hcl hc hn
      rw [HTO.out]
      go_enter Tryz.func29, Tryz.ntmps29
      go_wp2_with (fail)
      refine HR.out.mono ?_
      rintro e w1 ⟨rfl, hb1⟩
      have HB1 := Lib.hid hb1
      clear hb1
      go_wp2_with (fail)
      refine (HNX.out _ HB1.out).mono ?_
      rintro e w2 ⟨o, rfl, hom, hox, hb2⟩
      obtain ⟨y, rfl⟩ : ∃ y, o = some y := by cases o with | none => cases hox | some y => exact ⟨y, rfl⟩
      obtain rfl : y.x = x := Option.some.inj hox
      have hy := hom y rfl
      have HB2 : Hid (Below w.heap.size w w2) := Below.via hb2 HB1.out.size HB1.out
      have h2 := HH.out.below HB2.out
      have HTK := Lib.hid (otakeM_any h2 hy HCL.out)
      have HY := Lib.hid hy
      have HM := Lib.hid h2
      clear hom hox hb2 hy h2
      rw [show ptrK (some y) = .pointer (some ⟨y.L.s, 0, none⟩) from rfl]
      go_wp2_with (fail)
      refine HTK.out.mono ?_
      rintro e w5 ⟨rfl, h5, t5⟩
      have hy5 : ({ y with x := y.x.set (firstC y.x.x (slA y.x.cls)) } : OS) ∈ updK (y.x.set (firstC y.x.x (slA y.x.cls))) H.xs := List.mem_map.2 ⟨y, HY.out, if_pos rfl⟩
      have HSE := Lib.hid (osettle_any h5 hy5)
      have HT5 := Lib.hid t5
      clear h5 hy5 t5
      go_wp2_with (fail)
      refine HSE.out.mono ?_
      rintro e w6 ⟨rfl, h6, t6⟩
      have HF : Hid (OMPost w H pages s (takeFromO s y.x).2 (ansO (takeFromO s y.x).1) (.returned (ansO (takeFromO s y.x).1)) w6) :=
        take_post ⟨rfl, rfl, rfl⟩ (OHL.Of.refl _ _) (Turned.of_below HB2.out (Nat.le_refl _)) HM.out HY.out HT5.out h6 t6
      clear h6 t6 HSE HTK
      have HAN : Hid (ansO (takeFromO s y.x).1 = .tuple #[.int .i64 (y.x.addr (firstC y.x.x (slA y.x.cls)) : Nat), .int .i64 0]) := rfl
      generalize ((y.x.addr (firstC y.x.x (slA y.x.cls)) : Nat) : Int) = ad at *
      go_wp2
      go_ret2
      have hf := HF.out
      rw [HAN.out] at hf ⊢
      exact hf
    | none =>
      rw [hn] at HNX
      cases hp : placeR 4 4 s.l with
      | none =>
        have HTO : Hid (takeO s (c : Int) = ((-1, 13), s)) := by
          show _ = _
          unfold takeO
          rw [if_pos hc, Int.toNat_natCast, hn]
          simp only [hp]
        have HOP : Hid (∀ W, Below w.heap.size w W → Calls Tryz.prog 40 #[.pointer (some ⟨H.gr, 0, none⟩), .int .i64 4, .int .i64 4, .int .i64 0, .int .i64 c] W fun e w' => e = .returned (.tuple #[.int .i64 (-1), .int .i64 13]) ∧ Below W.heap.size W w') := fun W hW =>
          gOpen_no H.gr H.cl pages H.b 0 H.c 4 4 0 c H.p s.l H.E W (h.ground.below hW) ⟨2, by decide, rfl⟩ (by decide) (by decide) (by decide) (by omega) hp
        obtain ⟨c0, -⟩ := h.hcells
        have HH := Lib.hid h
        clear h hI hc hn hp
        rw [HTO.out]
        go_enter Tryz.func29, Tryz.ntmps29
        go_wp2_with (fail)
        refine HR.out.mono ?_
        rintro e w1 ⟨rfl, hb1⟩
        have HB1 := Lib.hid hb1
        clear hb1
        go_wp2_with (fail)
        refine (HNX.out _ HB1.out).mono ?_
        rintro e w2 ⟨o, rfl, -, hox, hb2⟩
        obtain rfl : o = none := by cases o with | none => rfl | some y => cases hox
        have HB2 : Hid (Below w.heap.size w w2) := Below.via hb2 HB1.out.size HB1.out
        have d0 := cell_past HB2.out (cell_lt c0) c0
        clear hox hb2 c0
        rw [show ptrK none = .pointer none from rfl]
        go_wp2_with (fail)
        refine (HOP.out _ HB2.out).mono ?_
        rintro e w3 ⟨rfl, hb3⟩
        have HB3 : Hid (Below w.heap.size w w3) := Below.via hb3 HB2.out.size HB2.out
        clear hb3
        go_wp2
        go_ret2
        exact HH.out.stays HB3.out rfl
      | some k =>
        obtain ⟨hkl, -⟩ := placeR_spec hp
        obtain ⟨r, hr⟩ : ∃ r, s.l[k]? = some r := ⟨_, List.getElem?_eq_getElem hkl⟩
        obtain ⟨htkn, hfit⟩ := placeR_freeO hp hr
        have hbd := h.base.tile.bounds r (List.mem_of_getElem? hr)
        have hfr := free_take (al := 4) hr htkn (by decide) (by decide) hfit
        have hnum := h.num
        have hm := h.ground.map.most
        have hmod := Run.first_mod r 4
        have HTO : Hid (takeO s (c : Int) = takeFromO ⟨takeR s.l k r 4 4, insO ⟨r.first 4, c, 0, false⟩ s.A, s.R⟩ ⟨r.first 4, c, 0, false⟩) := by
          show _ = _
          unfold takeO
          rw [if_pos hc, Int.toNat_natCast, hn]
          simp only [hp, hr]
        have HOP : Hid (∀ W, Below w.heap.size w W → Calls Tryz.prog 40 #[.pointer (some ⟨H.gr, 0, none⟩), .int .i64 4, .int .i64 4, .int .i64 0, .int .i64 c] W
            (GOpenPost W H.gr H.cl H.p pages (takeR s.l k r 4 4) (setE H.E (r.first 4) (some (⟨r.first 4, 0, c, 0⟩, nextSt H.p.stamp)) 4) (H.b + 4) 0 H.c (r.first 4 : Nat) 0)) := fun W hW =>
          gOpen_yes H.gr H.cl pages H.b 0 H.c 4 4 0 c k H.p s.l H.E r W (h.ground.below hW) ⟨2, by decide, rfl⟩ (by decide) (by decide) (by omega) hp hr (by omega)
        obtain ⟨c0, c1, -⟩ := h.hcells
        have hne : ∀ z ∈ H.xs, ((z.x.page : Nat) : Int) ≠ (r.first 4 : Nat) := fun z hz e => by
          have h1 := h.base.tile.uniq (h.base.tk z.x (List.mem_append_left _ (h.mem' hz))) (List.mem_of_getElem? hr) (k := z.x.page) (Nat.le_refl _) (show z.x.page < z.x.page + 4 by omega) (by have := r.first_ge (al := 4) (by decide); omega) (by omega)
          rw [← h1] at htkn
          cases htkn
        have HNE := Lib.hid hne
        have HPR := Lib.hid (And.intro hp hr)
        have HFP : Hid (r.first 4 + 4 ≤ pages ∧ r.first 4 % 4 = 0 ∧ pages ≤ 64) := ⟨by omega, hmod, hm⟩
        have HNW : Hid (∀ W, Calls Tryz.prog 67 #[.int .i64 (((r.first 4 : Nat) : Int) * 256), .int .i64 c] W fun e w' => ∃ L : OL, e = .returned (.tuple #[.pointer (some ⟨L.s, 0, none⟩), .int .i64 0]) ∧ W.heap.size ≤ L.s ∧ W.heap.size ≤ L.r ∧ W.heap.size ≤ L.b ∧ OSlabAt w' L ⟨256 * r.first 4, c, 0⟩ ∧ Below W.heap.size W w') := fun W => by
          have := onew_yes (256 * r.first 4) c hc2 (by omega) (by omega) W
          rw [show ((256 * r.first 4 : Nat) : Int) = ((r.first 4 : Nat) : Int) * 256 by omega] at this
          exact this
        have hsh : IntKind.i64.wrap (((r.first 4 : Nat) : Int) * 256) = ((r.first 4 : Nat) : Int) * 256 := wraps_i64 _ (by omega) (by omega)
        have HC2 := Lib.hid hc2
        have HH := Lib.hid h
        clear h hI hc hn hp hr hkl htkn hfit hbd hfr hnum hm hmod hne hc2
        rw [HTO.out]
        generalize hf : r.first 4 = f at *
        have HFE := Lib.hid hf
        clear hf
        go_enter Tryz.func29, Tryz.ntmps29
        go_wp2_with (fail)
        refine HR.out.mono ?_
        rintro e w1 ⟨rfl, hb1⟩
        have HB1 := Lib.hid hb1
        clear hb1
        go_wp2_with (fail)
        refine (HNX.out _ HB1.out).mono ?_
        rintro e w2 ⟨o, rfl, -, hox, hb2⟩
        obtain rfl : o = none := by cases o with | none => rfl | some y => cases hox
        have HB2 : Hid (Below w.heap.size w w2) := Below.via hb2 HB1.out.size HB1.out
        have d0 := cell_past HB2.out (cell_lt c0) c0
        have d1 := cell_past HB2.out (cell_lt c1) c1
        clear hox hb2 c0 c1
        rw [show ptrK none = .pointer none from rfl]
        go_wp2_with (fail)
        refine (HOP.out _ HB2.out).mono ?_
        rintro e w3 ⟨rfl, p', hg3, hpf3, t3⟩
        have hoff : ¬ H.p.F H.h := HH.out.ground.offO HH.out.obj (by decide) (by decide) (by decide) (by decide) (by decide) (by decide)
        have e1 := turned_cell t3 hoff d1
        have HG3 := Lib.hid (And.intro hg3 (And.intro hpf3 t3))
        clear hg3 hpf3 t3 d0 d1
        go_wp2_with (fail)
        refine (HNW.out _).mono ?_
        rintro e w4 ⟨L, rfl, l1, l2, l3, hs4, hb4⟩
        have f1 := cell_past hb4 (cell_lt e1) e1
        have HM4 : Hid (w4.heap[H.mb]? = some (.map (H.xs.map oentry).toArray H.clk)) := by
          have h3 := (HG3.out.2.2.block _ (lt_of_block (HH.out.below HB2.out).map) HH.out.off).trans (HH.out.below HB2.out).map
          exact (hb4.block _ (lt_of_block h3)).trans h3
        have hup := fun v => run_update_old HM4.out (f : Int) HNE.out v
        have HB4 := Lib.hid hb4
        have HS4 := Lib.hid hs4
        have HL4 := Lib.hid (And.intro l1 (And.intro l2 l3))
        clear hb4 hs4 l1 l2 l3 e1
        go_upto_region 10 with (fail)
        have HST : Hid (∃ (y : OS) (H1 : OHL), y.L = L ∧ y.x = ⟨f, c, 0, false⟩ ∧ H1.left = H.left ∧ H1.G = H.G ∧ H1.c = H.c ∧ y ∈ H1.xs ∧ OHeapM (setBlock w4 H.mb (.map ((H.xs.map oentry) ++ [MapEntry.mk (.int .i64 (f : Int)) (.pointer (some ⟨L.s, 0, none⟩)) H.clk]).toArray (H.clk + 1))) H1 pages ⟨takeR s.l k r 4 4, insO ⟨f, c, 0, false⟩ s.A, s.R⟩ ∧ H.Of H1 w.heap.size ∧
            Turned H.F w (setBlock w4 H.mb (.map ((H.xs.map oentry) ++ [MapEntry.mk (.int .i64 (f : Int)) (.pointer (some ⟨L.s, 0, none⟩)) H.clk]).toArray (H.clk + 1)))) := by
          obtain ⟨hg3, hpf3, t3⟩ := HG3.out
          have h2 := HH.out.below HB2.out
          have tM : Turned (fun j => j = H.mb) w4 (setBlock w4 H.mb (.map ((H.xs.map oentry) ++ [MapEntry.mk (.int .i64 (f : Int)) (.pointer (some ⟨L.s, 0, none⟩)) H.clk]).toArray (H.clk + 1))) := Turned.setBlock (F := fun j => j = H.mb) (Turned.refl _ _) (.inl rfl) _
          have hs3 := t3.size
          have hsw := HB2.out.size
          have hmbl := lt_of_block h2.map
          have tA : Turned (mapF2 H) w2 (setBlock w4 H.mb (.map ((H.xs.map oentry) ++ [MapEntry.mk (.int .i64 (f : Int)) (.pointer (some ⟨L.s, 0, none⟩)) H.clk]).toArray (H.clk + 1))) :=
            ((t3.mono (G := mapF2 H) (fun j hj _ => .inr hj)).trans (Turned.of_below (F := mapF2 H) HB4.out (Nat.le_refl _)) (fun _ h _ => h)).trans (tM.mono (G := mapF2 H) (fun j hj _ => .inl hj)) (fun _ h _ => h)
          have hg5 := (hg3.below HB4.out).turned tM (fun e => blockO_ne_map h2.ground.obj h2.map e) (fun j hj e => by
            rcases hpf3 j hj with e2 | e2
            · exact HH.out.off (by rw [← e]; exact e2)
            · omega)
          have hs5 := HS4.out.turned tM (by have := HL4.out.1; omega) (by have := HL4.out.2.1; omega) (by have := HL4.out.2.2; omega)
          have hf := HFE.out
          obtain ⟨H1, q1, q2, q3, q4, q5, q6⟩ := h2.insNew (k := k) (cls := c) (st := nextSt H.p.stamp) (r := r) (y := ⟨L, H.clk, ⟨f, c, 0, false⟩⟩) (p := p') HPR.out.1 HPR.out.2 HC2.out (by rw [hf]) tA (by rw [hf]; exact hg5) (fun j hj => (hpf3 j hj).imp id fun e => e)
            (heap_setBlock_eq (lt_of_block HM4.out) _) rfl hs5 (fun j hj => by
              rcases hj with e | e | e
              · have := HL4.out.1; show w2.heap.size ≤ j; rw [e]; show w2.heap.size ≤ L.s; omega
              · have := HL4.out.2.1; show w2.heap.size ≤ j; rw [e]; show w2.heap.size ≤ L.r; omega
              · have := HL4.out.2.2; show w2.heap.size ≤ j; rw [e]; show w2.heap.size ≤ L.b; omega)
          refine ⟨⟨L, H.clk, ⟨f, c, 0, false⟩⟩, H1, rfl, rfl, q1, q2, q3, q4, q5, ⟨q6.h, q6.gr, q6.cl, q6.rg, q6.mb, fun j hj => (q6.foot j hj).imp id fun e => Nat.le_trans hsw e⟩, ?_⟩
          exact (Turned.of_below (F := H.F) HB2.out (Nat.le_refl _)).trans tA (fun j hj _ => mapF2.sub hj)
        generalize (setBlock w4 H.mb (.map ((H.xs.map oentry) ++ [MapEntry.mk (.int .i64 (f : Int)) (.pointer (some ⟨L.s, 0, none⟩)) H.clk]).toArray (H.clk + 1))) = W5 at *
        obtain ⟨y, H1, rfl, hyx, q1, q2, q3, hy, h5, o5, t5⟩ := HST.out
        have hclr : ∃ k, k < slA y.x.cls ∧ y.x.x.testBit k = false := ⟨0, by rw [hyx]; have := (szA_all c HC2.out).2.2.2.1; show 0 < slA c; omega, by rw [hyx]; exact Nat.zero_testBit 0⟩
        have HTK := Lib.hid (otakeM_any h5 hy hclr)
        have HQ := Lib.hid (And.intro q1 (And.intro q2 q3))
        have HM := Lib.hid (And.intro h5 hy)
        have HOT := Lib.hid (And.intro o5 t5)
        have hh1 : H1.h = H.h := o5.h
        have HYX := Lib.hid hyx
        clear h5 hy hclr q1 q2 q3 o5 t5 HST f1 hup
        clear hyx
        go_wp2_with (fail)
        refine HTK.out.mono ?_
        rintro e w6 ⟨rfl, h6, t6⟩
        have hy6 : ({ y with x := y.x.set (firstC y.x.x (slA y.x.cls)) } : OS) ∈ updK (y.x.set (firstC y.x.x (slA y.x.cls))) H1.xs := List.mem_map.2 ⟨y, HM.out.2, if_pos rfl⟩
        have hse : Calls Tryz.prog 60 #[.pointer (some ⟨H.h, 0, none⟩), .pointer (some ⟨y.L.s, 0, none⟩)] w6 (RingPost w6 { H1 with xs := updK (y.x.set (firstC y.x.x (slA y.x.cls))) H1.xs } pages ⟨takeR s.l k r 4 4, updO (insO ⟨f, c, 0, false⟩ s.A) (y.x.set (firstC y.x.x (slA y.x.cls))), s.R⟩ (settleR s.R (y.x.set (firstC y.x.x (slA y.x.cls))))) := by
          rw [← hh1]
          exact osettle_any h6 hy6
        have HSE := Lib.hid hse
        have HT6 := Lib.hid t6
        clear h6 hy6 t6 hse
        go_wp2_with (fail)
        refine HSE.out.mono ?_
        rintro e w7 ⟨rfl, h7, t7⟩
        have hF := take_post (s := s) (s1 := ⟨takeR s.l k r 4 4, insO ⟨f, c, 0, false⟩ s.A, s.R⟩) HQ.out HOT.out.1 HOT.out.2 HM.out.1 HM.out.2 HT6.out h7 t7
        have HAN : Hid (ansO (takeFromO ⟨takeR s.l k r 4 4, insO ⟨f, c, 0, false⟩ s.A, s.R⟩ ⟨f, c, 0, false⟩).1 = .tuple #[.int .i64 (y.x.addr (firstC y.x.x (slA y.x.cls)) : Nat), .int .i64 0]) := by
          show _ = _
          rw [← HYX.out]
          rfl
        rw [HYX.out] at hF
        have HF := Lib.hid hF
        clear h7 t7 HSE HTK hF
        generalize ((y.x.addr (firstC y.x.x (slA y.x.cls)) : Nat) : Int) = ad at *
        go_wp2
        go_ret2
        have hf := HF.out
        rw [HAN.out] at hf ⊢
        exact hf
  · have hcl : clsOkA cls = false := decide_eq_false hc
    have HTO : Hid (takeO s cls = ((-1, 11), s)) := by
      show _ = _
      unfold takeO
      rw [if_neg hc]
    rw [hcl] at HR
    have HH := Lib.hid h
    clear h hI hcl hc
    rw [HTO.out]
    go_enter Tryz.func29, Tryz.ntmps29
    go_wp2_with (fail)
    refine HR.out.mono ?_
    rintro e w1 ⟨rfl, hb1⟩
    have HB1 := Lib.hid hb1
    clear hb1
    go_wp2
    go_ret2
    exact HH.out.stays HB1.out rfl

end Go.Proofs.YtlljejmblmjjnaaGreatDoor

/- oldheap: Some. -/
namespace Go.Proofs.YtlljejmblmjjnaaGreatDoor
set_option linter.unusedVariables false
set_option linter.unusedSimpArgs false
open Go.RowKit Go.ChangeMaps

theorem ownsRow_intsO {w : World} {base : Nat} {e : TypeId} {v : Value} {n : Nat} {xs : List Value} (h : w.ownsRow base e 1 v n xs) :
    ∃ pv cap, v = .slice pv n cap ∧ ∀ i, i < n → ∃ g, pv = some ⟨g, 0, none⟩ ∧ g < w.heap.size ∧ w.cell? ⟨g, i, none⟩ = xs[i]? := by
  rcases h.2 with ⟨rfl, rfl⟩ | ⟨g, cap, cur, rfl, hb, hg, h1, h2, h3, h4⟩
  · exact ⟨none, 0, rfl, fun i hi => by omega⟩
  · refine ⟨_, cap, rfl, fun i hi => ⟨g, rfl, lt_of_block hg, ?_⟩⟩
    rw [cell_of_block hg, ← h4, List.getElem?_take, if_pos (by omega), Array.getElem?_toList]

theorem takenOP_le {pages : Nat} : ∀ {A : List PO}, (∀ x ∈ A, x.Ok0 pages) → (takenOP A).length ≤ 64 * A.length
  | [], _ => Nat.zero_le _
  | x :: A, h => by
    have ih := takenOP_le (A := A) (fun y hy => h y (List.mem_cons_of_mem _ hy))
    unfold takenOP at *
    rw [List.flatMap_cons, List.length_append, List.length_map, List.length_cons]
    have h1 : (takenO x.O).length ≤ slA x.cls := ones_le x.x (slA x.cls)
    have h2 := (szA_all _ (h x List.mem_cons_self).cls).2.2.2.2.1
    omega
theorem OHeapM.bound {w : World} {H : OHL} {pages : Nat} {s : OP} (h : OHeapM w H pages s) : 4 * s.A.length ≤ pages ∧ pages ≤ 64 ∧ H.xs.length = s.A.length := by
  have h1 := h.num
  have h2 := h.cnt
  have h3 := h.ground.map.most
  have h4 := h.perm.length_eq
  rw [List.length_map] at h4
  exact ⟨by omega, h3, h4⟩
theorem own_turnedO {F : Nat → Prop} {w w' : World} {base n size : Nat} {e : TypeId} {v : Value} {xs : List Value} (h : w.ownsRow base e size v n xs) (t : Turned F w w') (hF : ∀ g cs, w.heap[g]? = some (.cells cs e (0, 0)) → v.ownBlock = some g → ¬ F g) : w'.ownsRow base e size v n xs := by
  refine ⟨h.1, ?_⟩
  rcases h.2 with h2 | ⟨g, cap, cur, rfl, hb, hg, h3⟩
  · exact .inl h2
  · exact .inr ⟨g, cap, cur, rfl, hb, (t.block _ (lt_of_block hg) (hF g cur hg rfl)).trans hg, h3⟩
/-- A block of another kind is none of the heap's. -/
theorem OHeapM.offT {w : World} {H : OHL} {pages : Nat} {s : OP} (h : OHeapM w H pages s) {x : Nat} {cs : Array Value} {T : TypeId} (hx : w.heap[x]? = some (.cells cs T (0, 0)))
    (hT : [80, 86, 154, 148, 97, 191, 187, 166, 169, 108, 177, 208, 211, 161].contains T = false) : ¬ H.F x := by
  simp only [List.contains_cons, List.contains_nil, Bool.or_eq_false_iff, beq_eq_false_iff_ne] at hT
  obtain ⟨t1, t2, t3, t4, t5, t6, t7, t8, t9, t10, t11, t12, t13, t14, -⟩ := hT
  obtain ⟨⟨c1, e1⟩, ⟨c2, e2⟩, ⟨c3, e3⟩⟩ := h.ring.blocks
  rintro (e | e | e | e | e | e | ⟨y, hy, e | e | e⟩)
  · exact blockO_ne hx h.obj t1 e
  · exact blockO_ne_map hx h.map e
  · exact blockO_ne hx h.ground.obj t5 e
  · exact blockO_ne hx e1 t6 e
  · rcases e with e | e
    · exact blockO_ne hx e2 t7 e
    · exact blockO_ne hx e3 t8 e
  · exact h.ground.offO hx t9 t10 t11 t12 t13 t14 e
  · exact blockO_ne hx (h.each y hy).obj t2 e
  · exact blockO_ne hx (h.each y hy).row.obj t3 e
  · exact blockO_ne hx (h.each y hy).row.words t4 e
theorem Turned.of_grownO {w w' : World} {row : Option Nat} (h : w.grownBy w' row) : Turned (fun k => row = some k) w w' :=
  ⟨h.os, h.tape, h.output, h.size, fun k hk hF => h.block k hk (fun e => hF e.symm)⟩
/-- A row of the call's own that grows leaves the heap as it is. -/
theorem OHeapM.grown {w w' : World} {H : OHL} {pages : Nat} {s : OP} (h : OHeapM w H pages s) {o : Obj} {base n : Nat} {v : Value} {xs : List Value} (h0 : 0 < base) (hr : w.ownsRow base 3 1 v n xs) (hg : (w.alloc o).grownBy w' v.ownBlock) :
    OHeapM w' H pages s ∧ Turned (fun k => base ≤ k) w w' := by
  have ha : Below w.heap.size w (w.alloc o) := (Below.refl _ _).alloc (Nat.le_refl _) _
  have h1 := h.below ha
  have t := Turned.of_grownO hg
  have key : ∀ k, v.ownBlock = some k → base ≤ k ∧ ∃ cs, (w.alloc o).heap[k]? = some (.cells cs 3 (0, 0)) := fun k hk => by
    have hr1 := ownsRow_below hr ha
    rcases hr1.2 with ⟨rfl, -⟩ | ⟨g, cap, cur, rfl, hb, hgg, -⟩
    · cases hk
    · cases hk
      exact ⟨hb, _, hgg⟩
  refine ⟨h1.turned t (fun e => ?_) fun k hk hF => ?_, (Turned.of_below (F := fun k => base ≤ k) ha (Nat.le_refl _)).trans t fun k hk _ => (key k hk).1⟩
  · have := (key 0 e).1
    omega
  · obtain ⟨-, cs, e2⟩ := key k hF
    exact h1.offT e2 (by decide) hk
def SomePostO (w : World) (H : OHL) (pages : Nat) (s s' : OP) (res : List Int) (err : Int) (e : Ending) (w' : World) : Prop :=
  ∃ v, OMPost w H pages s s' (.tuple #[v, .int .i64 err]) e w' ∧ Ints w' w.heap.size v res
structure SomeIO (w : World) (H : OHL) (pages : Nat) (s : OP) (cls : Int) (n k : Nat) (v : Value) (wr : World) (H1 : OHL) (s1 : OP) (out : List Int) : Prop where
  le : k ≤ n
  row : wr.ownsRow w.heap.size 3 1 v out.length (intsV out)
  left : H1.left = H.left ∧ H1.G = H.G ∧ H1.c = H.c
  heap : OHeapM wr H1 pages s1
  of : H.Of H1 w.heap.size
  turned : Turned H.F w wr
  eq : someLO (n - k) s1 cls out = someLO n s cls []
  nodup : out.Nodup
  sub : ∀ a ∈ out, TknO s1.A a
  mono : ∀ t, TknO s.A t → TknO s1.A t
  good : OInv pages s1
theorem SomeIO.short {w : World} {H : OHL} {pages : Nat} {s : OP} {cls : Int} {n k : Nat} {v : Value} {wr : World} {H1 : OHL} {s1 : OP} {out : List Int} (h : SomeIO w H pages s cls n k v wr H1 s1 out) : out.length ≤ 2048 := by
  have h1 := nodup_subO h.nodup (fun a ha => takenOP_mem.2 (h.sub a ha))
  have h2 := takenOP_le (pages := pages) (A := s1.A) fun x hx => (h.good.each x hx).ok0
  have h3 := h.heap.bound
  omega

set_option maxRecDepth 8000 in
set_option maxHeartbeats 4000000 in
theorem hsomeO_any {w : World} {H : OHL} {pages : Nat} {s : OP} (h : OHeapM w H pages s) (hg : OInv pages s) (cls n : Int) (hn : n < 2 ^ 63) :
    Calls Tryz.prog 39 #[.pointer (some ⟨H.h, 0, none⟩), .int .i64 cls, .int .i64 n] w (SomePostO w H pages s (someO s cls n).2 (someO s cls n).1.1 (someO s cls n).1.2) := by
  obtain ⟨i0, hi, hz0, hz1, hz2⟩ := info_parts info_int2
  have HR := Lib.hid (oright_any cls w)
  have HH := Lib.hid h
  have HG := Lib.hid hg
  clear h hg
  by_cases hc : 0 ≤ cls ∧ cls < 16
  · rw [show clsOkA cls = true from decide_eq_true hc] at HR
    by_cases hn1 : 1 ≤ n
    · obtain ⟨m, hm⟩ : ∃ m : Nat, n = m := ⟨n.toNat, by omega⟩
      have HS : Hid (someO s cls n = someLO m s cls []) := by
        show _ = _
        unfold someO
        rw [if_pos ⟨hc.1, hc.2, hn1⟩, hm, Int.toNat_natCast]
      have hnl : ¬ n < 1 := by omega
      have HM := Lib.hid hm
      clear hm
      have HN63 := Lib.hid hn
      clear hc hn hn1
      go_enter Tryz.func39, Tryz.ntmps39
      go_wp2_with (fail)
      refine HR.out.mono ?_
      rintro e w1 ⟨rfl, hb⟩
      have HB1 := Lib.hid hb
      clear hb
      go_wp2
      go_loopw [8, 19] (fun v i wr => ∃ (k : Nat) (H1 : OHL) (s1 : OP) (out : List Int), i = .int .i64 k ∧ SomeIO w H pages s cls m k v wr H1 s1 out) (fun _ i _ => m - (intOf i).toNat)
      case atStart =>
        exact ⟨0, H, s, [], rfl, Nat.zero_le _, World.ownsRow_nil _ _ _ _, ⟨rfl, rfl, rfl⟩, HH.out.below HB1.out, OHL.Of.refl _ _, Turned.of_below HB1.out (Nat.le_refl _), rfl, List.nodup_nil, by simp, fun _ h => h, HG.out⟩
      case round =>
        obtain ⟨k, H1, s1, out, rfl, hI⟩ := hrel
        have hle := hI.le
        have hsh := hI.short
        by_cases hlt : k < m
        · have HT := Lib.hid (htakeO_any hI.heap hI.good cls)
          have hhh : H1.h = H.h := hI.of.h
          rw [hhh] at HT
          have hkn : (k : Int) < n := by have := HM.out; omega
          have hm63 : m < 2 ^ 63 := by have := HM.out; have := HN63.out; omega
          have hkw : IntKind.i64.wrap ((k : Int) + 1) = (k : Int) + 1 := by rw [IntKind.wrap_i64]; omega
          have hstep : someLO (m - k) s1 cls out = if (takeO s1 cls).1.2 = 0 then someLO (m - (k + 1)) (takeO s1 cls).2 cls (out ++ [(takeO s1 cls).1.1]) else if out = [] then (([], (takeO s1 cls).1.2), (takeO s1 cls).2) else ((out, 0), (takeO s1 cls).2) := by
            rw [show m - k = (m - (k + 1)) + 1 by omega]
            rfl
          have HIV := Lib.hid hI
          by_cases he : (takeO s1 cls).1.2 = 0
          · obtain ⟨t1, t2, -, -, -⟩ := take_yesO hI.good he
            rw [if_pos he] at hstep
            have HSTEP := Lib.hid hstep
            have HT1 := Lib.hid t1
            have HT2 := Lib.hid t2
            have HGD := Lib.hid (take_invO hI.good cls)
            clear hstep t1 t2 hI
            unfold ansO at HT
            rw [he] at HT
            have HE := Lib.hid he
            clear he
            generalize (takeO s1 cls).1.1 = ad at *
            go_wp2_with (fail)
            refine HT.out.mono ?_
            rintro e w2 ⟨rfl, H2, q1, qG, qc, q2, q3, q4⟩
            have hrow2 := own_turnedO HIV.out.row q4 (fun g cs hg _ => HIV.out.heap.offT hg (by decide))
            have hTw := HIV.out.turned.trans q4 (fun x hx hxl => (HIV.out.of.foot x hx).elim id (fun hh => by omega))
            have hszw := hTw.size
            have HQ2 := Lib.hid q2
            have HROW2 := Lib.hid hrow2
            have HTW := Lib.hid hTw
            have HOF2 : Hid (H.Of H2 w.heap.size) := HIV.out.of.trans q3 HIV.out.turned.size
            have HL2 : Hid (H2.left = H.left ∧ H2.G = H.G ∧ H2.c = H.c) := ⟨q1.trans HIV.out.left.1, qG.trans HIV.out.left.2.1, qc.trans HIV.out.left.2.2⟩
            clear q1 qG qc q2 q3 q4 hrow2 hTw
            go_wp2_with (at_builtin; refine wpList_append_own _ rfl _ _ 38 rfl w.heap.size 3 i0 (.int .i64 0) 1 8 Tryz.underlying38 hi hz0 hz1 hz2 rfl (by decide) _ _ _ rfl (HROW2.out.alloc _) ⟨w2.heap.size, 0, none⟩ 1 1 [.int .i64 ad] rfl rfl (cell_one_new _ _ _) (fun u hu => by simp at hu; rcases hu with rfl; rfl) (by unfold maxLen; omega) (by omega) (by simp; omega) ?_; intro v' w3 hown' hgrow3 hnil3)
            have hgr := HQ2.out.grown HH.out.size HROW2.out hgrow3
            have HI3 : Hid (SomeIO w H pages s cls m (k + 1) v' w3 H2 (takeO s1 cls).2 (out ++ [ad])) := by
              refine ⟨hlt, ?_, HL2.out, hgr.1, HOF2.out, HTW.out.trans hgr.2 (fun x hx hxl => absurd hx (by omega)), ?_, ?_, ?_, fun t ht => (HT2.out t).2 (.inl (HIV.out.mono t ht)), HGD.out⟩
              · rw [List.length_append]
                unfold intsV
                rw [List.map_append]
                exact hown'
              · rw [← HSTEP.out]
                exact HIV.out.eq
              · rw [List.nodup_append]
                exact ⟨HIV.out.nodup, by simp, fun a ha b hb e => HT1.out (by simp at hb; rw [← hb, ← e]; exact HIV.out.sub a ha)⟩
              · intro a ha
                rcases List.mem_append.1 ha with ha | ha
                · exact (HT2.out a).2 (.inl (HIV.out.sub a ha))
                · exact (HT2.out a).2 (.inr (by simpa using ha))
            clear hgr hown' hgrow3 hnil3
            go_wp2
            go_roundw
            case rel => exact ⟨k + 1, H2, _, _, by go_num, HI3.out⟩
            case measure => simp [intOf]; omega
          · rw [if_neg he] at hstep
            have hns := take_noO hI.good he
            unfold ansO at HT
            rw [hns] at HT hstep
            have HSTEP := Lib.hid hstep
            have hbe : ((takeO s1 cls).1.2 == 0) = false := by simpa using he
            clear hstep hI he hns
            generalize (takeO s1 cls).1.2 = er at *
            generalize (takeO s1 cls).1.1 = ad at *
            obtain ⟨pv, cp, hv, hcell⟩ := ownsRow_intsO HIV.out.row
            subst hv
            have HIV2 : Hid (SomeIO w H pages s cls m k (.slice pv out.length cp) wr H1 s1 out) := HIV
            cases out with
            | nil =>
              go_wp2_with (fail)
              refine HT.out.mono ?_
              rintro e w2 ⟨rfl, H2, q1, qG, qc, q2, q3, q4⟩
              have OP : Hid (SomePostO w H pages s (someO s cls n).2 (someO s cls n).1.1 (someO s cls n).1.2 (.returned (.tuple #[.slice none 0 0, .int .i64 er])) w2) := by
                show SomePostO _ _ _ _ _ _ _ _ _
                rw [HS.out, ← HIV2.out.eq, HSTEP.out]
                exact ⟨_, ⟨rfl, H2, q1.trans HIV2.out.left.1, qG.trans HIV2.out.left.2.1, qc.trans HIV2.out.left.2.2, q2, HIV2.out.of.trans q3 HIV2.out.turned.size, HIV2.out.turned.trans q4 (fun x hx hxl => (HIV2.out.of.foot x hx).elim id (fun hh => by omega))⟩, Ints.nil _ _⟩
              clear q1 qG qc q2 q3 q4
              go_wp2
              go_ret2
              exact OP.out
            | cons a0 out0 =>
              have hpos : (((a0 :: out0).length : Nat) : Int) > 0 := by rw [List.length_cons]; omega
              have hrl : (a0 :: out0).length ≤ 2048 := hsh
              go_wp2_with (fail)
              refine HT.out.mono ?_
              rintro e w2 ⟨rfl, H2, q1, qG, qc, q2, q3, q4⟩
              have hrow2 := own_turnedO HIV2.out.row q4 (fun g cs hg _ => HIV2.out.heap.offT hg (by decide))
              have OP : Hid (SomePostO w H pages s (someO s cls n).2 (someO s cls n).1.1 (someO s cls n).1.2 (.returned (.tuple #[.slice pv (a0 :: out0).length cp, .int .i64 0])) w2) := by
                show SomePostO _ _ _ _ _ _ _ _ _
                rw [HS.out, ← HIV2.out.eq, HSTEP.out, if_neg (by simp)]
                exact ⟨_, ⟨rfl, H2, q1.trans HIV2.out.left.1, qG.trans HIV2.out.left.2.1, qc.trans HIV2.out.left.2.2, q2, HIV2.out.of.trans q3 HIV2.out.turned.size, HIV2.out.turned.trans q4 (fun x hx hxl => (HIV2.out.of.foot x hx).elim id (fun hh => by omega))⟩, Ints.of_own hrow2 rfl⟩
              clear q1 qG qc q2 q3 q4 hrow2 hcell
              generalize (a0 :: out0).length = ln at *
              go_wp2
              go_ret2
              exact OP.out
        · have hkm : k = m := by omega
          have hkn : ¬ (k : Int) < n := by have := HM.out; omega
          obtain ⟨pv, cp, hv, hcell⟩ := ownsRow_intsO hI.row
          subst hv
          have OP : Hid (SomePostO w H pages s (someO s cls n).2 (someO s cls n).1.1 (someO s cls n).1.2 (.returned (.tuple #[.slice pv out.length cp, .int .i64 0])) wr) := by
            show SomePostO _ _ _ _ _ _ _ _ _
            have heq := hI.eq
            rw [show m - k = 0 by omega] at heq
            rw [HS.out, ← heq]
            exact ⟨_, ⟨rfl, H1, hI.left.1, hI.left.2.1, hI.left.2.2, hI.heap, hI.of, hI.turned⟩, Ints.of_own hI.row rfl⟩
          clear hI hkm hle hlt hcell
          go_wp2
          go_ret2
          exact OP.out
    · have HS : Hid (someO s cls n = (([], 11), s)) := by
        show _ = _
        unfold someO
        rw [if_neg (by omega)]
      have hnl : n < 1 := by omega
      clear hc hn hn1
      go_enter Tryz.func39, Tryz.ntmps39
      go_wp2_with (fail)
      refine HR.out.mono ?_
      rintro e w1 ⟨rfl, hb⟩
      have HB1 := Lib.hid hb
      clear hb
      go_wp2
      go_ret2
      rw [HS.out]
      exact ⟨_, HH.out.stays HB1.out rfl, Ints.nil _ _⟩
  · rw [show clsOkA cls = false from decide_eq_false hc] at HR
    have HS : Hid (someO s cls n = (([], 11), s)) := by
      show _ = _
      unfold someO
      rw [if_neg (by omega)]
    clear hc hn
    go_enter Tryz.func39, Tryz.ntmps39
    go_wp2_with (fail)
    refine HR.out.mono ?_
    rintro e w1 ⟨rfl, hb⟩
    have HB1 := Lib.hid hb
    clear hb
    go_wp2
    go_ret2
    rw [HS.out]
    exact ⟨_, HH.out.stays HB1.out rfl, Ints.nil _ _⟩

end Go.Proofs.YtlljejmblmjjnaaGreatDoor
