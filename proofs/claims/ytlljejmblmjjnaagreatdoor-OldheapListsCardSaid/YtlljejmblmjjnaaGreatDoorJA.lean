/- ground: the model; what only reads. -/
import Derived.Test.YtlljejmblmjjnaaGreatDoorDq
import Derived.Test.YtlljejmblmjjnaaGreatDoorEA
import Derived.Test.YtlljejmblmjjnaaGreatDoorHA
import Derived.WalkKit
import Derived.WalkSpells
import Derived.WalkLawsBesides
import Derived.BigQuiet
import Derived.Lib.Hide
namespace Go.Proofs.YtlljejmblmjjnaaGreatDoor
set_option linter.unusedVariables false
set_option linter.unusedSimpArgs false
open Go.RowKit Go.ChangeMaps

/-- Where a ground's parts lie. -/
structure GPl where
  sp : Nat
  sv : Value
  mo : Nat
  rb : Nat
  lf : Option Nat
  stamp : Nat
  lg : Nat
  mb : Nat
def GPl.F (p : GPl) : Nat → Prop := fun k => k = p.sp ∨ p.sv.ownBlock = some k ∨ k = p.mo ∨ k = p.rb ∨ p.lf = some k ∨ k = p.lg ∨ k = p.mb

/-- A ground in memory: runs l, entries E, pages held a, b, c by version; the cells' object is cl. -/
structure GroundAt (w : World) (gr cl : Nat) (p : GPl) (pages : Nat) (l : List Run) (E : List PE) (a b c : Nat) : Prop where
  obj : w.heap[gr]? = some (.cells #[.pointer (some ⟨cl, 0, none⟩), .pointer (some ⟨p.sp, 0, none⟩), .pointer (some ⟨p.mo, 0, none⟩), .pointer (some ⟨p.lg, 0, none⟩), .int .i64 pages] 97 (0, 0))
  spans : SpansAt w p.sp p.sv pages l
  map : MapAt w p.mo p.rb p.lf pages E p.stamp
  led : LedgerAt w p.lg p.mb pages a b c

theorem GroundAt.turned {F : Nat → Prop} {w w' : World} {gr cl pages a b c : Nat} {p : GPl} {l : List Run} {E : List PE} (h : GroundAt w gr cl p pages l E a b c) (t : Turned F w w') (hg : ¬ F gr) (hp : ∀ k, p.F k → ¬ F k) : GroundAt w' gr cl p pages l E a b c :=
  ⟨(t.block _ (lt_of_block h.obj) hg).trans h.obj, h.spans.turned t (hp _ (.inl rfl)) (fun g hgv => hp _ (.inr (.inl hgv))),
    h.map.turned t (hp _ (.inr (.inr (.inl rfl)))) (hp _ (.inr (.inr (.inr (.inl rfl))))) (fun k hk => hp _ (.inr (.inr (.inr (.inr (.inl hk)))))),
    h.led.turned t (hp _ (.inr (.inr (.inr (.inr (.inr (.inl rfl))))))) (hp _ (.inr (.inr (.inr (.inr (.inr (.inr rfl)))))))⟩
theorem GroundAt.below {w w' : World} {gr cl pages a b c : Nat} {p : GPl} {l : List Run} {E : List PE} (h : GroundAt w gr cl p pages l E a b c) (hb : Below w.heap.size w w') : GroundAt w' gr cl p pages l E a b c :=
  h.turned (Turned.of_below (F := fun _ => False) hb (Nat.le_refl _)) (fun h => h) (fun _ _ h => h)

theorem GroundAt.cells {w : World} {gr cl pages a b c : Nat} {p : GPl} {l : List Run} {E : List PE} (h : GroundAt w gr cl p pages l E a b c) :
    w.cell? ⟨gr, 0, none⟩ = some (.pointer (some ⟨cl, 0, none⟩)) ∧ w.cell? ⟨gr, 1, none⟩ = some (.pointer (some ⟨p.sp, 0, none⟩)) ∧ w.cell? ⟨gr, 2, none⟩ = some (.pointer (some ⟨p.mo, 0, none⟩)) ∧ w.cell? ⟨gr, 3, none⟩ = some (.pointer (some ⟨p.lg, 0, none⟩)) ∧ w.cell? ⟨gr, 4, none⟩ = some (.int .i64 pages) := by
  refine ⟨?_, ?_, ?_, ?_, ?_⟩ <;> (rw [cell_of_block h.obj]; rfl)

set_option maxRecDepth 8000 in
set_option maxHeartbeats 1000000 in
theorem gHeld_any (gr cl pages a b c : Nat) (p : GPl) (l : List Run) (E : List PE) (k : Nat) (hk : k < 3) (w : World) (h : GroundAt w gr cl p pages l E a b c) :
    Calls Tryz.prog 22 #[.pointer (some ⟨gr, 0, none⟩), .int .i64 k] w fun e w' => e = .returned (.int .i64 (heldN a b c k : Nat)) ∧ w = w' := by
  obtain ⟨-, -, -, c3, -⟩ := h.cells
  have HH := Lib.hid (held_any p.lg p.mb pages a b c k hk w h.led)
  clear h
  go_enter Tryz.func22, Tryz.ntmps22
  go_wp2_with (fail)
  refine HH.out.mono ?_
  rintro e w1 ⟨rfl, rfl⟩
  go_wp2
  go_ret
  exact ⟨rfl, rfl⟩

set_option maxRecDepth 8000 in
set_option maxHeartbeats 1000000 in
theorem gFree_any (gr cl pages a b c : Nat) (p : GPl) (l : List Run) (E : List PE) (w : World) (h : GroundAt w gr cl p pages l E a b c) :
    Calls Tryz.prog 24 #[.pointer (some ⟨gr, 0, none⟩)] w fun e w' => e = .returned (.int .i64 (freeN l : Nat)) ∧ Below w.heap.size w w' := by
  obtain ⟨-, c1, -⟩ := h.cells
  have HF := Lib.hid (spFree_any p.sp pages p.sv l w h.spans)
  clear h
  go_enter Tryz.func24, Tryz.ntmps24
  go_wp2_with (fail)
  refine HF.out.mono ?_
  rintro e w1 ⟨rfl, hb⟩
  have HB := Lib.hid hb
  clear hb
  go_wp2
  go_ret
  exact ⟨rfl, HB.out⟩

end Go.Proofs.YtlljejmblmjjnaaGreatDoor

/- ground: its parts lie apart; Len, At. -/
namespace Go.Proofs.YtlljejmblmjjnaaGreatDoor
set_option linter.unusedVariables false
set_option linter.unusedSimpArgs false
open Go.RowKit Go.ChangeMaps

theorem SpansAt.off {w : World} {sp pages : Nat} {v : Value} {l : List Run} (h : SpansAt w sp v pages l) {x : Nat} {o : Obj} (hx : w.heap[x]? = some o) (h1 : ∀ cs, o ≠ .cells cs 169 (0, 0)) (h2 : ∀ cs, o ≠ .cells cs 108 (0, 0)) : ¬ spF sp v x := by
  rintro (rfl | hv)
  · rw [h.obj] at hx
    exact h1 _ (Option.some.inj hx).symm
  · rcases h.row.2 with ⟨rfl, -⟩ | ⟨g, cap, cur, rfl, hb, hg, -⟩
    · cases hv
    · cases hv
      rw [hg] at hx
      exact h2 _ (Option.some.inj hx).symm
def mapF (m rb : Nat) (lf : Option Nat) : Nat → Prop := fun j => j = m ∨ j = rb ∨ lf = some j
theorem MapAt.off {w : World} {m rb pages stamp : Nat} {lf : Option Nat} {E : List PE} (h : MapAt w m rb lf pages E stamp) {x : Nat} {o : Obj} (hx : w.heap[x]? = some o) (h1 : ∀ cs, o ≠ .cells cs 177 (0, 0)) (h2 : ∀ cs, o ≠ .cells cs 208 (0, 0)) (h3 : ∀ cs, o ≠ .cells cs 211 (0, 0)) : ¬ mapF m rb lf x := by
  rintro (rfl | rfl | hl)
  · rw [h.obj] at hx
    exact h1 _ (Option.some.inj hx).symm
  · rw [h.root] at hx
    exact h2 _ (Option.some.inj hx).symm
  · rw [(h.leaf _ hl).1] at hx
    exact h3 _ (Option.some.inj hx).symm
theorem LedgerAt.off {w : World} {lg mb cap a b c : Nat} (h : LedgerAt w lg mb cap a b c) {x : Nat} {o : Obj} (hx : w.heap[x]? = some o) (h1 : ∀ cs, o ≠ .cells cs 161 (0, 0)) (h2 : ∀ es clk, o ≠ .map es clk) : ¬ (x = lg ∨ x = mb) := by
  rintro (rfl | rfl)
  · obtain ⟨pk, h3⟩ := h.obj
    rw [h3] at hx
    exact h1 _ (Option.some.inj hx).symm
  · obtain ⟨es, clk, h3, -⟩ := h.seen
    rw [h3] at hx
    exact h2 _ _ (Option.some.inj hx).symm

/-- What lies where: the parts of a ground are apart from each other. -/
theorem GroundAt.offSpans {w : World} {gr cl pages a b c : Nat} {p : GPl} {l : List Run} {E : List PE} (h : GroundAt w gr cl p pages l E a b c) :
    ¬ spF p.sp p.sv gr ∧ (∀ k, mapF p.mo p.rb p.lf k → ¬ spF p.sp p.sv k) ∧ (∀ k, k = p.lg ∨ k = p.mb → ¬ spF p.sp p.sv k) := by
  refine ⟨h.spans.off h.obj (by intro cs hh; cases hh) (by intro cs hh; cases hh), ?_, ?_⟩
  · rintro k (rfl | rfl | hl)
    · exact h.spans.off h.map.obj (by intro cs hh; cases hh) (by intro cs hh; cases hh)
    · exact h.spans.off h.map.root (by intro cs hh; cases hh) (by intro cs hh; cases hh)
    · exact h.spans.off (h.map.leaf _ hl).1 (by intro cs hh; cases hh) (by intro cs hh; cases hh)
  · rintro k (rfl | rfl)
    · obtain ⟨pk, h3⟩ := h.led.obj
      exact h.spans.off h3 (by intro cs hh; cases hh) (by intro cs hh; cases hh)
    · obtain ⟨es, clk, h3, -⟩ := h.led.seen
      exact h.spans.off h3 (by intro cs hh; cases hh) (by intro cs hh; cases hh)
theorem GroundAt.offMap {w : World} {gr cl pages a b c : Nat} {p : GPl} {l : List Run} {E : List PE} (h : GroundAt w gr cl p pages l E a b c) :
    ¬ mapF p.mo p.rb p.lf gr ∧ (∀ k, k = p.lg ∨ k = p.mb → ¬ mapF p.mo p.rb p.lf k) := by
  refine ⟨h.map.off h.obj (by intro cs hh; cases hh) (by intro cs hh; cases hh) (by intro cs hh; cases hh), ?_⟩
  rintro k (rfl | rfl)
  · obtain ⟨pk, h3⟩ := h.led.obj
    exact h.map.off h3 (by intro cs hh; cases hh) (by intro cs hh; cases hh) (by intro cs hh; cases hh)
  · obtain ⟨es, clk, h3, -⟩ := h.led.seen
    exact h.map.off h3 (by intro cs hh; cases hh) (by intro cs hh; cases hh) (by intro cs hh; cases hh)
theorem GroundAt.offLed {w : World} {gr cl pages a b c : Nat} {p : GPl} {l : List Run} {E : List PE} (h : GroundAt w gr cl p pages l E a b c) : ¬ (gr = p.lg ∨ gr = p.mb) :=
  h.led.off h.obj (by intro cs hh; cases hh) (by intro es clk hh; cases hh)

def lenR (pages : Nat) (l : List Run) (x : Int) : Nat := match findR pages l x with | some r => if r.taken && decide ((r.page : Int) = x) then r.n else 0 | none => 0

set_option maxRecDepth 8000 in
set_option maxHeartbeats 2000000 in
theorem gLen_any (gr cl pages a b c : Nat) (p : GPl) (l : List Run) (E : List PE) (x : Int) (w : World) (h : GroundAt w gr cl p pages l E a b c) :
    Calls Tryz.prog 28 #[.pointer (some ⟨gr, 0, none⟩), .int .i64 x] w fun e w' => e = .returned (.int .i64 (lenR pages l x : Nat)) ∧ Below w.heap.size w w' := by
  obtain ⟨-, c1, -⟩ := h.cells
  have hF := find_any p.sp pages x p.sv l w h.spans
  clear h
  cases hf : findR pages l x with
  | none =>
    rw [hf] at hF
    rw [show lenR pages l x = 0 by unfold lenR; rw [hf]]
    have HF : Hid (Calls Tryz.prog 65 #[.pointer (some ⟨p.sp, 0, none⟩), .int .i64 x] w fun e w' => e = .returned (.tuple #[.agg #[.int .i64 0, .int .i64 0, .bool false], .bool false]) ∧ Below w.heap.size w w') := hF
    clear hF hf
    go_enter Tryz.func28, Tryz.ntmps28
    go_wp2_with (fail)
    refine HF.out.mono ?_
    rintro e w1 ⟨rfl, hb⟩
    have HB := Lib.hid hb
    have hz1 := hb.size
    clear hb
    go_wp2
    go_ret
    exact ⟨rfl, HB.out.alloc hz1 _⟩
  | some r =>
    rw [hf] at hF
    have hL : lenR pages l x = if r.taken && decide ((r.page : Int) = x) then r.n else 0 := by unfold lenR; rw [hf]
    rw [hL]
    have HF : Hid (Calls Tryz.prog 65 #[.pointer (some ⟨p.sp, 0, none⟩), .int .i64 x] w fun e w' => e = .returned (.tuple #[.agg #[.int .i64 r.page, .int .i64 r.n, .bool r.taken], .bool true]) ∧ Below w.heap.size w w') := hF
    clear hF hf hL
    generalize r.page = q0 at *
    generalize r.n = q1 at *
    generalize r.taken = q2 at *
    cases q2 with
    | false =>
      rw [show (if (false && decide ((q0 : Int) = x)) = true then q1 else 0) = 0 from rfl]
      go_enter Tryz.func28, Tryz.ntmps28
      go_wp2_with (fail)
      refine HF.out.mono ?_
      rintro e w1 ⟨rfl, hb⟩
      have HB := Lib.hid hb
      have hz1 := hb.size
      clear hb
      go_wp2
      go_ret
      exact ⟨rfl, HB.out.alloc hz1 _⟩
    | true =>
      by_cases hx : (q0 : Int) = x
      · rw [show (if (true && decide ((q0 : Int) = x)) = true then q1 else 0) = q1 by rw [decide_eq_true hx]; rfl]
        have hbq : ((q0 : Int) == x) = true := by simpa using hx
        go_enter Tryz.func28, Tryz.ntmps28
        go_wp2_with (fail)
        refine HF.out.mono ?_
        rintro e w1 ⟨rfl, hb⟩
        have HB := Lib.hid hb
        have hz1 := hb.size
        clear hb hx
        go_wp2
        go_ret
        exact ⟨rfl, HB.out.alloc hz1 _⟩
      · rw [show (if (true && decide ((q0 : Int) = x)) = true then q1 else 0) = 0 by rw [decide_eq_false hx]; rfl]
        have hbq : ((q0 : Int) == x) = false := by simpa using hx
        clear hx
        go_enter Tryz.func28, Tryz.ntmps28
        go_wp2_with (fail)
        refine HF.out.mono ?_
        rintro e w1 ⟨rfl, hb⟩
        have HB := Lib.hid hb
        have hz1 := hb.size
        clear hb
        go_wp2
        go_ret
        exact ⟨rfl, HB.out.alloc hz1 _⟩

end Go.Proofs.YtlljejmblmjjnaaGreatDoor

/- ground: Open. -/
namespace Go.Proofs.YtlljejmblmjjnaaGreatDoor
set_option linter.unusedVariables false
set_option linter.unusedSimpArgs false
open Go.RowKit Go.ChangeMaps

def addV (v k x n : Nat) : Nat := if v = k then x + n else x
theorem reserve_any (l mb cap a b c n v : Nat) (hv : v < 3) (w : World) (h : LedgerAt w l mb cap a b c) (hn : a + b + c + n ≤ cap) :
    Calls Tryz.prog 86 #[.pointer (some ⟨l, 0, none⟩), .int .i64 v, .int .i64 n] w (LgPost w l mb cap (addV v 0 a n) (addV v 1 b n) (addV v 2 c n)) := by
  match v, hv with
  | 0, _ => exact reserve0 l mb cap a b c n w h hn
  | 1, _ => exact reserve1 l mb cap a b c n w h hn
  | 2, _ => exact reserve2 l mb cap a b c n w h hn

set_option maxRecDepth 8000 in
theorem gRight_yes (v cls : Nat) (hv : v < 3) (hc : cls < 64) (w : World) :
    Calls Tryz.prog 83 #[.int .i64 v, .int .i64 cls] w fun e w' => e = .returned (.bool true) ∧ w = w' := by
  have h1 : (0 : Int) ≤ (v : Int) ∧ (v : Int) ≤ 2 := by omega
  have h2 : (0 : Int) ≤ (cls : Int) ∧ (cls : Int) ≤ 63 := by omega
  go_enter Tryz.func83, Tryz.ntmps83
  go_wp2
  go_ret
  exact ⟨rfl, rfl⟩

def GOpenPost (w : World) (gr cl : Nat) (p : GPl) (pages : Nat) (l : List Run) (E : List PE) (a b c : Nat) (r1 r2 : Int) (e : Ending) (w' : World) : Prop :=
  e = .returned (.tuple #[.int .i64 r1, .int .i64 r2]) ∧ ∃ p', GroundAt w' gr cl p' pages l E a b c ∧ (∀ k, p'.F k → p.F k ∨ w.heap.size ≤ k) ∧ Turned p.F w w'

set_option maxRecDepth 8000 in
set_option maxHeartbeats 2000000 in
theorem gOpen_yes (gr cl pages a b c n al v cls k : Nat) (p : GPl) (l : List Run) (E : List PE) (r : Run) (w : World) (h : GroundAt w gr cl p pages l E a b c) (ha : Pow2 al) (hn : 1 ≤ n) (hv : v < 3) (hc : cls < 64)
    (hp : placeR n al l = some k) (hr : l[k]? = some r) (hfit : a + b + c + n ≤ pages) :
    Calls Tryz.prog 40 #[.pointer (some ⟨gr, 0, none⟩), .int .i64 n, .int .i64 al, .int .i64 v, .int .i64 cls] w
      (GOpenPost w gr cl p pages (takeR l k r n al) (setE E (r.first al) (some (⟨r.first al, v, cls, 0⟩, nextSt p.stamp)) n) (addV v 0 a n) (addV v 1 b n) (addV v 2 c n) (r.first al : Nat) 0) := by
  obtain ⟨-, c1, c2, c3, -⟩ := h.cells
  have hm := h.map.most
  have HR := Lib.hid (fun w => gRight_yes v cls hv hc w)
  have HT := Lib.hid (take_yes p.sp pages n al k p.sv l r w h.spans ha hn (by omega) hp hr)
  obtain ⟨hkl, r', hr', hh⟩ := placeR_spec hp
  obtain rfl : r' = r := by rw [hr] at hr'; exact (Option.some.inj hr').symm
  have hft : r'.first al + n ≤ r'.stop := by
    unfold Run.holds at hh
    rw [Bool.and_eq_true] at hh
    exact of_decide_eq_true hh.2
  have hbd := h.spans.tile.bounds r' (List.mem_of_getElem? hr)
  have hoff := h.offSpans
  have hoffM := h.offMap
  have hoffL := h.offLed
  have hgl := lt_of_block h.obj
  have H := Lib.hid h
  clear h hp hr hr' hh
  generalize hf : r'.first al = f at *
  go_enter Tryz.func40, Tryz.ntmps40
  go_wp2_with (fail)
  refine (HR.out _).mono ?_
  rintro e w1 ⟨rfl, rfl⟩
  go_wp2_with (fail)
  refine HT.out.mono ?_
  rintro e w1 ⟨sv', rfl, hs1, hown1, ht1⟩
  have d2 := turned_cell ht1 hoff.1 c2
  have d3 := turned_cell ht1 hoff.1 c3
  have hm1 := H.out.map.turned ht1 (hoff.2.1 _ (.inl rfl)) (hoff.2.1 _ (.inr (.inl rfl))) (fun j hj => hoff.2.1 _ (.inr (.inr hj)))
  have hl1 := H.out.led.turned ht1 (hoff.2.2 _ (.inl rfl)) (hoff.2.2 _ (.inr rfl))
  have ho1 := (ht1.block _ hgl hoff.1).trans H.out.obj
  have hg1 : GroundAt w1 gr cl { p with sv := sv' } pages (takeR l k r' n al) E a b c := ⟨ho1, hs1, hm1, hl1⟩
  have HG1 := Lib.hid hg1
  have HT1 := Lib.hid ht1
  have HO1 := Lib.hid hown1
  have HS := Lib.hid (rxSet_yes p.mo p.rb pages p.stamp p.lf E f n ⟨f, v, cls, 0⟩ ⟨by show f < 4096; omega, by show v < 4; omega, hc, by show 0 < 8; omega⟩ w1 hm1 hn (by omega))
  clear hs1 hown1 ht1 hm1 hl1 ho1 hg1 c1 c2 c3
  go_wp2_with (fail)
  refine HS.out.mono ?_
  rintro e w2 ⟨rfl, lf', hmp2, hlf2, ht2⟩
  have o1 := HG1.out.offSpans
  have o2 := HG1.out.offMap
  have g2 := lt_of_block HG1.out.obj
  have hg2 : GroundAt w2 gr cl { p with sv := sv', lf := lf', stamp := nextSt p.stamp } pages (takeR l k r' n al) (setE E f (some (⟨f, v, cls, 0⟩, nextSt p.stamp)) n) a b c :=
    ⟨(ht2.block _ g2 o2.1).trans HG1.out.obj, HG1.out.spans.turned ht2 (fun hh => o1.2.1 _ hh (.inl rfl)) (fun g hg hh => o1.2.1 _ hh (.inr hg)), hmp2, HG1.out.led.turned ht2 (o2.2 _ (.inl rfl)) (o2.2 _ (.inr rfl))⟩
  have d3' := turned_cell ht2 o2.1 d3
  have HG2 := Lib.hid hg2
  have HT2 := Lib.hid ht2
  have HLF := Lib.hid hlf2
  have HRV := Lib.hid (reserve_any p.lg p.mb pages a b c n v hv w2 hg2.led hfit)
  clear hmp2 hlf2 ht2 hg2 o1 o2 g2 d2 d3
  go_wp2_with (fail)
  refine HRV.out.mono ?_
  rintro e w3 ⟨rfl, hl3, ht3⟩
  have o1 := HG2.out.offSpans
  have o2 := HG2.out.offMap
  have o3 := HG2.out.offLed
  have g2 := lt_of_block HG2.out.obj
  have hg3 : GroundAt w3 gr cl { p with sv := sv', lf := lf', stamp := nextSt p.stamp } pages (takeR l k r' n al) (setE E f (some (⟨f, v, cls, 0⟩, nextSt p.stamp)) n) (addV v 0 a n) (addV v 1 b n) (addV v 2 c n) :=
    ⟨(ht3.block _ g2 o3).trans HG2.out.obj, HG2.out.spans.turned ht3 (fun hh => o1.2.2 _ hh (.inl rfl)) (fun g hg hh => o1.2.2 _ hh (.inr hg)), HG2.out.map.turned ht3 (fun hh => o2.2 _ hh (.inl rfl)) (fun hh => o2.2 _ hh (.inr (.inl rfl))) (fun j hj hh => o2.2 _ hh (.inr (.inr hj))), hl3⟩
  have hz1 := HT1.out.size
  have hPF : ∀ x, ({ p with sv := sv', lf := lf', stamp := nextSt p.stamp } : GPl).F x → p.F x ∨ w.heap.size ≤ x := by
    rintro x (hx | hx | hx | hx | hx | hx | hx)
    · exact .inl (.inl hx)
    · rcases HO1.out with he | ⟨g, he, hge⟩
      · exact .inl (.inr (.inl (by rw [← he]; exact hx)))
      · have hx' : sv'.ownBlock = some x := hx
        rw [he] at hx'
        cases hx'
        exact .inr hge
    · exact .inl (.inr (.inr (.inl hx)))
    · exact .inl (.inr (.inr (.inr (.inl hx))))
    · rcases HLF.out _ hx with he | he
      · exact .inl (.inr (.inr (.inr (.inr (.inl he)))))
      · exact .inr (by omega)
    · exact .inl (.inr (.inr (.inr (.inr (.inr (.inl hx))))))
    · exact .inl (.inr (.inr (.inr (.inr (.inr (.inr hx))))))
  have hTF : Turned p.F w w3 := by
    refine ((HT1.out.mono (G := p.F) (fun x hx _ => ?_)).trans HT2.out (fun x hx _ => ?_)).trans ht3 (fun x hx _ => ?_)
    · rcases hx with hx | hx
      · exact .inl hx
      · exact .inr (.inl hx)
    · rcases hx with hx | hx | hx
      · exact .inr (.inr (.inl hx))
      · exact .inr (.inr (.inr (.inl hx)))
      · exact .inr (.inr (.inr (.inr (.inl hx))))
    · rcases hx with hx | hx
      · exact .inr (.inr (.inr (.inr (.inr (.inl hx)))))
      · exact .inr (.inr (.inr (.inr (.inr (.inr hx)))))
  have HEND := Lib.hid (show GOpenPost w gr cl p pages (takeR l k r' n al) (setE E f (some (⟨f, v, cls, 0⟩, nextSt p.stamp)) n) (addV v 0 a n) (addV v 1 b n) (addV v 2 c n) (f : Nat) 0 (.returned (.tuple #[.int .i64 (f : Nat), .int .i64 0])) w3 from ⟨rfl, _, hg3, hPF, hTF⟩)
  clear hg3 hPF hTF o1 o2 o3 g2 hl3 ht3 d3'
  go_wp2
  go_ret2
  exact HEND.out

set_option maxRecDepth 8000 in
set_option maxHeartbeats 1000000 in
theorem gOpen_no (gr cl pages a b c n al v cls : Nat) (p : GPl) (l : List Run) (E : List PE) (w : World) (h : GroundAt w gr cl p pages l E a b c) (ha : Pow2 al) (hn : 1 ≤ n) (hn2 : n < 2 ^ 62) (hv : v < 3) (hc : cls < 64) (hp : placeR n al l = none) :
    Calls Tryz.prog 40 #[.pointer (some ⟨gr, 0, none⟩), .int .i64 n, .int .i64 al, .int .i64 v, .int .i64 cls] w fun e w' => e = .returned (.tuple #[.int .i64 (-1), .int .i64 13]) ∧ Below w.heap.size w w' := by
  obtain ⟨-, c1, -⟩ := h.cells
  have HR := Lib.hid (fun w => gRight_yes v cls hv hc w)
  have HT := Lib.hid (take_none p.sp pages n al p.sv l w h.spans ha hn hn2 hp)
  clear h hp
  go_enter Tryz.func40, Tryz.ntmps40
  go_wp2_with (fail)
  refine (HR.out _).mono ?_
  rintro e w1 ⟨rfl, rfl⟩
  go_wp2_with (fail)
  refine HT.out.mono ?_
  rintro e w1 ⟨rfl, hb⟩
  have HB := Lib.hid hb
  clear hb
  go_wp2
  go_ret2
  exact ⟨rfl, HB.out⟩

end Go.Proofs.YtlljejmblmjjnaaGreatDoor

/- ground: Close (Jd's text and more). -/
namespace Go.Proofs.YtlljejmblmjjnaaGreatDoor
set_option linter.unusedVariables false
set_option linter.unusedSimpArgs false
open Go.RowKit Go.ChangeMaps

def subV (v k x n : Nat) : Nat := if v = k then x - n else x
theorem release_any (l mb cap a b c n v : Nat) (hv : v < 3) (w : World) (h : LedgerAt w l mb cap a b c) (hn : n ≤ heldN a b c v) :
    Calls Tryz.prog 89 #[.pointer (some ⟨l, 0, none⟩), .int .i64 v, .int .i64 n] w (LgPost w l mb cap (subV v 0 a n) (subV v 1 b n) (subV v 2 c n)) := by
  match v, hv with
  | 0, _ => exact release0 l mb cap a b c n w h hn
  | 1, _ => exact release1 l mb cap a b c n w h hn
  | 2, _ => exact release2 l mb cap a b c n w h hn

theorem GOpenPost.of {w w1 w2 w3 : World} {gr cl pages a b c a' b' c' stamp : Nat} {p : GPl} {l l' : List Run} {E E' : List PE} {sv' : Value} {lf' : Option Nat} {r1 r2 : Int} {e : Ending} (h : GroundAt w gr cl p pages l E a b c) (he : e = .returned (.tuple #[.int .i64 r1, .int .i64 r2]))
    (hs1 : SpansAt w1 p.sp sv' pages l') (ho1 : sv'.ownBlock = p.sv.ownBlock ∨ ∃ g, sv'.ownBlock = some g ∧ w.heap.size ≤ g) (ht1 : Turned (spF p.sp p.sv) w w1)
    (hm2 : MapAt w2 p.mo p.rb lf' pages E' stamp) (hlf : LfOk w1 p.lf lf') (ht2 : Turned (mapF p.mo p.rb p.lf) w1 w2)
    (hl3 : LedgerAt w3 p.lg p.mb pages a' b' c') (ht3 : Turned (fun j => j = p.lg ∨ j = p.mb) w2 w3) : GOpenPost w gr cl p pages l' E' a' b' c' r1 r2 e w3 := by
  have oS := h.offSpans
  have hg1 : GroundAt w1 gr cl { p with sv := sv' } pages l' E a b c :=
    ⟨(ht1.block _ (lt_of_block h.obj) oS.1).trans h.obj, hs1, h.map.turned ht1 (oS.2.1 _ (.inl rfl)) (oS.2.1 _ (.inr (.inl rfl))) (fun j hj => oS.2.1 _ (.inr (.inr hj))), h.led.turned ht1 (oS.2.2 _ (.inl rfl)) (oS.2.2 _ (.inr rfl))⟩
  have o1 := hg1.offSpans
  have o2 := hg1.offMap
  have hg2 : GroundAt w2 gr cl { p with sv := sv', lf := lf', stamp := stamp } pages l' E' a b c :=
    ⟨(ht2.block _ (lt_of_block hg1.obj) o2.1).trans hg1.obj, hg1.spans.turned ht2 (fun hh => o1.2.1 _ hh (.inl rfl)) (fun g hg hh => o1.2.1 _ hh (.inr hg)), hm2, hg1.led.turned ht2 (o2.2 _ (.inl rfl)) (o2.2 _ (.inr rfl))⟩
  have q1 := hg2.offSpans
  have q2 := hg2.offMap
  have hg3 : GroundAt w3 gr cl { p with sv := sv', lf := lf', stamp := stamp } pages l' E' a' b' c' :=
    ⟨(ht3.block _ (lt_of_block hg2.obj) hg2.offLed).trans hg2.obj, hg2.spans.turned ht3 (fun hh => q1.2.2 _ hh (.inl rfl)) (fun g hg hh => q1.2.2 _ hh (.inr hg)), hg2.map.turned ht3 (fun hh => q2.2 _ hh (.inl rfl)) (fun hh => q2.2 _ hh (.inr (.inl rfl))) (fun j hj hh => q2.2 _ hh (.inr (.inr hj))), hl3⟩
  have hz1 := ht1.size
  refine ⟨he, _, hg3, ?_, ?_⟩
  · rintro x (hx | hx | hx | hx | hx | hx | hx)
    · exact .inl (.inl hx)
    · rcases ho1 with he | ⟨g, he, hge⟩
      · exact .inl (.inr (.inl (by rw [← he]; exact hx)))
      · have hx' : sv'.ownBlock = some x := hx
        rw [he] at hx'
        cases hx'
        exact .inr hge
    · exact .inl (.inr (.inr (.inl hx)))
    · exact .inl (.inr (.inr (.inr (.inl hx))))
    · rcases hlf _ hx with he | he
      · exact .inl (.inr (.inr (.inr (.inr (.inl he)))))
      · exact .inr (by omega)
    · exact .inl (.inr (.inr (.inr (.inr (.inr (.inl hx))))))
    · exact .inl (.inr (.inr (.inr (.inr (.inr (.inr hx))))))
  · refine ((ht1.mono (G := p.F) (fun x hx _ => ?_)).trans ht2 (fun x hx _ => ?_)).trans ht3 (fun x hx _ => ?_)
    · rcases hx with hx | hx
      · exact .inl hx
      · exact .inr (.inl hx)
    · rcases hx with hx | hx | hx
      · exact .inr (.inr (.inl hx))
      · exact .inr (.inr (.inr (.inl hx)))
      · exact .inr (.inr (.inr (.inr (.inl hx))))
    · rcases hx with hx | hx
      · exact .inr (.inr (.inr (.inr (.inr (.inl hx)))))
      · exact .inr (.inr (.inr (.inr (.inr (.inr hx)))))

set_option maxRecDepth 8000 in
set_option maxHeartbeats 2000000 in
theorem gClose_yes (gr cl pages a b c k st : Nat) (p : GPl) (l : List Run) (E : List PE) (r : Run) (e4 : Ent4) (w : World) (h : GroundAt w gr cl p pages l E a b c) (hk : l[k]? = some r) (ht : r.taken = true)
    (he : E.getD r.page none = some (e4, st)) (hv : e4.version < 3) (hall : ∀ j, j < r.n → (E.getD (r.page + j) none).isSome = true) (hheld : r.n ≤ heldN a b c e4.version) :
    Calls Tryz.prog 41 #[.pointer (some ⟨gr, 0, none⟩), .int .i64 r.page] w
      (GOpenPost w gr cl p pages (giveR l k r) (setE E r.page none r.n) (subV e4.version 0 a r.n) (subV e4.version 1 b r.n) (subV e4.version 2 c r.n) (r.n : Nat) 0) := by
  obtain ⟨-, c1, c2, c3, -⟩ := h.cells
  have hbd := h.spans.tile.bounds r (List.mem_of_getElem? hk)
  have hm := h.map.most
  have hst : r.page < r.stop := by unfold Run.stop; omega
  have hpg : r.page + r.n ≤ pages := hbd.2.2
  have hix : idxR r.page l = k := idxR_at h.spans.tile hk (Nat.le_refl _) hst
  have hlen : lenR pages l (r.page : Int) = r.n := by
    unfold lenR findR
    rw [if_pos (by omega), Int.toNat_natCast, hix, hk]
    simp [ht]
  have hent : entAt pages E (r.page : Int) = some (e4, st) := by
    unfold entAt
    rw [if_pos (by omega), Int.toNat_natCast, he]
  have HL := fun (W : World) (hb : Below w.heap.size w W) => by have hX := gLen_any gr cl pages a b c p l E (r.page : Int) W (h.below hb); rw [hlen] at hX; exact hX
  have HLEN := Lib.hid (HL w (Below.refl _ _))
  have HGET : Hid (∀ W, Below w.heap.size w W → Calls Tryz.prog 47 #[.pointer (some ⟨p.mo, 0, none⟩), .int .i64 r.page] W fun e w' => e = .returned (.tuple #[.agg #[.int .i64 e4.span, .int .i64 e4.version, .int .i64 e4.cls, .int .i64 e4.state], .bool true]) ∧ Below W.heap.size W w') := fun W hb => by
    have hX := rxGet_any p.mo p.rb pages p.stamp p.lf E (r.page : Int) W (h.map.below hb)
    rw [hent] at hX
    exact hX
  have HGIVE := Lib.hid (fun (W : World) (hb : Below w.heap.size w W) => give_yes p.sp pages k p.sv l r W (h.spans.below hb) hk ht)
  have H := Lib.hid h
  have HK := Lib.hid hk
  have hgl := lt_of_block h.obj
  have hn0 : 1 ≤ r.n := hbd.2.1
  have HALL := Lib.hid hall
  clear h hk ht he hlen hent HL hix hst hbd hall
  generalize hp0 : r.page = p0 at *
  generalize hp1 : r.n = p1 at *
  have hnz : ((p1 : Int) == 0) = false := by simp; omega
  go_enter Tryz.func41, Tryz.ntmps41
  go_wp2_with (fail)
  refine HLEN.out.mono ?_
  rintro e w1 ⟨rfl, hb⟩
  have HB1 := Lib.hid hb
  have d1 := cell_past hb (cell_lt c1) c1
  have d2 := cell_past hb (cell_lt c2) c2
  have d3 := cell_past hb (cell_lt c3) c3
  clear hb c1 c2 c3
  go_wp2_with (fail)
  refine (HGET.out _ HB1.out).mono ?_
  rintro e w2 ⟨rfl, hb2⟩
  have HB2 := Lib.hid (HB1.out.trans (hb2.mono HB1.out.size))
  have x1 := cell_past hb2 (cell_lt d1) d1
  have x2 := cell_past hb2 (cell_lt d2) d2
  have x3 := cell_past hb2 (cell_lt d3) d3
  clear hb2 d1 d2 d3
  go_upto_region 5 with (fail)
  obtain ⟨W3, hW3⟩ : ∃ W3, W3 = w2.alloc (.cells #[.int .i64 e4.span, .int .i64 e4.version, .int .i64 e4.cls, .int .i64 e4.state] 48) := ⟨_, rfl⟩
  have HB3 : Hid (Below w.heap.size w W3) := by rw [hW3]; exact HB2.out.alloc HB2.out.size _
  have HBLK3 : Hid (W3.heap[w2.heap.size]? = some (.cells #[.int .i64 e4.span, .int .i64 e4.version, .int .i64 e4.cls, .int .i64 e4.state] 48 (0, 0))) := by rw [hW3]; exact heap_alloc_new _ _
  have y1 : W3.cell? ⟨gr, 1, none⟩ = some (.pointer (some ⟨p.sp, 0, none⟩)) := by rw [hW3]; exact Lib.cell?_alloc_some _ x1
  have y2 : W3.cell? ⟨gr, 2, none⟩ = some (.pointer (some ⟨p.mo, 0, none⟩)) := by rw [hW3]; exact Lib.cell?_alloc_some _ x2
  have y3 : W3.cell? ⟨gr, 3, none⟩ = some (.pointer (some ⟨p.lg, 0, none⟩)) := by rw [hW3]; exact Lib.cell?_alloc_some _ x3
  have hO : w.heap.size ≤ w2.heap.size := HB2.out.size
  rw [← hW3]
  clear hW3 x1 x2 x3
  generalize w2.heap.size = O at *
  go_wp2_with (fail)
  refine (HGIVE.out _ HB3.out).mono ?_
  rintro e w4 ⟨sv', rfl, hs4, ho4, ht4⟩
  have oS := (H.out.below HB3.out).offSpans
  have hblk4 := (ht4.block _ (lt_of_block HBLK3.out) (H.out.spans.below HB3.out |>.off HBLK3.out (by intro cs hh; cases hh) (by intro cs hh; cases hh))).trans HBLK3.out
  have z2 := turned_cell ht4 oS.1 y2
  have z3 := turned_cell ht4 oS.1 y3
  have hm4 := (H.out.below HB3.out).map.turned ht4 (oS.2.1 _ (.inl rfl)) (oS.2.1 _ (.inr (.inl rfl))) (fun j hj => oS.2.1 _ (.inr (.inr hj)))
  have hl4 := (H.out.below HB3.out).led.turned ht4 (oS.2.2 _ (.inl rfl)) (oS.2.2 _ (.inr rfl))
  have hob4 := (ht4.block _ (lt_of_block (H.out.below HB3.out).obj) oS.1).trans (H.out.below HB3.out).obj
  have HG4 : Hid (GroundAt w4 gr cl { p with sv := sv' } pages (giveR l k r) E a b c) := ⟨hob4, hs4, hm4, hl4⟩
  have HS4 := Lib.hid hs4
  have HO4 := Lib.hid ho4
  have HT4 := Lib.hid ht4
  have HBLK4 := Lib.hid hblk4
  have HCL := Lib.hid (rxClear_yes p.mo p.rb pages p.stamp p.lf E p0 p1 w4 hm4 hn0 hpg HALL.out)
  clear hs4 ho4 ht4 oS hm4 hl4 hob4 hblk4 y1 y2 y3
  go_wp2_with (fail)
  refine HCL.out.mono ?_
  rintro e w5 ⟨rfl, lf', hm5, hlf5, ht5⟩
  have o2 := HG4.out.offMap
  have hl5 := HG4.out.led.turned ht5 (o2.2 _ (.inl rfl)) (o2.2 _ (.inr rfl))
  have v3 := turned_cell ht5 o2.1 z3
  have hblk5 := (ht5.block _ (lt_of_block HBLK4.out) (HG4.out.map.off HBLK4.out (by intro cs hh; cases hh) (by intro cs hh; cases hh) (by intro cs hh; cases hh))).trans HBLK4.out
  have v1 : w5.cell? ⟨O, 1, none⟩ = some (.int .i64 e4.version) := cell_of_block hblk5 1
  have HM5 := Lib.hid hm5
  have HLF5 := Lib.hid hlf5
  have HT5 := Lib.hid ht5
  have HL5 := Lib.hid hl5
  have HRL := Lib.hid (fun (W : World) (hb : Below w5.heap.size w5 W) => release_any p.lg p.mb pages a b c p1 e4.version hv W (hl5.turned (Turned.of_below (F := fun _ => False) hb (Nat.le_refl _)) (fun h => h) (fun h => h)) hheld)
  clear hm5 hlf5 ht5 hl5 o2 hblk5 z2 z3
  go_upto_region 7 with (fail)
  (refine wp_region_quiet_tail_ext 7 (by kernel_rfl) (by kernel_rfl) ?_; simp only [List.take_succ_cons, List.take_zero, List.drop_succ_cons, List.drop_zero])
  ((repeat (first | go_big_quiet_step ((fail)) | quiet_step ((fail)))); refine wpQuiet_nil ?_; intro w3 hw3; obtain hb3 := below_of_ext hw3; clear hw3; have hz3 := hb3.size; (try simp at hz3))
  have HB6 := Lib.hid hb3
  clear hb3 v1 v3
  go_wp2_with (fail)
  refine (HRL.out _ HB6.out).mono ?_
  rintro e w6 ⟨rfl, hl6, ht6⟩
  have HEND := Lib.hid (show GOpenPost w gr cl p pages (giveR l k r) (setE E p0 none p1) (subV e4.version 0 a p1) (subV e4.version 1 b p1) (subV e4.version 2 c p1) (p1 : Nat) 0 (.returned (.tuple #[.int .i64 (p1 : Nat), .int .i64 0])) w6 from
    GOpenPost.of H.out rfl HS4.out (HO4.out.imp id (fun ⟨g, h1, h2⟩ => ⟨g, h1, Nat.le_trans HB3.out.size h2⟩)) ((Turned.of_below (F := spF p.sp p.sv) HB3.out (Nat.le_refl _)).trans HT4.out (fun _ h _ => h))
      (HM5.out.below HB6.out) HLF5.out (HT5.out.trans (Turned.of_below (F := mapF p.mo p.rb p.lf) HB6.out (Nat.le_refl _)) (fun _ h _ => h)) hl6 ht6)
  clear hl6 ht6
  go_wp2
  go_ret2
  exact HEND.out

end Go.Proofs.YtlljejmblmjjnaaGreatDoor

/- ground: At. -/
namespace Go.Proofs.YtlljejmblmjjnaaGreatDoor
set_option linter.unusedVariables false
set_option linter.unusedSimpArgs false
open Go.RowKit Go.ChangeMaps

set_option maxRecDepth 8000 in
set_option maxHeartbeats 1000000 in
theorem gAt_some (gr cl pages a b c x st : Nat) (e4 : Ent4) (p : GPl) (l : List Run) (E : List PE) (w : World) (h : GroundAt w gr cl p pages l E a b c) (he : entAt pages E ((x / 256 : Nat) : Int) = some (e4, st)) :
    Calls Tryz.prog 17 #[.pointer (some ⟨gr, 0, none⟩), .int .i64 x] w fun e w' => e = .returned (entV (some (e4, st))) ∧ Below w.heap.size w w' := by
  obtain ⟨-, -, c2, -, -⟩ := h.cells
  obtain ⟨y, hy⟩ : ∃ y, y = x / 256 := ⟨_, rfl⟩
  rw [← hy] at he
  have HGET : Hid (∀ W, Below w.heap.size w W → Calls Tryz.prog 47 #[.pointer (some ⟨p.mo, 0, none⟩), .int .i64 (y : Int)] W fun e w' => e = .returned (.tuple #[.agg #[.int .i64 e4.span, .int .i64 e4.version, .int .i64 e4.cls, .int .i64 e4.state], .bool true]) ∧ Below W.heap.size W w') := fun W hb => by
    have hX := rxGet_any p.mo p.rb pages p.stamp p.lf E (y : Int) W (h.map.below hb)
    rw [he] at hX
    exact hX
  have h0 : ¬ (x : Int) < 0 := by omega
  have hgl := cell_lt c2
  clear h he
  go_enter Tryz.func17, Tryz.ntmps17
  go_upto_region 3 with (fail)
  obtain ⟨W1, hW1⟩ : ∃ W1, W1 = w.alloc (.cells #[.int .i64 0, .int .i64 0, .int .i64 0, .int .i64 0] 48) := ⟨_, rfl⟩
  have hb1 : Below w.heap.size w W1 := by rw [hW1]; exact (by repeat (first | exact Below.refl _ _ | assumption | refine Below.alloc ?_ (by first | omega | (simp <;> omega)) _ | refine Below.drew ?_ | refine Below.setCell ?_ (by first | omega | (simp <;> omega)) _ | refine Below.via (by assumption) (by first | omega | (simp <;> omega)) ?_))
  have HBLK1 : Hid (W1.heap[w.heap.size]? = some (.cells #[.int .i64 0, .int .i64 0, .int .i64 0, .int .i64 0] 48 (0, 0))) := by rw [hW1]; exact heap_alloc_new _ _
  have d2 := cell_past hb1 hgl c2
  rw [← hW1]
  clear hW1 c2
  have hsh : (x : Int) / 256 = (y : Int) := by omega
  clear hy
  go_wp2_with (fail)
  refine (HGET.out _ hb1).mono ?_
  rintro e w2 ⟨rfl, hb2⟩
  have hblk2 := (hb2.block _ (lt_of_block HBLK1.out)).trans HBLK1.out
  have g0 := cell_of_block hblk2 0
  have g1 := cell_of_block hblk2 1
  have g2 := cell_of_block hblk2 2
  have g3 := cell_of_block hblk2 3
  have f0 := frozen_of_block hblk2 0
  have f1 := frozen_of_block hblk2 1
  have f2 := frozen_of_block hblk2 2
  have f3 := frozen_of_block hblk2 3
  have HBLK2 := Lib.hid hblk2
  have HB2 := Lib.hid (hb1.trans (hb2.mono hb1.size))
  clear hb2 hb1 hblk2 d2
  generalize hs0 : e4.span = s0 at *
  have HS0 := Lib.hid hs0
  clear hs0
  generalize hs1 : e4.version = s1 at *
  have HS1 := Lib.hid hs1
  clear hs1
  generalize hs2 : e4.cls = s2 at *
  have HS2 := Lib.hid hs2
  clear hs2
  generalize hs3 : e4.state = s3 at *
  have HS3 := Lib.hid hs3
  clear hs3
  go_wp2
  have hgf : ((((w2.setCell ⟨w.heap.size, 0, none⟩ (.int .i64 s0)).setCell ⟨w.heap.size, 1, none⟩ (.int .i64 s1)).setCell ⟨w.heap.size, 2, none⟩ (.int .i64 s2)).setCell ⟨w.heap.size, 3, none⟩ (.int .i64 s3)).heap[w.heap.size]? = some (.cells #[.int .i64 s0, .int .i64 s1, .int .i64 s2, .int .i64 s3] 48 (0, 0)) := by
    rw [heap_setCell_eq (heap_setCell_eq (heap_setCell_eq (heap_setCell_eq HBLK2.out _) _) _) _]
    rfl
  have q0 := cell_of_block hgf 0
  have q1 := cell_of_block hgf 1
  have q2 := cell_of_block hgf 2
  have q3 := cell_of_block hgf 3
  refine bodyPost_ret (v := .tuple #[.agg #[.int .i64 s0, .int .i64 s1, .int .i64 s2, .int .i64 s3], .bool true]) (by simp [results, Tryz.results17, go_sem, q0, q1, q2, q3]) rfl ⟨by rw [← HS0.out, ← HS1.out, ← HS2.out, ← HS3.out]; rfl, ?_⟩
  exact (((HB2.out.setCell (Nat.le_refl _) _).setCell (Nat.le_refl _) _).setCell (Nat.le_refl _) _).setCell (Nat.le_refl _) _

end Go.Proofs.YtlljejmblmjjnaaGreatDoor

/- ground: At where there is no entry. -/
namespace Go.Proofs.YtlljejmblmjjnaaGreatDoor
set_option linter.unusedVariables false
set_option linter.unusedSimpArgs false
open Go.RowKit Go.ChangeMaps

set_option maxRecDepth 8000 in
set_option maxHeartbeats 1000000 in
theorem gAt_none (gr cl pages a b c x : Nat) (p : GPl) (l : List Run) (E : List PE) (w : World) (h : GroundAt w gr cl p pages l E a b c) (he : entAt pages E ((x / 256 : Nat) : Int) = none) :
    Calls Tryz.prog 17 #[.pointer (some ⟨gr, 0, none⟩), .int .i64 x] w fun e w' => e = .returned (entV none) ∧ Below w.heap.size w w' := by
  obtain ⟨-, -, c2, -, -⟩ := h.cells
  obtain ⟨y, hy⟩ : ∃ y, y = x / 256 := ⟨_, rfl⟩
  rw [← hy] at he
  have HGET : Hid (∀ W, Below w.heap.size w W → Calls Tryz.prog 47 #[.pointer (some ⟨p.mo, 0, none⟩), .int .i64 (y : Int)] W fun e w' => e = .returned (.tuple #[.agg #[.int .i64 0, .int .i64 0, .int .i64 0, .int .i64 0], .bool false]) ∧ Below W.heap.size W w') := fun W hb => by
    have hX := rxGet_any p.mo p.rb pages p.stamp p.lf E (y : Int) W (h.map.below hb)
    rw [he] at hX
    exact hX
  have h0 : ¬ (x : Int) < 0 := by omega
  have hgl := cell_lt c2
  clear h he
  go_enter Tryz.func17, Tryz.ntmps17
  go_upto_region 3 with (fail)
  obtain ⟨W1, hW1⟩ : ∃ W1, W1 = w.alloc (.cells #[.int .i64 0, .int .i64 0, .int .i64 0, .int .i64 0] 48) := ⟨_, rfl⟩
  have hb1 : Below w.heap.size w W1 := by rw [hW1]; exact (by repeat (first | exact Below.refl _ _ | assumption | refine Below.alloc ?_ (by first | omega | (simp <;> omega)) _ | refine Below.drew ?_ | refine Below.setCell ?_ (by first | omega | (simp <;> omega)) _ | refine Below.via (by assumption) (by first | omega | (simp <;> omega)) ?_))
  have HBLK1 : Hid (W1.heap[w.heap.size]? = some (.cells #[.int .i64 0, .int .i64 0, .int .i64 0, .int .i64 0] 48 (0, 0))) := by rw [hW1]; exact heap_alloc_new _ _
  have d2 := cell_past hb1 hgl c2
  rw [← hW1]
  clear hW1 c2
  have hsh : (x : Int) / 256 = (y : Int) := by omega
  clear hy
  go_wp2_with (fail)
  refine (HGET.out _ hb1).mono ?_
  rintro e w2 ⟨rfl, hb2⟩
  have hblk2 := (hb2.block _ (lt_of_block HBLK1.out)).trans HBLK1.out
  have g0 := cell_of_block hblk2 0
  have g1 := cell_of_block hblk2 1
  have g2 := cell_of_block hblk2 2
  have g3 := cell_of_block hblk2 3
  have f0 := frozen_of_block hblk2 0
  have f1 := frozen_of_block hblk2 1
  have f2 := frozen_of_block hblk2 2
  have f3 := frozen_of_block hblk2 3
  have HBLK2 := Lib.hid hblk2
  have HB2 := Lib.hid (hb1.trans (hb2.mono hb1.size))
  clear hb2 hb1 hblk2 d2
  go_wp2
  have hgf : ((((w2.setCell ⟨w.heap.size, 0, none⟩ (.int .i64 0)).setCell ⟨w.heap.size, 1, none⟩ (.int .i64 0)).setCell ⟨w.heap.size, 2, none⟩ (.int .i64 0)).setCell ⟨w.heap.size, 3, none⟩ (.int .i64 0)).heap[w.heap.size]? = some (.cells #[.int .i64 0, .int .i64 0, .int .i64 0, .int .i64 0] 48 (0, 0)) := by
    rw [heap_setCell_eq (heap_setCell_eq (heap_setCell_eq (heap_setCell_eq HBLK2.out _) _) _) _]
    rfl
  have q0 := cell_of_block hgf 0
  have q1 := cell_of_block hgf 1
  have q2 := cell_of_block hgf 2
  have q3 := cell_of_block hgf 3
  refine bodyPost_ret (v := .tuple #[.agg #[.int .i64 0, .int .i64 0, .int .i64 0, .int .i64 0], .bool false]) (by simp [results, Tryz.results17, go_sem, q0, q1, q2, q3]) rfl ⟨rfl, ?_⟩
  exact (((HB2.out.setCell (Nat.le_refl _) _).setCell (Nat.le_refl _) _).setCell (Nat.le_refl _) _).setCell (Nat.le_refl _) _

end Go.Proofs.YtlljejmblmjjnaaGreatDoor

/- ground: Mark; At of a negative address. -/
namespace Go.Proofs.YtlljejmblmjjnaaGreatDoor
set_option linter.unusedVariables false
set_option linter.unusedSimpArgs false
open Go.RowKit Go.ChangeMaps

def shV (v u k x n : Nat) : Nat := if v = u then x else if k = v then x - n else if k = u then x + n else x
theorem shift_any (l mb cap a b c n v u : Nat) (hv : v < 2) (hu : u < 2) (w : World) (h : LedgerAt w l mb cap a b c) (hn : n ≤ heldN a b c v) :
    Calls Tryz.prog 110 #[.pointer (some ⟨l, 0, none⟩), .int .i64 v, .int .i64 u, .int .i64 n] w (LgPost w l mb cap (shV v u 0 a n) (shV v u 1 b n) c) := by
  match v, hv, u, hu with
  | 0, _, 0, _ => exact shift00 l mb cap a b c n w h hn
  | 0, _, 1, _ => exact shift01 l mb cap a b c n w h hn
  | 1, _, 0, _ => exact shift10 l mb cap a b c n w h hn
  | 1, _, 1, _ => exact shift11 l mb cap a b c n w h hn

def GMarkPost (w : World) (gr cl : Nat) (p : GPl) (pages : Nat) (l : List Run) (E : List PE) (a b c : Nat) (e : Ending) (w' : World) : Prop :=
  e = .returned (.int .i64 0) ∧ ∃ p', GroundAt w' gr cl p' pages l E a b c ∧ (∀ k, p'.F k → p.F k ∨ w.heap.size ≤ k) ∧ Turned p.F w w'

set_option maxRecDepth 8000 in
set_option maxHeartbeats 2000000 in
theorem gMark0 (gr cl pages a b c k st v cls : Nat) (p : GPl) (l : List Run) (E : List PE) (r : Run) (e4 : Ent4) (w : World) (h : GroundAt w gr cl p pages l E a b c) (hk : l[k]? = some r) (ht : r.taken = true)
    (he : E.getD r.page none = some (e4, st)) (hv4 : e4.version < 2) (hheld : r.n ≤ heldN a b c e4.version) (hv : v < 2) (hc : cls < 64) :
    Calls Tryz.prog 63 #[.pointer (some ⟨gr, 0, none⟩), .int .i64 r.page, .int .i64 v, .int .i64 cls, .int .i64 0] w
      (GMarkPost w gr cl p pages l (setE E r.page (some (⟨r.page, v, cls, 0⟩, nextSt p.stamp)) r.n) (shV e4.version v 0 a r.n) (shV e4.version v 1 b r.n) c) := by
  obtain ⟨-, c1, c2, c3, -⟩ := h.cells
  have hbd := h.spans.tile.bounds r (List.mem_of_getElem? hk)
  have hm := h.map.most
  have hst : r.page < r.stop := by unfold Run.stop; omega
  have hpg : r.page + r.n ≤ pages := hbd.2.2
  have hix : idxR r.page l = k := idxR_at h.spans.tile hk (Nat.le_refl _) hst
  have hlen : lenR pages l (r.page : Int) = r.n := by
    unfold lenR findR
    rw [if_pos (by omega), Int.toNat_natCast, hix, hk]
    simp [ht]
  have hent : entAt pages E (r.page : Int) = some (e4, st) := by
    unfold entAt
    rw [if_pos (by omega), Int.toNat_natCast, he]
  have HL := fun (W : World) (hb : Below w.heap.size w W) => by have hX := gLen_any gr cl pages a b c p l E (r.page : Int) W (h.below hb); rw [hlen] at hX; exact hX
  have HLEN := Lib.hid (HL w (Below.refl _ _))
  have HGET : Hid (∀ W, Below w.heap.size w W → Calls Tryz.prog 47 #[.pointer (some ⟨p.mo, 0, none⟩), .int .i64 r.page] W fun e w' => e = .returned (.tuple #[.agg #[.int .i64 e4.span, .int .i64 e4.version, .int .i64 e4.cls, .int .i64 e4.state], .bool true]) ∧ Below W.heap.size W w') := fun W hb => by
    have hX := rxGet_any p.mo p.rb pages p.stamp p.lf E (r.page : Int) W (h.map.below hb)
    rw [hent] at hX
    exact hX
  have HSET := Lib.hid (fun (W : World) (hb : Below w.heap.size w W) => rxSet_yes p.mo p.rb pages p.stamp p.lf E r.page r.n ⟨r.page, v, cls, 0⟩ ⟨by show r.page < 4096; omega, by show v < 4; omega, hc, by show 0 < 8; decide⟩ W (h.map.below hb) hbd.2.1 hpg)
  have HR := Lib.hid (fun w => gRight_yes v cls (by omega) hc w)
  have H := Lib.hid h
  have hgl := lt_of_block h.obj
  have hn0 : 1 ≤ r.n := hbd.2.1
  have hSP := Lib.hid h.spans
  clear h hk ht he hlen hent HL hix hst hbd
  generalize hp0 : r.page = p0 at *
  generalize hp1 : r.n = p1 at *
  have hnz : ((p1 : Int) == 0) = false := by simp; omega
  go_enter Tryz.func63, Tryz.ntmps63
  go_wp2_with (fail)
  refine HLEN.out.mono ?_
  rintro e w1 ⟨rfl, hb⟩
  have HB1 := Lib.hid hb
  have d2 := cell_past hb (cell_lt c2) c2
  have d3 := cell_past hb (cell_lt c3) c3
  clear hb c1 c2 c3
  go_wp2_with (fail)
  refine (HR.out _).mono ?_
  rintro e w1' ⟨rfl, rfl⟩
  go_wp2_with (fail)
  refine (HGET.out _ HB1.out).mono ?_
  rintro e w2 ⟨rfl, hb2⟩
  have HB2 := Lib.hid (HB1.out.trans (hb2.mono HB1.out.size))
  have x2 := cell_past hb2 (cell_lt d2) d2
  have x3 := cell_past hb2 (cell_lt d3) d3
  clear hb2 d2 d3
  go_upto_region 7 with (fail)
  obtain ⟨W3, hW3⟩ : ∃ W3, W3 = w2.alloc (.cells #[.int .i64 e4.span, .int .i64 e4.version, .int .i64 e4.cls, .int .i64 e4.state] 48) := ⟨_, rfl⟩
  have HB3 : Hid (Below w.heap.size w W3) := by rw [hW3]; exact HB2.out.alloc HB2.out.size _
  have HBLK3 : Hid (W3.heap[w2.heap.size]? = some (.cells #[.int .i64 e4.span, .int .i64 e4.version, .int .i64 e4.cls, .int .i64 e4.state] 48 (0, 0))) := by rw [hW3]; exact heap_alloc_new _ _
  have y2 : W3.cell? ⟨gr, 2, none⟩ = some (.pointer (some ⟨p.mo, 0, none⟩)) := by rw [hW3]; exact Lib.cell?_alloc_some _ x2
  have y3 : W3.cell? ⟨gr, 3, none⟩ = some (.pointer (some ⟨p.lg, 0, none⟩)) := by rw [hW3]; exact Lib.cell?_alloc_some _ x3
  have hO : w.heap.size ≤ w2.heap.size := HB2.out.size
  rw [← hW3]
  clear hW3 x2 x3
  generalize w2.heap.size = O at *
  go_wp2_with (fail)
  refine (HSET.out _ HB3.out).mono ?_
  rintro e w5 ⟨rfl, lf', hm5, hlf5, ht5⟩
  have o2 := (H.out.below HB3.out).offMap
  have hl5 := (H.out.below HB3.out).led.turned ht5 (o2.2 _ (.inl rfl)) (o2.2 _ (.inr rfl))
  have v3 := turned_cell ht5 o2.1 y3
  have hblk5 := (ht5.block _ (lt_of_block HBLK3.out) ((H.out.below HB3.out).map.off HBLK3.out (by intro cs hh; cases hh) (by intro cs hh; cases hh) (by intro cs hh; cases hh))).trans HBLK3.out
  have v1 : w5.cell? ⟨O, 1, none⟩ = some (.int .i64 e4.version) := cell_of_block hblk5 1
  have HM5 := Lib.hid hm5
  have HLF5 := Lib.hid hlf5
  have HT5 := Lib.hid ht5
  have HSH := Lib.hid (fun (W : World) (hb : Below w5.heap.size w5 W) => shift_any p.lg p.mb pages a b c p1 e4.version v hv4 hv W (hl5.turned (Turned.of_below (F := fun _ => False) hb (Nat.le_refl _)) (fun h => h) (fun h => h)) hheld)
  clear hm5 hlf5 ht5 hl5 o2 hblk5 y2 y3
  go_upto_region 8 with (fail)
  (refine wp_region_quiet_tail_ext 8 (by kernel_rfl) (by kernel_rfl) ?_; simp only [List.take_succ_cons, List.take_zero, List.drop_succ_cons, List.drop_zero])
  ((repeat (first | go_big_quiet_step ((fail)) | quiet_step ((fail)))); refine wpQuiet_nil ?_; intro w3 hw3; obtain hb3 := below_of_ext hw3; clear hw3; have hz3 := hb3.size; (try simp at hz3))
  have HB6 := Lib.hid hb3
  clear hb3 v1 v3
  go_wp2_with (fail)
  refine (HSH.out _ HB6.out).mono ?_
  rintro e w6 ⟨rfl, hl6, ht6⟩
  have HEND := Lib.hid (show GMarkPost w gr cl p pages l (setE E p0 (some (⟨p0, v, cls, 0⟩, nextSt p.stamp)) p1) (shV e4.version v 0 a p1) (shV e4.version v 1 b p1) c (.returned (.int .i64 0)) w6 from
    ⟨rfl, (GOpenPost.of (r1 := 0) (r2 := 0) (sv' := p.sv) H.out rfl hSP.out (.inl rfl) (Turned.refl _ _)
      (HM5.out.below HB6.out) (fun j hj => (HLF5.out j hj).imp id (fun h => Nat.le_trans HB3.out.size h)) ((Turned.of_below (F := mapF p.mo p.rb p.lf) HB3.out (Nat.le_refl _)).trans (HT5.out.trans (Turned.of_below (F := mapF p.mo p.rb p.lf) HB6.out (Nat.le_refl _)) (fun _ h _ => h)) (fun _ h _ => h)) hl6 ht6).2⟩)
  clear hl6 ht6
  go_wp2
  go_ret
  exact HEND.out
set_option maxRecDepth 8000 in
set_option maxHeartbeats 2000000 in
theorem gMark1 (gr cl pages a b c k st v cls : Nat) (p : GPl) (l : List Run) (E : List PE) (r : Run) (e4 : Ent4) (w : World) (h : GroundAt w gr cl p pages l E a b c) (hk : l[k]? = some r) (ht : r.taken = true)
    (he : E.getD r.page none = some (e4, st)) (hv4 : e4.version < 2) (hheld : r.n ≤ heldN a b c e4.version) (hv : v < 2) (hc : cls < 64) :
    Calls Tryz.prog 63 #[.pointer (some ⟨gr, 0, none⟩), .int .i64 r.page, .int .i64 v, .int .i64 cls, .int .i64 1] w
      (GMarkPost w gr cl p pages l (setE E r.page (some (⟨r.page, v, cls, 1⟩, nextSt p.stamp)) r.n) (shV e4.version v 0 a r.n) (shV e4.version v 1 b r.n) c) := by
  obtain ⟨-, c1, c2, c3, -⟩ := h.cells
  have hbd := h.spans.tile.bounds r (List.mem_of_getElem? hk)
  have hm := h.map.most
  have hst : r.page < r.stop := by unfold Run.stop; omega
  have hpg : r.page + r.n ≤ pages := hbd.2.2
  have hix : idxR r.page l = k := idxR_at h.spans.tile hk (Nat.le_refl _) hst
  have hlen : lenR pages l (r.page : Int) = r.n := by
    unfold lenR findR
    rw [if_pos (by omega), Int.toNat_natCast, hix, hk]
    simp [ht]
  have hent : entAt pages E (r.page : Int) = some (e4, st) := by
    unfold entAt
    rw [if_pos (by omega), Int.toNat_natCast, he]
  have HL := fun (W : World) (hb : Below w.heap.size w W) => by have hX := gLen_any gr cl pages a b c p l E (r.page : Int) W (h.below hb); rw [hlen] at hX; exact hX
  have HLEN := Lib.hid (HL w (Below.refl _ _))
  have HGET : Hid (∀ W, Below w.heap.size w W → Calls Tryz.prog 47 #[.pointer (some ⟨p.mo, 0, none⟩), .int .i64 r.page] W fun e w' => e = .returned (.tuple #[.agg #[.int .i64 e4.span, .int .i64 e4.version, .int .i64 e4.cls, .int .i64 e4.state], .bool true]) ∧ Below W.heap.size W w') := fun W hb => by
    have hX := rxGet_any p.mo p.rb pages p.stamp p.lf E (r.page : Int) W (h.map.below hb)
    rw [hent] at hX
    exact hX
  have HSET := Lib.hid (fun (W : World) (hb : Below w.heap.size w W) => rxSet_yes p.mo p.rb pages p.stamp p.lf E r.page r.n ⟨r.page, v, cls, 1⟩ ⟨by show r.page < 4096; omega, by show v < 4; omega, hc, by show 1 < 8; decide⟩ W (h.map.below hb) hbd.2.1 hpg)
  have HR := Lib.hid (fun w => gRight_yes v cls (by omega) hc w)
  have H := Lib.hid h
  have hgl := lt_of_block h.obj
  have hn0 : 1 ≤ r.n := hbd.2.1
  have hSP := Lib.hid h.spans
  clear h hk ht he hlen hent HL hix hst hbd
  generalize hp0 : r.page = p0 at *
  generalize hp1 : r.n = p1 at *
  have hnz : ((p1 : Int) == 0) = false := by simp; omega
  go_enter Tryz.func63, Tryz.ntmps63
  go_wp2_with (fail)
  refine HLEN.out.mono ?_
  rintro e w1 ⟨rfl, hb⟩
  have HB1 := Lib.hid hb
  have d2 := cell_past hb (cell_lt c2) c2
  have d3 := cell_past hb (cell_lt c3) c3
  clear hb c1 c2 c3
  go_wp2_with (fail)
  refine (HR.out _).mono ?_
  rintro e w1' ⟨rfl, rfl⟩
  go_wp2_with (fail)
  refine (HGET.out _ HB1.out).mono ?_
  rintro e w2 ⟨rfl, hb2⟩
  have HB2 := Lib.hid (HB1.out.trans (hb2.mono HB1.out.size))
  have x2 := cell_past hb2 (cell_lt d2) d2
  have x3 := cell_past hb2 (cell_lt d3) d3
  clear hb2 d2 d3
  go_upto_region 7 with (fail)
  obtain ⟨W3, hW3⟩ : ∃ W3, W3 = w2.alloc (.cells #[.int .i64 e4.span, .int .i64 e4.version, .int .i64 e4.cls, .int .i64 e4.state] 48) := ⟨_, rfl⟩
  have HB3 : Hid (Below w.heap.size w W3) := by rw [hW3]; exact HB2.out.alloc HB2.out.size _
  have HBLK3 : Hid (W3.heap[w2.heap.size]? = some (.cells #[.int .i64 e4.span, .int .i64 e4.version, .int .i64 e4.cls, .int .i64 e4.state] 48 (0, 0))) := by rw [hW3]; exact heap_alloc_new _ _
  have y2 : W3.cell? ⟨gr, 2, none⟩ = some (.pointer (some ⟨p.mo, 0, none⟩)) := by rw [hW3]; exact Lib.cell?_alloc_some _ x2
  have y3 : W3.cell? ⟨gr, 3, none⟩ = some (.pointer (some ⟨p.lg, 0, none⟩)) := by rw [hW3]; exact Lib.cell?_alloc_some _ x3
  have hO : w.heap.size ≤ w2.heap.size := HB2.out.size
  rw [← hW3]
  clear hW3 x2 x3
  generalize w2.heap.size = O at *
  go_wp2_with (fail)
  refine (HSET.out _ HB3.out).mono ?_
  rintro e w5 ⟨rfl, lf', hm5, hlf5, ht5⟩
  have o2 := (H.out.below HB3.out).offMap
  have hl5 := (H.out.below HB3.out).led.turned ht5 (o2.2 _ (.inl rfl)) (o2.2 _ (.inr rfl))
  have v3 := turned_cell ht5 o2.1 y3
  have hblk5 := (ht5.block _ (lt_of_block HBLK3.out) ((H.out.below HB3.out).map.off HBLK3.out (by intro cs hh; cases hh) (by intro cs hh; cases hh) (by intro cs hh; cases hh))).trans HBLK3.out
  have v1 : w5.cell? ⟨O, 1, none⟩ = some (.int .i64 e4.version) := cell_of_block hblk5 1
  have HM5 := Lib.hid hm5
  have HLF5 := Lib.hid hlf5
  have HT5 := Lib.hid ht5
  have HSH := Lib.hid (fun (W : World) (hb : Below w5.heap.size w5 W) => shift_any p.lg p.mb pages a b c p1 e4.version v hv4 hv W (hl5.turned (Turned.of_below (F := fun _ => False) hb (Nat.le_refl _)) (fun h => h) (fun h => h)) hheld)
  clear hm5 hlf5 ht5 hl5 o2 hblk5 y2 y3
  go_upto_region 8 with (fail)
  (refine wp_region_quiet_tail_ext 8 (by kernel_rfl) (by kernel_rfl) ?_; simp only [List.take_succ_cons, List.take_zero, List.drop_succ_cons, List.drop_zero])
  ((repeat (first | go_big_quiet_step ((fail)) | quiet_step ((fail)))); refine wpQuiet_nil ?_; intro w3 hw3; obtain hb3 := below_of_ext hw3; clear hw3; have hz3 := hb3.size; (try simp at hz3))
  have HB6 := Lib.hid hb3
  clear hb3 v1 v3
  go_wp2_with (fail)
  refine (HSH.out _ HB6.out).mono ?_
  rintro e w6 ⟨rfl, hl6, ht6⟩
  have HEND := Lib.hid (show GMarkPost w gr cl p pages l (setE E p0 (some (⟨p0, v, cls, 1⟩, nextSt p.stamp)) p1) (shV e4.version v 0 a p1) (shV e4.version v 1 b p1) c (.returned (.int .i64 0)) w6 from
    ⟨rfl, (GOpenPost.of (r1 := 0) (r2 := 0) (sv' := p.sv) H.out rfl hSP.out (.inl rfl) (Turned.refl _ _)
      (HM5.out.below HB6.out) (fun j hj => (HLF5.out j hj).imp id (fun h => Nat.le_trans HB3.out.size h)) ((Turned.of_below (F := mapF p.mo p.rb p.lf) HB3.out (Nat.le_refl _)).trans (HT5.out.trans (Turned.of_below (F := mapF p.mo p.rb p.lf) HB6.out (Nat.le_refl _)) (fun _ h _ => h)) (fun _ h _ => h)) hl6 ht6).2⟩)
  clear hl6 ht6
  go_wp2
  go_ret
  exact HEND.out
theorem gMark_yes (gr cl pages a b c k st v cls state : Nat) (p : GPl) (l : List Run) (E : List PE) (r : Run) (e4 : Ent4) (w : World) (h : GroundAt w gr cl p pages l E a b c) (hk : l[k]? = some r) (ht : r.taken = true)
    (he : E.getD r.page none = some (e4, st)) (hv4 : e4.version < 2) (hheld : r.n ≤ heldN a b c e4.version) (hv : v < 2) (hc : cls < 64) (hs : state < 2) :
    Calls Tryz.prog 63 #[.pointer (some ⟨gr, 0, none⟩), .int .i64 r.page, .int .i64 v, .int .i64 cls, .int .i64 state] w
      (GMarkPost w gr cl p pages l (setE E r.page (some (⟨r.page, v, cls, state⟩, nextSt p.stamp)) r.n) (shV e4.version v 0 a r.n) (shV e4.version v 1 b r.n) c) := by
  match state, hs with
  | 0, _ => exact gMark0 gr cl pages a b c k st v cls p l E r e4 w h hk ht he hv4 hheld hv hc
  | 1, _ => exact gMark1 gr cl pages a b c k st v cls p l E r e4 w h hk ht he hv4 hheld hv hc

set_option maxRecDepth 8000 in
set_option maxHeartbeats 1000000 in
theorem gAt_neg (gr : Nat) (x : Int) (w : World) (hx : x < 0) :
    Calls Tryz.prog 17 #[.pointer (some ⟨gr, 0, none⟩), .int .i64 x] w fun e w' => e = .returned (entV none) ∧ Below w.heap.size w w' := by
  go_enter Tryz.func17, Tryz.ntmps17
  go_upto_region 2 with (fail)
  have hgf : (w.alloc (.cells #[.int .i64 0, .int .i64 0, .int .i64 0, .int .i64 0] 48)).heap[w.heap.size]? = some (.cells #[.int .i64 0, .int .i64 0, .int .i64 0, .int .i64 0] 48 (0, 0)) := heap_alloc_new _ _
  have HB : Hid (Below w.heap.size w (w.alloc (.cells #[.int .i64 0, .int .i64 0, .int .i64 0, .int .i64 0] 48))) := (Below.refl _ _).alloc (Nat.le_refl _) _
  have g0 := cell_of_block hgf 0
  have g1 := cell_of_block hgf 1
  have g2 := cell_of_block hgf 2
  have g3 := cell_of_block hgf 3
  have f0 := frozen_of_block hgf 0
  have f1 := frozen_of_block hgf 1
  have f2 := frozen_of_block hgf 2
  have f3 := frozen_of_block hgf 3
  have HG := Lib.hid hgf
  clear hgf
  generalize w.alloc (.cells #[.int .i64 0, .int .i64 0, .int .i64 0, .int .i64 0] 48) = W1 at *
  go_wp2
  have hgf : ((((W1.setCell ⟨w.heap.size, 0, none⟩ (.int .i64 0)).setCell ⟨w.heap.size, 1, none⟩ (.int .i64 0)).setCell ⟨w.heap.size, 2, none⟩ (.int .i64 0)).setCell ⟨w.heap.size, 3, none⟩ (.int .i64 0)).heap[w.heap.size]? = some (.cells #[.int .i64 0, .int .i64 0, .int .i64 0, .int .i64 0] 48 (0, 0)) := by
    rw [heap_setCell_eq (heap_setCell_eq (heap_setCell_eq (heap_setCell_eq HG.out _) _) _) _]
    rfl
  have q0 := cell_of_block hgf 0
  have q1 := cell_of_block hgf 1
  have q2 := cell_of_block hgf 2
  have q3 := cell_of_block hgf 3
  refine bodyPost_ret (v := .tuple #[.agg #[.int .i64 0, .int .i64 0, .int .i64 0, .int .i64 0], .bool false]) (by simp [results, Tryz.results17, go_sem, q0, q1, q2, q3]) rfl ⟨rfl, ?_⟩
  exact (((HB.out.setCell (Nat.le_refl _) _).setCell (Nat.le_refl _) _).setCell (Nat.le_refl _) _).setCell (Nat.le_refl _) _

end Go.Proofs.YtlljejmblmjjnaaGreatDoor
