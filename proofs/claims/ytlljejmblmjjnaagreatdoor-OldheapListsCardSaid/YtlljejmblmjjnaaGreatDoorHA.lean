/- ledger: a map keyed by rows of amounts: what its operations come to. -/
import Derived.Test.YtlljejmblmjjnaaGreatDoorNA
import Derived.WideKeyPair
import Derived.DeepKeys4
import Derived.Maps.Keyed
import Derived.Test.YtlljejmblmjjnaaGreatDoorEA
import Derived.Deep.RegionWith
import Derived.Deep.Cut
import Derived.Deep.MidRow
import Derived.BigRegion
namespace Go.Proofs.YtlljejmblmjjnaaGreatDoor
set_option linter.unusedVariables false
set_option linter.unusedSimpArgs false
open Go.RowKit Go.ChangeMaps Go.WideMaps

theorem lgArr : ArrKey Tryz.prog 158 3 8 := ⟨by kernel_rfl, by kernel_rfl, by kernel_rfl, by kernel_rfl⟩
theorem lgKeyed : Maps.Keyed Tryz.prog 158 := Maps.Keyed.of_law lgArr.law
theorem und_int3 : Tryz.prog.underlying 3 = some (.int .i64) := by kernel_rfl
theorem und_seen : Tryz.prog.underlying 159 = some (.map 158 3) := by kernel_rfl

def keyV (a b c : Nat) : Value := .agg #[.int .i64 a, .int .i64 b, .int .i64 c, .int .i64 0, .int .i64 0, .int .i64 0, .int .i64 0, .int .i64 0]

theorem key_any (a b c : Nat) (ha : a < 2 ^ 60) (hb : b < 2 ^ 60) (hc : c < 2 ^ 60) : ∃ l, keyOf Tryz.prog 158 (keyV a b c) = some l := by
  have wa : (Lit.int .i64 (a : Int)).wf = true := WalkArith.wf_i64 (by omega)
  have wb : (Lit.int .i64 (b : Int)).wf = true := WalkArith.wf_i64 (by omega)
  have wc : (Lit.int .i64 (c : Int)).wf = true := WalkArith.wf_i64 (by omega)
  have w0 : (Lit.int .i64 0).wf = true := by decide
  obtain ⟨m, hm⟩ : ∃ m, Tryz.prog.types.size = m + 1 := ⟨Tryz.prog.types.size - 1, by
    have : 0 < Tryz.prog.types.size := of_decide_eq_true (by kernel_rfl)
    omega⟩
  have A := lgArr
  have hkt := A.keyType ⟨m, hm⟩
  unfold keyOf keyV
  simp only [A.hu]
  rw [if_pos (by simp [hkt, Value.formed, A.hu, A.size]), hm]
  unfold Program.keyLits
  simp only [A.hu, Value.cells]
  rw [if_pos (by rw [A.size]; rfl), show List.range 8 = [0, 1, 2, 3, 4, 5, 6, 7] from rfl]
  simp only [List.mapM_cons, List.mapM_nil]
  simp [A.one, Program.keyLits, und_int3, wa, wb, wc, w0]

def SeenOk (es : Array MapEntry) : Prop := ∀ e ∈ es.toList, (∃ l, keyOf Tryz.prog 158 e.key = some l) ∧ ∃ n : Int, e.val = .int .i64 n

theorem seen_lookup {w : World} {mb clk : Nat} {es : Array MapEntry} (h : w.heap[mb]? = some (.map es clk)) (hs : SeenOk es) {k : Value} {l : Lit} (hk : keyOf Tryz.prog 158 k = some l) :
    ∃ n : Int, (Instr.lookup 159 (.map (some mb)) k false).run Tryz.prog w = .ok (.int .i64 n) w := by
  have hz : ∀ w, (zeroValue 3).run Tryz.prog w = .ok (.int .i64 0) w := fun w => by kernel_rfl
  rcases lgKeyed.find w hk es.toList (fun e he => (hs e he).1) with ⟨h1, -⟩ | ⟨j, e, h1, h2, -⟩
  · refine ⟨0, ?_⟩
    simp only [Instr.lookup, Sem.run_bind, run_underlying und_seen, Result.andThen, MapKept.run_getObj_map h, lgKeyed.check w _ hk, h1]
    simp [hz, lgKeyed.check w es.isEmpty hk, h1]
  · obtain ⟨n, hn⟩ := (hs e (List.mem_of_getElem? h2)).2
    refine ⟨n, ?_⟩
    simp only [Instr.lookup, Sem.run_bind, run_underlying und_seen, Result.andThen, MapKept.run_getObj_map h, lgKeyed.check w _ hk, h1]
    simp [hn, lgKeyed.check w es.isEmpty hk, h1]

theorem seen_entry {w : World} {mb clk : Nat} {es : Array MapEntry} (h : w.heap[mb]? = some (.map es clk)) (hs : SeenOk es) {k : Value} {l : Lit} (hk : keyOf Tryz.prog 158 k = some l) :
    ∃ (v : Value) (es1 : Array MapEntry) (clk1 b : Nat), (Instr.mapEntry 159 (.map (some mb)) k).run Tryz.prog w = .ok (.tuple #[v, .int .i64 b]) (setBlock w mb (.map es1 clk1)) ∧ SeenOk es1 ∧ ∃ e ∈ es1.toList, e.born = b := by
  have hz : ∀ w, (zeroValue 3).run Tryz.prog w = .ok (.int .i64 0) w := fun w => by kernel_rfl
  rcases lgKeyed.find w hk es.toList (fun e he => (hs e he).1) with ⟨h1, -⟩ | ⟨j, e, h1, h2, h3⟩
  · refine ⟨.int .i64 0, es.push { key := k, val := .int .i64 0, born := clk }, clk + 1, clk, ?_, ?_, ⟨{ key := k, val := .int .i64 0, born := clk }, ?_, rfl⟩⟩
    · simp only [Instr.mapEntry, Sem.run_bind, run_underlying und_seen, Result.andThen, MapKept.run_getObj_map h, lgKeyed.check w _ hk, h1]
      simp [hz, MapKept.run_setObj_map _ h, setBlock, goInt]
    · intro e he
      simp only [Array.toList_push, List.mem_append, List.mem_singleton] at he
      rcases he with he | rfl
      · exact hs e he
      · exact ⟨⟨l, hk⟩, 0, rfl⟩
    · simp
  · obtain ⟨n, hn⟩ := (hs e (List.mem_of_getElem? h2)).2
    have h2' : es[j]? = some e := by simpa using h2
    have hst : (Instr.keyThatStays e.key k).run Tryz.prog w = .ok k w := by rw [h3]; exact lgKeyed.stays w hk
    refine ⟨e.val, es.modify j fun e => { e with key := k }, clk, e.born, ?_, ?_, ?_⟩
    · simp only [Instr.mapEntry, Sem.run_bind, run_underlying und_seen, Result.andThen, MapKept.run_getObj_map h, lgKeyed.check w _ hk, h1]
      simp [h2', hst, MapKept.run_setObj_map _ h, setBlock, goInt]
    · intro x hx
      rw [Array.mem_toList_iff, Array.mem_iff_getElem?] at hx
      obtain ⟨i, hi⟩ := hx
      rw [Array.getElem?_modify] at hi
      split at hi
      · simp only [Option.map_eq_some_iff] at hi
        obtain ⟨y, hy, rfl⟩ := hi
        exact ⟨⟨l, hk⟩, (hs y (by rw [Array.mem_toList_iff]; exact Array.mem_of_getElem? hy)).2⟩
      · exact hs x (by rw [Array.mem_toList_iff]; exact Array.mem_of_getElem? hi)
    · refine ⟨{ e with key := k }, ?_, rfl⟩
      rw [Array.mem_toList_iff, Array.mem_iff_getElem?]
      exact ⟨j, by rw [Array.getElem?_modify, if_pos rfl, h2']; rfl⟩

theorem seen_store {w : World} {mb clk b : Nat} {es : Array MapEntry} (h : w.heap[mb]? = some (.map es clk)) (hs : SeenOk es) (hb : ∃ e ∈ es.toList, e.born = b) (ty : Value) (n : Int) :
    ∃ es1 : Array MapEntry, (Instr.entryStore 159 (.map (some mb)) (.int .i64 b) (.int .i64 n)).run Tryz.prog w = .ok () (setBlock w mb (.map es1 clk)) ∧ SeenOk es1 := by
  obtain ⟨e, he, hbe⟩ := hb
  cases hf : es.findIdx? (fun e => (e.born : Int) == (b : Int)) with
  | none =>
    rw [Array.findIdx?_eq_none_iff] at hf
    have := hf e (Array.mem_toList_iff.1 he)
    rw [hbe] at this
    simp at this
  | some i =>
    refine ⟨es.modify i fun e => { e with val := .int .i64 n }, ?_, ?_⟩
    · simp only [Instr.entryStore, Sem.run_bind, Result.andThen, MapKept.run_getObj_map h]
      simp [asInt, asIntOf, hf, MapKept.run_setObj_map _ h, MapKept.run_getObj_map h, setBlock]
    · intro x hx
      rw [Array.mem_toList_iff, Array.mem_iff_getElem?] at hx
      obtain ⟨j, hj⟩ := hx
      rw [Array.getElem?_modify] at hj
      split at hj
      · simp only [Option.map_eq_some_iff] at hj
        obtain ⟨y, hy, rfl⟩ := hj
        exact ⟨(hs y (by rw [Array.mem_toList_iff]; exact Array.mem_of_getElem? hy)).1, n, rfl⟩
      · exact hs x (by rw [Array.mem_toList_iff]; exact Array.mem_of_getElem? hj)

end Go.Proofs.YtlljejmblmjjnaaGreatDoor

/- ledger: sum, set. -/
namespace Go.Proofs.YtlljejmblmjjnaaGreatDoor
set_option linter.unusedVariables false
set_option linter.unusedSimpArgs false
open Go.RowKit Go.ChangeMaps Go.WideMaps

theorem ix0 (a b c : Nat) (w : World) : (Instr.index 158 (.agg #[.int .i64 (a : Int), .int .i64 (b : Int), .int .i64 (c : Int), .int .i64 0, .int .i64 0, .int .i64 0, .int .i64 0, .int .i64 0]) (.int .i64 0)).run Tryz.prog w = .ok (.int .i64 (a : Int)) w := by kernel_rfl
theorem ix1 (a b c : Nat) (w : World) : (Instr.index 158 (.agg #[.int .i64 (a : Int), .int .i64 (b : Int), .int .i64 (c : Int), .int .i64 0, .int .i64 0, .int .i64 0, .int .i64 0, .int .i64 0]) (.int .i64 1)).run Tryz.prog w = .ok (.int .i64 (b : Int)) w := by kernel_rfl
theorem ix2 (a b c : Nat) (w : World) : (Instr.index 158 (.agg #[.int .i64 (a : Int), .int .i64 (b : Int), .int .i64 (c : Int), .int .i64 0, .int .i64 0, .int .i64 0, .int .i64 0, .int .i64 0]) (.int .i64 2)).run Tryz.prog w = .ok (.int .i64 (c : Int)) w := by kernel_rfl
theorem ix3 (a b c : Nat) (w : World) : (Instr.index 158 (.agg #[.int .i64 (a : Int), .int .i64 (b : Int), .int .i64 (c : Int), .int .i64 0, .int .i64 0, .int .i64 0, .int .i64 0, .int .i64 0]) (.int .i64 3)).run Tryz.prog w = .ok (.int .i64 0) w := by kernel_rfl
theorem ix4 (a b c : Nat) (w : World) : (Instr.index 158 (.agg #[.int .i64 (a : Int), .int .i64 (b : Int), .int .i64 (c : Int), .int .i64 0, .int .i64 0, .int .i64 0, .int .i64 0, .int .i64 0]) (.int .i64 4)).run Tryz.prog w = .ok (.int .i64 0) w := by kernel_rfl
theorem ix5 (a b c : Nat) (w : World) : (Instr.index 158 (.agg #[.int .i64 (a : Int), .int .i64 (b : Int), .int .i64 (c : Int), .int .i64 0, .int .i64 0, .int .i64 0, .int .i64 0, .int .i64 0]) (.int .i64 5)).run Tryz.prog w = .ok (.int .i64 0) w := by kernel_rfl
theorem ix6 (a b c : Nat) (w : World) : (Instr.index 158 (.agg #[.int .i64 (a : Int), .int .i64 (b : Int), .int .i64 (c : Int), .int .i64 0, .int .i64 0, .int .i64 0, .int .i64 0, .int .i64 0]) (.int .i64 6)).run Tryz.prog w = .ok (.int .i64 0) w := by kernel_rfl
theorem ix7 (a b c : Nat) (w : World) : (Instr.index 158 (.agg #[.int .i64 (a : Int), .int .i64 (b : Int), .int .i64 (c : Int), .int .i64 0, .int .i64 0, .int .i64 0, .int .i64 0, .int .i64 0]) (.int .i64 7)).run Tryz.prog w = .ok (.int .i64 0) w := by kernel_rfl
def psum (a b c : Nat) (k : Nat) : Nat := if k = 0 then 0 else if k = 1 then a else if k = 2 then a + b else a + b + c

set_option maxRecDepth 4000 in
set_option maxHeartbeats 1000000 in
theorem sum_any (a b c : Nat) (h : a + b + c < 2 ^ 60) (w : World) : Calls Tryz.prog 157 #[keyV a b c] w fun e w' => e = .returned (.int .i64 ((a + b + c : Nat) : Int)) ∧ Below w.heap.size w w' := by
  unfold keyV
  go_enter Tryz.func157, Tryz.ntmps157
  go_wp2
  go_loopw [3, 7] (fun s i wr => ∃ k : Nat, k ≤ 8 ∧ i = .int .i64 k ∧ s = .int .i64 (psum a b c k : Nat) ∧ Below w.heap.size w wr) (fun _ i _ => 8 - (intOf i).toNat)
  case atStart => exact ⟨0, by decide, rfl, rfl, (by repeat (first | exact Below.refl _ _ | assumption | refine Below.alloc ?_ (by first | omega | (simp <;> omega)) _ | refine Below.drew ?_ | refine Below.setCell ?_ (by first | omega | (simp <;> omega)) _ | refine Below.via (by assumption) (by first | omega | (simp <;> omega)) ?_))⟩
  case round =>
    obtain ⟨k, hk, rfl, rfl, hb⟩ := hrel
    have HB := Lib.hid hb
    clear hb
    have hk9 : k = 0 ∨ k = 1 ∨ k = 2 ∨ k = 3 ∨ k = 4 ∨ k = 5 ∨ k = 6 ∨ k = 7 ∨ k = 8 := by omega
    rcases hk9 with rfl | rfl | rfl | rfl | rfl | rfl | rfl | rfl | rfl
    · rw [show ((0 : Nat) : Int) = 0 from rfl]
      rw [show psum a b c 0 = 0 from rfl]
      have hix := ix0 a b c
      rw [show ((0 : Nat) : Int) = 0 from rfl]
      go_wp2
      go_roundw
      case rel => exact ⟨1, by decide, rfl, by rw [show psum a b c 1 = a from rfl], HB.out⟩
      case measure => first | (simp [intOf]; done) | (simp [intOf]; omega)
    · rw [show ((1 : Nat) : Int) = 1 from rfl]
      rw [show psum a b c 1 = a from rfl]
      have hix := ix1 a b c
      go_wp2
      go_roundw
      case rel => exact ⟨2, by decide, rfl, by rw [show psum a b c 2 = a + b from rfl]; simp, HB.out⟩
      case measure => first | (simp [intOf]; done) | (simp [intOf]; omega)
    · rw [show ((2 : Nat) : Int) = 2 from rfl]
      rw [show psum a b c 2 = a + b from rfl]
      have hix := ix2 a b c
      have he : ((a + b : Nat) : Int) + (c : Int) = ((a + b + c : Nat) : Int) := by omega
      have hn2 : (0 : Int) ≤ ((a + b : Nat) : Int) ∧ ((a + b : Nat) : Int) < 2 ^ 60 := by omega
      have HE := Lib.hid he
      clear he
      generalize hs2 : a + b = s2 at *
      have HS2 := Lib.hid hs2
      clear hs2
      go_wp2
      go_roundw
      case rel => exact ⟨3, by decide, rfl, by rw [show psum a b c 3 = a + b + c from rfl, HS2.out]; exact congrArg (Value.int .i64) HE.out, HB.out⟩
      case measure => first | (simp [intOf]; done) | (simp [intOf]; omega)
    · rw [show ((3 : Nat) : Int) = 3 from rfl]
      rw [show psum a b c 3 = a + b + c from rfl]
      have hix := ix3 a b c
      have hn2 : (0 : Int) ≤ ((a + b + c : Nat) : Int) ∧ ((a + b + c : Nat) : Int) < 2 ^ 60 := by omega
      generalize hs : a + b + c = s at *
      have HS := Lib.hid hs
      clear hs
      go_wp2
      go_roundw
      case rel => exact ⟨4, by decide, rfl, by rw [show psum a b c 4 = a + b + c from rfl, HS.out], HB.out⟩
      case measure => first | (simp [intOf]; done) | (simp [intOf]; omega)
    · rw [show ((4 : Nat) : Int) = 4 from rfl]
      rw [show psum a b c 4 = a + b + c from rfl]
      have hix := ix4 a b c
      have hn2 : (0 : Int) ≤ ((a + b + c : Nat) : Int) ∧ ((a + b + c : Nat) : Int) < 2 ^ 60 := by omega
      generalize hs : a + b + c = s at *
      have HS := Lib.hid hs
      clear hs
      go_wp2
      go_roundw
      case rel => exact ⟨5, by decide, rfl, by rw [show psum a b c 5 = a + b + c from rfl, HS.out], HB.out⟩
      case measure => first | (simp [intOf]; done) | (simp [intOf]; omega)
    · rw [show ((5 : Nat) : Int) = 5 from rfl]
      rw [show psum a b c 5 = a + b + c from rfl]
      have hix := ix5 a b c
      have hn2 : (0 : Int) ≤ ((a + b + c : Nat) : Int) ∧ ((a + b + c : Nat) : Int) < 2 ^ 60 := by omega
      generalize hs : a + b + c = s at *
      have HS := Lib.hid hs
      clear hs
      go_wp2
      go_roundw
      case rel => exact ⟨6, by decide, rfl, by rw [show psum a b c 6 = a + b + c from rfl, HS.out], HB.out⟩
      case measure => first | (simp [intOf]; done) | (simp [intOf]; omega)
    · rw [show ((6 : Nat) : Int) = 6 from rfl]
      rw [show psum a b c 6 = a + b + c from rfl]
      have hix := ix6 a b c
      have hn2 : (0 : Int) ≤ ((a + b + c : Nat) : Int) ∧ ((a + b + c : Nat) : Int) < 2 ^ 60 := by omega
      generalize hs : a + b + c = s at *
      have HS := Lib.hid hs
      clear hs
      go_wp2
      go_roundw
      case rel => exact ⟨7, by decide, rfl, by rw [show psum a b c 7 = a + b + c from rfl, HS.out], HB.out⟩
      case measure => first | (simp [intOf]; done) | (simp [intOf]; omega)
    · rw [show ((7 : Nat) : Int) = 7 from rfl]
      rw [show psum a b c 7 = a + b + c from rfl]
      have hix := ix7 a b c
      have hn2 : (0 : Int) ≤ ((a + b + c : Nat) : Int) ∧ ((a + b + c : Nat) : Int) < 2 ^ 60 := by omega
      generalize hs : a + b + c = s at *
      have HS := Lib.hid hs
      clear hs
      go_wp2
      go_roundw
      case rel => exact ⟨8, by decide, rfl, by rw [show psum a b c 8 = a + b + c from rfl, HS.out], HB.out⟩
      case measure => first | (simp [intOf]; done) | (simp [intOf]; omega)
    · rw [show psum a b c 8 = a + b + c from rfl]
      rw [show ((8 : Nat) : Int) = 8 from rfl]
      generalize hs : a + b + c = s at *
      have HS := Lib.hid hs
      clear hs
      go_wp2
      go_ret
      exact ⟨by rw [HS.out]; rfl, HB.out⟩

/-- A ledger in memory: what is reserved of the kinds 0, 1 and 2. -/
structure LedgerAt (w : World) (l mb cap a b c : Nat) : Prop where
  obj : ∃ pk : Int, w.heap[l]? = some (.cells #[.int .i64 cap, .int .i64 a, .int .i64 b, .int .i64 c, .int .i64 0, .int .i64 0, .int .i64 0, .int .i64 0, .int .i64 0, .int .i64 pk, .map (some mb)] 161 (0, 0))
  seen : ∃ es clk, w.heap[mb]? = some (.map es clk) ∧ SeenOk es
  most : cap ≤ 2 ^ 40
  fits : a + b + c ≤ cap

theorem LedgerAt.turned {F : Nat → Prop} {w w' : World} {l mb cap a b c : Nat} (h : LedgerAt w l mb cap a b c) (t : Turned F w w') (hl : ¬ F l) (hm : ¬ F mb) : LedgerAt w' l mb cap a b c := by
  obtain ⟨pk, h1⟩ := h.obj
  obtain ⟨es, clk, h2, h3⟩ := h.seen
  exact ⟨⟨pk, (t.block _ (lt_of_block h1) hl).trans h1⟩, ⟨es, clk, (t.block _ (lt_of_block h2) hm).trans h2, h3⟩, h.most, h.fits⟩
theorem LedgerAt.below {w w' : World} {l mb cap a b c : Nat} (h : LedgerAt w l mb cap a b c) (hb : Below w.heap.size w w') : LedgerAt w' l mb cap a b c :=
  h.turned (Turned.of_below (F := fun _ => False) hb (Nat.le_refl _)) (fun h => h) (fun h => h)
theorem LedgerAt.lt {w : World} {l mb cap a b c : Nat} (h : LedgerAt w l mb cap a b c) : l < w.heap.size ∧ mb < w.heap.size ∧ l ≠ mb := by
  obtain ⟨pk, h1⟩ := h.obj
  obtain ⟨es, clk, h2, h3⟩ := h.seen
  refine ⟨lt_of_block h1, lt_of_block h2, ?_⟩
  rintro rfl
  rw [h1] at h2
  cases h2

end Go.Proofs.YtlljejmblmjjnaaGreatDoor

/- ledger: set. -/
namespace Go.Proofs.YtlljejmblmjjnaaGreatDoor
set_option linter.unusedVariables false
set_option linter.unusedSimpArgs false
open Go.RowKit Go.ChangeMaps Go.WideMaps

theorem turned_setCells (b : Nat) : ∀ (vs : List Value) (o : Nat) (w : World), Turned (fun j => j = b) w (w.setCells b o vs)
  | [], _, w => Turned.refl _ w
  | v :: vs, o, w => (Turned.setCell (F := fun j => j = b) (p := ⟨b, o, none⟩) (Turned.refl _ w) (.inl rfl) v).trans (turned_setCells b vs (o + 1) _) (fun _ h _ => h)

theorem lset_block {W : World} {l cap a b c mb : Nat} {pk : Int} (a' b' c' : Nat) (h : W.heap[l]? = some (.cells #[.int .i64 cap, .int .i64 a, .int .i64 b, .int .i64 c, .int .i64 0, .int .i64 0, .int .i64 0, .int .i64 0, .int .i64 0, .int .i64 pk, .map (some mb)] 161 (0, 0))) :
    (W.setCells l 1 [.int .i64 a', .int .i64 b', .int .i64 c', .int .i64 0, .int .i64 0, .int .i64 0, .int .i64 0, .int .i64 0]).heap[l]? = some (.cells #[.int .i64 cap, .int .i64 a', .int .i64 b', .int .i64 c', .int .i64 0, .int .i64 0, .int .i64 0, .int .i64 0, .int .i64 0, .int .i64 pk, .map (some mb)] 161 (0, 0)) := by
  simp only [World.setCells]
  rw [heap_setCell_eq (heap_setCell_eq (heap_setCell_eq (heap_setCell_eq (heap_setCell_eq (heap_setCell_eq (heap_setCell_eq (heap_setCell_eq h _) _) _) _) _) _) _) _]
  refine congrArg (fun x => some (Obj.cells x 161 (0, 0))) ?_
  apply Array.toList_inj.1
  simp only [Array.toList_setIfInBounds]
  rfl

def LgPost (w : World) (l mb cap a b c : Nat) (e : Ending) (w' : World) : Prop := e = .returned (.int .i64 0) ∧ LedgerAt w' l mb cap a b c ∧ Turned (fun j => j = l ∨ j = mb) w w'

set_option maxRecDepth 100000 in
set_option maxHeartbeats 2000000 in
theorem lset_any (l mb cap a b c a' b' c' : Nat) (w : World) (h : LedgerAt w l mb cap a b c) (hf : a' + b' + c' ≤ cap) :
    Calls Tryz.prog 132 #[.pointer (some ⟨l, 0, none⟩), keyV a' b' c'] w (LgPost w l mb cap a' b' c') := by
  obtain ⟨pk, hobj⟩ := h.obj
  obtain ⟨es, clk, hmap, hes⟩ := h.seen
  have hcap := h.most
  have hne := h.lt.2.2
  have HSUM := Lib.hid (fun w => sum_any a' b' c' (by omega) w)
  have hl := lt_of_block hobj
  unfold keyV at *
  obtain ⟨W1, hW1⟩ : ∃ W1, W1 = w.alloc (.cells #[.int .i64 a', .int .i64 b', .int .i64 c', .int .i64 0, .int .i64 0, .int .i64 0, .int .i64 0, .int .i64 0] 158) := ⟨_, rfl⟩
  have hb1 : Below w.heap.size w W1 := by rw [hW1]; exact (by repeat (first | exact Below.refl _ _ | assumption | refine Below.alloc ?_ (by first | omega | (simp <;> omega)) _ | refine Below.drew ?_ | refine Below.setCell ?_ (by first | omega | (simp <;> omega)) _ | refine Below.via (by assumption) (by first | omega | (simp <;> omega)) ?_))
  have hobj1 := (hb1.block _ hl).trans hobj
  have hbox1 : W1.heap[w.heap.size]? = some (.cells #[.int .i64 a', .int .i64 b', .int .i64 c', .int .i64 0, .int .i64 0, .int .i64 0, .int .i64 0, .int .i64 0] 158 (0, 0)) := by rw [hW1]; exact heap_alloc_new _ _
  have hth : W1.there l 1 8 := fun j hj => ⟨by rw [cell_of_block hobj1]; simp; omega, frozen_of_block hobj1 _⟩
  have hi8 : (Tryz.prog.info? 158).map (·.size) = some 8 := by kernel_rfl
  have h1c : (#[.int .i64 (a' : Int), .int .i64 (b' : Int), .int .i64 (c' : Int), .int .i64 0, .int .i64 0, .int .i64 0, .int .i64 0, .int .i64 0] : Array Value).all (·.oneCell') = true := by simp [Value.oneCell']
  have HW1 := Lib.hid hW1
  clear h hW1
  go_enter Tryz.func132, Tryz.ntmps132
  go_upto_region 1 with (fail)
  rw [← HW1.out]
  go_upto_region 2 with (first | (refine wpList_load_row rfl 158 _ rfl w.heap.size rfl 158 _ (0, 0) _ hbox1 lgArr.hu rfl hi8 ?_) | (refine wpList_store_mid rfl 158 _ _ rfl l 1 #[.int .i64 (a' : Int), .int .i64 (b' : Int), .int .i64 (c' : Int), .int .i64 0, .int .i64 0, .int .i64 0, .int .i64 0, .int .i64 0] rfl rfl hth hi8 h1c ?_))
  have hobj2 := lset_block a' b' c' hobj1
  have ht2 := turned_setCells l [.int .i64 a', .int .i64 b', .int .i64 c', .int .i64 0, .int .i64 0, .int .i64 0, .int .i64 0, .int .i64 0] 1 W1
  change Code.wp _ _ _ _ (W1.setCells l 1 [.int .i64 a', .int .i64 b', .int .i64 c', .int .i64 0, .int .i64 0, .int .i64 0, .int .i64 0, .int .i64 0])
  generalize W1.setCells l 1 [.int .i64 a', .int .i64 b', .int .i64 c', .int .i64 0, .int .i64 0, .int .i64 0, .int .i64 0, .int .i64 0] = W2 at *
  have hb12 : w.heap.size < W2.heap.size := Nat.lt_of_lt_of_le (lt_of_block hbox1) ht2.size
  have hbox2 := (ht2.block _ (lt_of_block hbox1) (by omega)).trans hbox1
  have hmap2 : W2.heap[mb]? = some (.map es clk) := (ht2.block _ (Nat.lt_of_lt_of_le (lt_of_block hmap) hb1.size) (Ne.symm hne)).trans ((hb1.block _ (lt_of_block hmap)).trans hmap)
  have hT2 : Turned (fun j => j = l ∨ j = mb) w W2 := (Turned.of_below hb1 (Nat.le_refl _)).trans ht2 (fun x hx hl => .inl hx)
  have HT2 := Lib.hid hT2
  have HOBJ2 := Lib.hid hobj2
  have HBOX2 := Lib.hid hbox2
  have HMAP2 := Lib.hid hmap2
  have p0 := cell_of_block hbox2 0
  have p1 := cell_of_block hbox2 1
  have p2 := cell_of_block hbox2 2
  have p3 := cell_of_block hbox2 3
  have p4 := cell_of_block hbox2 4
  have p5 := cell_of_block hbox2 5
  have p6 := cell_of_block hbox2 6
  have p7 := cell_of_block hbox2 7
  have q9 := cell_of_block hobj2 9
  simp only [List.getElem?_toArray, List.getElem?_cons_zero, List.getElem?_cons_succ] at p0 p1 p2 p3 p4 p5 p6 p7 q9
  clear hobj hobj1 hbox1 hmap hmap2 hbox2 hobj2 hT2 ht2 hth hi8 h1c
  (refine wp_region_quiet_tail_ext 8 (by kernel_rfl) (by kernel_rfl) ?_; simp only [List.take_succ_cons, List.take_zero, List.drop_succ_cons, List.drop_zero])
  ((repeat (first | go_big_quiet_step ((go_at_call 157; exact Calls.ext_of (HSUM.out _))) | quiet_step ((go_at_call 157; exact Calls.ext_of (HSUM.out _))))); refine wpQuiet_nil ?_; intro w3 hw3; obtain hb3 := below_of_ext hw3; clear hw3; have hz3 := hb3.size; (try simp at hz3))
  have hl2 : l < W2.heap.size := lt_of_block HOBJ2.out
  have hobj3 : w3.heap[l]? = _ := (hb3.block _ hl2).trans HOBJ2.out
  have hmap3 : w3.heap[mb]? = _ := (hb3.block _ (lt_of_block HMAP2.out)).trans HMAP2.out
  have hbox3 : w3.heap[w.heap.size]? = _ := (hb3.block _ hb12).trans HBOX2.out
  have g9 := cell_of_block hobj3 9
  have f9 := frozen_of_block hobj3 9
  simp only [List.getElem?_toArray, List.getElem?_cons_zero, List.getElem?_cons_succ] at g9
  have HT3 := Lib.hid (HT2.out.trans (Turned.of_below (F := fun j => j = l ∨ j = mb) hb3 (Nat.le_refl _)) (fun _ h _ => h))
  have HOBJ3 := Lib.hid hobj3
  have HMAP3 := Lib.hid hmap3
  have HBOX3 := Lib.hid hbox3
  clear hobj3 hmap3 hbox3 hb3 p0 p1 p2 p3 p4 p5 p6 p7 q9
  have hset : ∀ v : Int, ∃ W4, W4 = w3.setCell ⟨l, 9, none⟩ (.int .i64 v) ∧ W4.heap[l]? = some (.cells #[.int .i64 cap, .int .i64 a', .int .i64 b', .int .i64 c', .int .i64 0, .int .i64 0, .int .i64 0, .int .i64 0, .int .i64 0, .int .i64 v, .map (some mb)] 161 (0, 0)) ∧
      W4.heap[mb]? = some (.map es clk) ∧ W4.heap[w.heap.size]? = some (.cells #[.int .i64 a', .int .i64 b', .int .i64 c', .int .i64 0, .int .i64 0, .int .i64 0, .int .i64 0, .int .i64 0] 158 (0, 0)) ∧ Turned (fun j => j = l ∨ j = mb) w W4 := fun v => by
    have ht : Turned (fun j => j = l) w3 (w3.setCell ⟨l, 9, none⟩ (.int .i64 v)) := Turned.setCell (F := fun j => j = l) (p := ⟨l, 9, none⟩) (Turned.refl _ _) (.inl rfl) _
    refine ⟨_, rfl, ?_, (ht.block _ (lt_of_block HMAP3.out) (Ne.symm hne)).trans HMAP3.out, (ht.block _ (lt_of_block HBOX3.out) (by omega)).trans HBOX3.out, HT3.out.trans ht (fun x hx _ => .inl hx)⟩
    rw [heap_setCell_eq HOBJ3.out]
    rfl
  have HSET := Lib.hid hset
  obtain ⟨lk, hlk⟩ := key_any a' b' c' (by omega) (by omega) (by omega)
  have HLK := Lib.hid hlk
  have HES := Lib.hid hes
  clear hset hlk hes
  go_wp2
  all_goals
    obtain ⟨W4, hW4, hobj4, hmap4, hbox4, ht4⟩ := HSET.out _
    rw [← hW4]
    clear hW4
    obtain ⟨n0, hlook⟩ := seen_lookup (w := W4.drew) (mb := mb) hmap4 HES.out HLK.out
    obtain ⟨v1, es1, clk1, born, hent, hes1, hborn⟩ := seen_entry (w := W4.drew) (mb := mb) hmap4 HES.out HLK.out
    have p0 : W4.drew.cell? ⟨w.heap.size, 0, none⟩ = _ := cell_of_block hbox4 0
    have p1 : W4.drew.cell? ⟨w.heap.size, 1, none⟩ = _ := cell_of_block hbox4 1
    have p2 : W4.drew.cell? ⟨w.heap.size, 2, none⟩ = _ := cell_of_block hbox4 2
    have p3 : W4.drew.cell? ⟨w.heap.size, 3, none⟩ = _ := cell_of_block hbox4 3
    have p4 : W4.drew.cell? ⟨w.heap.size, 4, none⟩ = _ := cell_of_block hbox4 4
    have p5 : W4.drew.cell? ⟨w.heap.size, 5, none⟩ = _ := cell_of_block hbox4 5
    have p6 : W4.drew.cell? ⟨w.heap.size, 6, none⟩ = _ := cell_of_block hbox4 6
    have p7 : W4.drew.cell? ⟨w.heap.size, 7, none⟩ = _ := cell_of_block hbox4 7
    have q10 : W4.drew.cell? ⟨l, 10, none⟩ = _ := cell_of_block hobj4 10
    simp only [List.getElem?_toArray, List.getElem?_cons_zero, List.getElem?_cons_succ] at p0 p1 p2 p3 p4 p5 p6 p7 q10
    have hmapW : W4.drew.heap[mb]? = some (.map es clk) := hmap4
    have hobjW : W4.drew.heap[l]? = _ := hobj4
    have htW := ht4.drew
    unfold keyV at hlook hent
    have hlt5 : mb < W4.drew.heap.size := lt_of_block hmapW
    have hfin : ∀ n : Int, ∃ es2, (Instr.entryStore 159 (.map (some mb)) (.int .i64 born) (.int .i64 n)).run Tryz.prog (setBlock W4.drew mb (.map es1 clk1)) = .ok () (setBlock (setBlock W4.drew mb (.map es1 clk1)) mb (.map es2 clk1)) ∧
        LgPost w l mb cap a' b' c' (.returned (.int .i64 0)) (setBlock (setBlock W4.drew mb (.map es1 clk1)) mb (.map es2 clk1)) := fun n => by
      obtain ⟨es2, hsto, hes2⟩ := seen_store (w := setBlock W4.drew mb (.map es1 clk1)) (heap_setBlock_eq hlt5 _) hes1 hborn (.int .i64 0) n
      refine ⟨es2, hsto, rfl, ⟨⟨_, (heap_setBlock_ne _ _ _ hne).trans ((heap_setBlock_ne _ _ _ hne).trans hobjW)⟩, ⟨es2, clk1, heap_setBlock_eq (by rw [size_setBlock]; exact hlt5) _, hes2⟩, hcap, hf⟩, ?_⟩
      exact (htW.setBlock (.inl (.inr rfl)) _).setBlock (.inl (.inr rfl)) _
    obtain ⟨n1, hlook1⟩ := seen_lookup (w := setBlock W4.drew mb (.map es1 clk1)) (mb := mb) (heap_setBlock_eq hlt5 _) hes1 HLK.out
    unfold keyV at hlook1
    obtain ⟨es2, hst2, hf2⟩ := hfin (IntKind.i64.wrap (n0 + 1))
    obtain ⟨es3, hst3, hf3⟩ := hfin (IntKind.i64.wrap (n1 + 1))
    have HF2 := Lib.hid hf2
    have HF3 := Lib.hid hf3
    clear hobj4 hmap4 hbox4 ht4 hmapW hobjW htW hes1 hborn hfin hf2 hf3 hlt5
    go_region
    all_goals
      go_wp2
      go_ret
      first | exact HF2.out | exact HF3.out

end Go.Proofs.YtlljejmblmjjnaaGreatDoor

/- ledger: New, Held, Reserve, Release, Shift. -/
namespace Go.Proofs.YtlljejmblmjjnaaGreatDoor
set_option linter.unusedVariables false
set_option linter.unusedSimpArgs false
open Go.RowKit Go.ChangeMaps Go.WideMaps

set_option maxHeartbeats 400000 in
theorem lright_yes (k n : Nat) (hk : k < 8) (w : World) : Calls Tryz.prog 103 #[.int .i64 k, .int .i64 n] w fun e w' => e = .returned (.bool true) ∧ w = w' := by
  have h1 : (0 : Int) ≤ (k : Int) := by omega
  have h2 : (k : Int) < 8 := by omega
  have h3 : (0 : Int) ≤ (n : Int) := by omega
  go_enter Tryz.func103, Tryz.ntmps103
  go_wp2
  go_ret
  exact ⟨rfl, rfl⟩

theorem LedgerAt.cells {w : World} {l mb cap a b c : Nat} (h : LedgerAt w l mb cap a b c) :
    w.cell? ⟨l, 0, none⟩ = some (.int .i64 cap) ∧ w.cell? ⟨l, 1, none⟩ = some (.int .i64 a) ∧ w.cell? ⟨l, 2, none⟩ = some (.int .i64 b) ∧ w.cell? ⟨l, 3, none⟩ = some (.int .i64 c) ∧ w.cell? ⟨l, 4, none⟩ = some (.int .i64 0) ∧ w.cell? ⟨l, 5, none⟩ = some (.int .i64 0) ∧ w.cell? ⟨l, 6, none⟩ = some (.int .i64 0) ∧ w.cell? ⟨l, 7, none⟩ = some (.int .i64 0) ∧ w.cell? ⟨l, 8, none⟩ = some (.int .i64 0) := by
  obtain ⟨pk, h1⟩ := h.obj
  refine ⟨?_, ?_, ?_, ?_, ?_, ?_, ?_, ?_, ?_⟩ <;> rw [cell_of_block h1] <;> rfl

def heldN (a b c : Nat) (k : Nat) : Nat := if k = 0 then a else if k = 1 then b else c
set_option maxRecDepth 4000 in
set_option maxHeartbeats 1000000 in
theorem held_any (l mb cap a b c k : Nat) (hk : k < 3) (w : World) (h : LedgerAt w l mb cap a b c) :
    Calls Tryz.prog 53 #[.pointer (some ⟨l, 0, none⟩), .int .i64 k] w fun e w' => e = .returned (.int .i64 (heldN a b c k : Nat)) ∧ w = w' := by
  obtain ⟨c0, c1, c2, c3, -⟩ := h.cells
  have HR := Lib.hid (fun w => lright_yes k 0 (by omega) w)
  clear h
  have : k = 0 ∨ k = 1 ∨ k = 2 := by omega
  rcases this with rfl | rfl | rfl
  · rw [show heldN a b c 0 = a from rfl]
    rw [show ((0 : Nat) : Int) = 0 from rfl] at *
    go_enter Tryz.func53, Tryz.ntmps53
    go_wp2_with (fail)
    refine (HR.out _).mono ?_
    rintro e w1 ⟨rfl, rfl⟩
    go_wp2
    go_ret
    exact ⟨rfl, rfl⟩
  · rw [show heldN a b c 1 = b from rfl]
    rw [show ((1 : Nat) : Int) = 1 from rfl] at *
    go_enter Tryz.func53, Tryz.ntmps53
    go_wp2_with (fail)
    refine (HR.out _).mono ?_
    rintro e w1 ⟨rfl, rfl⟩
    go_wp2
    go_ret
    exact ⟨rfl, rfl⟩
  · rw [show heldN a b c 2 = c from rfl]
    rw [show ((2 : Nat) : Int) = 2 from rfl] at *
    go_enter Tryz.func53, Tryz.ntmps53
    go_wp2_with (fail)
    refine (HR.out _).mono ?_
    rintro e w1 ⟨rfl, rfl⟩
    go_wp2
    go_ret
    exact ⟨rfl, rfl⟩

set_option maxRecDepth 4000 in
set_option maxHeartbeats 1000000 in
theorem total_any (l mb cap a b c : Nat) (w : World) (h : LedgerAt w l mb cap a b c) :
    Calls Tryz.prog 156 #[.pointer (some ⟨l, 0, none⟩)] w fun e w' => e = .returned (.int .i64 ((a + b + c : Nat) : Int)) ∧ Below w.heap.size w w' := by
  obtain ⟨c0, c1, c2, c3, c4, c5, c6, c7, c8⟩ := h.cells
  have HS := Lib.hid (fun w => sum_any a b c (by have := h.most; have := h.fits; omega) w)
  unfold keyV at HS
  clear h
  go_enter Tryz.func156, Tryz.ntmps156
  go_wp2_with (fail)
  refine (HS.out _).mono ?_
  rintro e w1 ⟨rfl, hb⟩
  have HB := Lib.hid hb
  clear hb
  go_wp2
  go_ret
  exact ⟨rfl, HB.out⟩

set_option maxRecDepth 4000 in
set_option maxHeartbeats 1000000 in
theorem left_any (l mb cap a b c : Nat) (w : World) (h : LedgerAt w l mb cap a b c) :
    Calls Tryz.prog 131 #[.pointer (some ⟨l, 0, none⟩)] w fun e w' => e = .returned (.int .i64 ((cap - (a + b + c) : Nat) : Int)) ∧ Below w.heap.size w w' := by
  obtain ⟨c0, -⟩ := h.cells
  have HT := Lib.hid (fun (W : World) (hb : Below w.heap.size w W) => total_any l mb cap a b c W (h.below hb))
  have hm := h.most
  have hf := h.fits
  have hl := h.lt.1
  have hw : IntKind.i64.wrap ((cap : Int) - ((a + b + c : Nat) : Int)) = ((cap - (a + b + c) : Nat) : Int) := by rw [IntKind.wrap_i64]; omega
  clear h
  generalize a + b + c = s at *
  go_enter Tryz.func131, Tryz.ntmps131
  go_wp2
  (refine wp_region_quiet_ext (by kernel_rfl) (by kernel_rfl) ?_; (repeat (first | go_big_quiet_step ((go_at_call 156; exact Calls.ext_of (HT.out _ (below_ext _ _)))) | quiet_step ((go_at_call 156; exact Calls.ext_of (HT.out _ (below_ext _ _)))))); refine wpQuiet_nil ?_; intro w1 hw1; obtain hb := below_of_ext hw1; clear hw1; obtain ⟨hc, hf⟩ := bcell hb; have hz := hb.size; (try simp at hz))
  have HB := Lib.hid hb
  clear hb hc hf
  go_wp2
  go_ret
  exact ⟨rfl, HB.out⟩

set_option maxRecDepth 100000 in
set_option maxHeartbeats 2000000 in
theorem reserve0 (l mb cap a b c n : Nat) (w : World) (h : LedgerAt w l mb cap a b c) (hn : a + b + c + n ≤ cap) :
    Calls Tryz.prog 86 #[.pointer (some ⟨l, 0, none⟩), .int .i64 0, .int .i64 n] w (LgPost w l mb cap (a + n) b c) := by
  obtain ⟨c0, c1, c2, c3, c4, c5, c6, c7, c8⟩ := h.cells
  have hm := h.most
  have hf := h.fits
  have HR := Lib.hid (fun w => lright_yes 0 n (by decide) w)
  rw [show ((0 : Nat) : Int) = 0 from rfl] at HR
  have HLF := Lib.hid (left_any l mb cap a b c w h)
  have hle : ¬ ((cap - (a + b + c) : Nat) : Int) < (n : Int) := by omega
  have HSET := Lib.hid (fun (W : World) (hb : Below w.heap.size w W) => lset_any l mb cap a b c (a + n) b c W (h.below hb) (by omega))
  unfold keyV at HSET
  have hw : IntKind.i64.wrap ((a : Int) + (n : Int)) = ((a + n : Nat) : Int) := by rw [IntKind.wrap_i64]; omega
  have he : (a : Int) + (n : Int) = ((a + n : Nat) : Int) := by omega
  clear h hm hf hn
  generalize hr : a + n = r at *
  have HRR := Lib.hid hr
  have HE := Lib.hid he
  clear hr he
  generalize cap - (a + b + c) = lf at *
  go_enter Tryz.func86, Tryz.ntmps86
  go_wp2_with (fail)
  refine (HR.out _).mono ?_
  rintro e w1 ⟨rfl, rfl⟩
  go_wp2_with (fail)
  refine HLF.out.mono ?_
  rintro e w1 ⟨rfl, hb⟩
  have d1 := cell_past hb (cell_lt c1) c1
  have d2 := cell_past hb (cell_lt c2) c2
  have d3 := cell_past hb (cell_lt c3) c3
  have d4 := cell_past hb (cell_lt c4) c4
  have d5 := cell_past hb (cell_lt c5) c5
  have d6 := cell_past hb (cell_lt c6) c6
  have d7 := cell_past hb (cell_lt c7) c7
  have d8 := cell_past hb (cell_lt c8) c8
  have HB := Lib.hid hb
  have hs1 := hb.size
  clear hb c0 c1 c2 c3 c4 c5 c6 c7 c8
  go_wp2_with (fail)
  refine (HSET.out _ (HB.out.alloc hs1 _)).mono ?_
  rintro e w2 ⟨rfl, hl2, ht2⟩
  have HL2 := Lib.hid hl2
  have HT2 := Lib.hid ((Turned.of_below (F := fun j => j = l ∨ j = mb) (HB.out.alloc hs1 _) (Nat.le_refl _)).trans ht2 (fun _ h _ => h))
  clear hl2 ht2
  go_wp2
  go_ret
  exact ⟨rfl, HRR.out ▸ HL2.out, HT2.out⟩

set_option maxRecDepth 100000 in
set_option maxHeartbeats 2000000 in
theorem reserve1 (l mb cap a b c n : Nat) (w : World) (h : LedgerAt w l mb cap a b c) (hn : a + b + c + n ≤ cap) :
    Calls Tryz.prog 86 #[.pointer (some ⟨l, 0, none⟩), .int .i64 1, .int .i64 n] w (LgPost w l mb cap a (b + n) c) := by
  obtain ⟨c0, c1, c2, c3, c4, c5, c6, c7, c8⟩ := h.cells
  have hm := h.most
  have hf := h.fits
  have HR := Lib.hid (fun w => lright_yes 1 n (by decide) w)
  rw [show ((1 : Nat) : Int) = 1 from rfl] at HR
  have HLF := Lib.hid (left_any l mb cap a b c w h)
  have hle : ¬ ((cap - (a + b + c) : Nat) : Int) < (n : Int) := by omega
  have HSET := Lib.hid (fun (W : World) (hb : Below w.heap.size w W) => lset_any l mb cap a b c a (b + n) c W (h.below hb) (by omega))
  unfold keyV at HSET
  have hw : IntKind.i64.wrap ((b : Int) + (n : Int)) = ((b + n : Nat) : Int) := by rw [IntKind.wrap_i64]; omega
  have he : (b : Int) + (n : Int) = ((b + n : Nat) : Int) := by omega
  clear h hm hf hn
  generalize hr : b + n = r at *
  have HRR := Lib.hid hr
  have HE := Lib.hid he
  clear hr he
  generalize cap - (a + b + c) = lf at *
  go_enter Tryz.func86, Tryz.ntmps86
  go_wp2_with (fail)
  refine (HR.out _).mono ?_
  rintro e w1 ⟨rfl, rfl⟩
  go_wp2_with (fail)
  refine HLF.out.mono ?_
  rintro e w1 ⟨rfl, hb⟩
  have d1 := cell_past hb (cell_lt c1) c1
  have d2 := cell_past hb (cell_lt c2) c2
  have d3 := cell_past hb (cell_lt c3) c3
  have d4 := cell_past hb (cell_lt c4) c4
  have d5 := cell_past hb (cell_lt c5) c5
  have d6 := cell_past hb (cell_lt c6) c6
  have d7 := cell_past hb (cell_lt c7) c7
  have d8 := cell_past hb (cell_lt c8) c8
  have HB := Lib.hid hb
  have hs1 := hb.size
  clear hb c0 c1 c2 c3 c4 c5 c6 c7 c8
  go_wp2_with (fail)
  refine (HSET.out _ (HB.out.alloc hs1 _)).mono ?_
  rintro e w2 ⟨rfl, hl2, ht2⟩
  have HL2 := Lib.hid hl2
  have HT2 := Lib.hid ((Turned.of_below (F := fun j => j = l ∨ j = mb) (HB.out.alloc hs1 _) (Nat.le_refl _)).trans ht2 (fun _ h _ => h))
  clear hl2 ht2
  go_wp2
  go_ret
  exact ⟨rfl, HRR.out ▸ HL2.out, HT2.out⟩

set_option maxRecDepth 100000 in
set_option maxHeartbeats 2000000 in
theorem reserve2 (l mb cap a b c n : Nat) (w : World) (h : LedgerAt w l mb cap a b c) (hn : a + b + c + n ≤ cap) :
    Calls Tryz.prog 86 #[.pointer (some ⟨l, 0, none⟩), .int .i64 2, .int .i64 n] w (LgPost w l mb cap a b (c + n)) := by
  obtain ⟨c0, c1, c2, c3, c4, c5, c6, c7, c8⟩ := h.cells
  have hm := h.most
  have hf := h.fits
  have HR := Lib.hid (fun w => lright_yes 2 n (by decide) w)
  rw [show ((2 : Nat) : Int) = 2 from rfl] at HR
  have HLF := Lib.hid (left_any l mb cap a b c w h)
  have hle : ¬ ((cap - (a + b + c) : Nat) : Int) < (n : Int) := by omega
  have HSET := Lib.hid (fun (W : World) (hb : Below w.heap.size w W) => lset_any l mb cap a b c a b (c + n) W (h.below hb) (by omega))
  unfold keyV at HSET
  have hw : IntKind.i64.wrap ((c : Int) + (n : Int)) = ((c + n : Nat) : Int) := by rw [IntKind.wrap_i64]; omega
  have he : (c : Int) + (n : Int) = ((c + n : Nat) : Int) := by omega
  clear h hm hf hn
  generalize hr : c + n = r at *
  have HRR := Lib.hid hr
  have HE := Lib.hid he
  clear hr he
  generalize cap - (a + b + c) = lf at *
  go_enter Tryz.func86, Tryz.ntmps86
  go_wp2_with (fail)
  refine (HR.out _).mono ?_
  rintro e w1 ⟨rfl, rfl⟩
  go_wp2_with (fail)
  refine HLF.out.mono ?_
  rintro e w1 ⟨rfl, hb⟩
  have d1 := cell_past hb (cell_lt c1) c1
  have d2 := cell_past hb (cell_lt c2) c2
  have d3 := cell_past hb (cell_lt c3) c3
  have d4 := cell_past hb (cell_lt c4) c4
  have d5 := cell_past hb (cell_lt c5) c5
  have d6 := cell_past hb (cell_lt c6) c6
  have d7 := cell_past hb (cell_lt c7) c7
  have d8 := cell_past hb (cell_lt c8) c8
  have HB := Lib.hid hb
  have hs1 := hb.size
  clear hb c0 c1 c2 c3 c4 c5 c6 c7 c8
  go_wp2_with (fail)
  refine (HSET.out _ (HB.out.alloc hs1 _)).mono ?_
  rintro e w2 ⟨rfl, hl2, ht2⟩
  have HL2 := Lib.hid hl2
  have HT2 := Lib.hid ((Turned.of_below (F := fun j => j = l ∨ j = mb) (HB.out.alloc hs1 _) (Nat.le_refl _)).trans ht2 (fun _ h _ => h))
  clear hl2 ht2
  go_wp2
  go_ret
  exact ⟨rfl, HRR.out ▸ HL2.out, HT2.out⟩

set_option maxRecDepth 100000 in
set_option maxHeartbeats 2000000 in
theorem release0 (l mb cap a b c n : Nat) (w : World) (h : LedgerAt w l mb cap a b c) (hn : n ≤ a) :
    Calls Tryz.prog 89 #[.pointer (some ⟨l, 0, none⟩), .int .i64 0, .int .i64 n] w (LgPost w l mb cap (a - n) b c) := by
  obtain ⟨c0, c1, c2, c3, c4, c5, c6, c7, c8⟩ := h.cells
  have hm := h.most
  have hf := h.fits
  have HR := Lib.hid (fun w => lright_yes 0 n (by decide) w)
  rw [show ((0 : Nat) : Int) = 0 from rfl] at HR
  have hle : ¬ (a : Int) < (n : Int) := by omega
  have HSET := Lib.hid (fun (W : World) (hb : Below w.heap.size w W) => lset_any l mb cap a b c (a - n) b c W (h.below hb) (by omega))
  unfold keyV at HSET
  have hw : IntKind.i64.wrap ((a : Int) - (n : Int)) = ((a - n : Nat) : Int) := by rw [IntKind.wrap_i64]; omega
  have he : (a : Int) - (n : Int) = ((a - n : Nat) : Int) := by omega
  clear h hm hf hn
  generalize hr : a - n = r at *
  have HRR := Lib.hid hr
  have HE := Lib.hid he
  clear hr he
  go_enter Tryz.func89, Tryz.ntmps89
  go_wp2_with (fail)
  refine (HR.out _).mono ?_
  rintro e w1 ⟨rfl, rfl⟩
  have HB := Lib.hid (Below.refl w.heap.size w)
  have hs1 := Nat.le_refl w.heap.size
  go_wp2_with (fail)
  refine (HSET.out _ (HB.out.alloc hs1 _)).mono ?_
  rintro e w2 ⟨rfl, hl2, ht2⟩
  have HL2 := Lib.hid hl2
  have HT2 := Lib.hid ((Turned.of_below (F := fun j => j = l ∨ j = mb) (HB.out.alloc hs1 _) (Nat.le_refl _)).trans ht2 (fun _ h _ => h))
  clear hl2 ht2
  go_wp2
  go_ret
  exact ⟨rfl, HRR.out ▸ HL2.out, HT2.out⟩

set_option maxRecDepth 100000 in
set_option maxHeartbeats 2000000 in
theorem release1 (l mb cap a b c n : Nat) (w : World) (h : LedgerAt w l mb cap a b c) (hn : n ≤ b) :
    Calls Tryz.prog 89 #[.pointer (some ⟨l, 0, none⟩), .int .i64 1, .int .i64 n] w (LgPost w l mb cap a (b - n) c) := by
  obtain ⟨c0, c1, c2, c3, c4, c5, c6, c7, c8⟩ := h.cells
  have hm := h.most
  have hf := h.fits
  have HR := Lib.hid (fun w => lright_yes 1 n (by decide) w)
  rw [show ((1 : Nat) : Int) = 1 from rfl] at HR
  have hle : ¬ (b : Int) < (n : Int) := by omega
  have HSET := Lib.hid (fun (W : World) (hb : Below w.heap.size w W) => lset_any l mb cap a b c a (b - n) c W (h.below hb) (by omega))
  unfold keyV at HSET
  have hw : IntKind.i64.wrap ((b : Int) - (n : Int)) = ((b - n : Nat) : Int) := by rw [IntKind.wrap_i64]; omega
  have he : (b : Int) - (n : Int) = ((b - n : Nat) : Int) := by omega
  clear h hm hf hn
  generalize hr : b - n = r at *
  have HRR := Lib.hid hr
  have HE := Lib.hid he
  clear hr he
  go_enter Tryz.func89, Tryz.ntmps89
  go_wp2_with (fail)
  refine (HR.out _).mono ?_
  rintro e w1 ⟨rfl, rfl⟩
  have HB := Lib.hid (Below.refl w.heap.size w)
  have hs1 := Nat.le_refl w.heap.size
  go_wp2_with (fail)
  refine (HSET.out _ (HB.out.alloc hs1 _)).mono ?_
  rintro e w2 ⟨rfl, hl2, ht2⟩
  have HL2 := Lib.hid hl2
  have HT2 := Lib.hid ((Turned.of_below (F := fun j => j = l ∨ j = mb) (HB.out.alloc hs1 _) (Nat.le_refl _)).trans ht2 (fun _ h _ => h))
  clear hl2 ht2
  go_wp2
  go_ret
  exact ⟨rfl, HRR.out ▸ HL2.out, HT2.out⟩

set_option maxRecDepth 100000 in
set_option maxHeartbeats 2000000 in
theorem release2 (l mb cap a b c n : Nat) (w : World) (h : LedgerAt w l mb cap a b c) (hn : n ≤ c) :
    Calls Tryz.prog 89 #[.pointer (some ⟨l, 0, none⟩), .int .i64 2, .int .i64 n] w (LgPost w l mb cap a b (c - n)) := by
  obtain ⟨c0, c1, c2, c3, c4, c5, c6, c7, c8⟩ := h.cells
  have hm := h.most
  have hf := h.fits
  have HR := Lib.hid (fun w => lright_yes 2 n (by decide) w)
  rw [show ((2 : Nat) : Int) = 2 from rfl] at HR
  have hle : ¬ (c : Int) < (n : Int) := by omega
  have HSET := Lib.hid (fun (W : World) (hb : Below w.heap.size w W) => lset_any l mb cap a b c a b (c - n) W (h.below hb) (by omega))
  unfold keyV at HSET
  have hw : IntKind.i64.wrap ((c : Int) - (n : Int)) = ((c - n : Nat) : Int) := by rw [IntKind.wrap_i64]; omega
  have he : (c : Int) - (n : Int) = ((c - n : Nat) : Int) := by omega
  clear h hm hf hn
  generalize hr : c - n = r at *
  have HRR := Lib.hid hr
  have HE := Lib.hid he
  clear hr he
  go_enter Tryz.func89, Tryz.ntmps89
  go_wp2_with (fail)
  refine (HR.out _).mono ?_
  rintro e w1 ⟨rfl, rfl⟩
  have HB := Lib.hid (Below.refl w.heap.size w)
  have hs1 := Nat.le_refl w.heap.size
  go_wp2_with (fail)
  refine (HSET.out _ (HB.out.alloc hs1 _)).mono ?_
  rintro e w2 ⟨rfl, hl2, ht2⟩
  have HL2 := Lib.hid hl2
  have HT2 := Lib.hid ((Turned.of_below (F := fun j => j = l ∨ j = mb) (HB.out.alloc hs1 _) (Nat.le_refl _)).trans ht2 (fun _ h _ => h))
  clear hl2 ht2
  go_wp2
  go_ret
  exact ⟨rfl, HRR.out ▸ HL2.out, HT2.out⟩

end Go.Proofs.YtlljejmblmjjnaaGreatDoor

/- ledger: Shift, New. -/
namespace Go.Proofs.YtlljejmblmjjnaaGreatDoor
set_option linter.unusedVariables false
set_option linter.unusedSimpArgs false
open Go.RowKit Go.ChangeMaps Go.WideMaps

set_option maxRecDepth 100000 in
set_option maxHeartbeats 2000000 in
theorem shift00 (l mb cap a b c n : Nat) (w : World) (h : LedgerAt w l mb cap a b c) (hn : n ≤ a) :
    Calls Tryz.prog 110 #[.pointer (some ⟨l, 0, none⟩), .int .i64 0, .int .i64 0, .int .i64 n] w (LgPost w l mb cap a b c) := by
  obtain ⟨c0, c1, c2, c3, c4, c5, c6, c7, c8⟩ := h.cells
  have hm := h.most
  have hf := h.fits
  have HR := Lib.hid (fun w => lright_yes 0 n (by decide) w)
  rw [show ((0 : Nat) : Int) = 0 from rfl] at HR
  have HR2 := Lib.hid (fun w => lright_yes 0 n (by decide) w)
  rw [show ((0 : Nat) : Int) = 0 from rfl] at HR2
  have hle : ¬ (a : Int) < (n : Int) := by omega
  have HSET := Lib.hid (fun (W : World) (hb : Below w.heap.size w W) => lset_any l mb cap a b c a b c W (h.below hb) (by omega))
  unfold keyV at HSET
  obtain ⟨r, hr⟩ : ∃ r, r = a - n := ⟨_, rfl⟩
  have hw : IntKind.i64.wrap ((a : Int) - (n : Int)) = (r : Int) := by rw [IntKind.wrap_i64]; omega
  have he2 : (r : Int) + (n : Int) = (a : Int) := by omega
  have hrb : r ≤ 2 ^ 40 := by omega
  have hnb : n ≤ 2 ^ 40 := by omega
  have HB := Lib.hid (Below.refl w.heap.size w)
  have hs1 := Nat.le_refl w.heap.size
  clear h hm hf hn hr
  go_enter Tryz.func110, Tryz.ntmps110
  go_wp2_with (fail)
  refine (HR.out _).mono ?_
  rintro e w1 ⟨rfl, rfl⟩
  go_wp2_with (fail)
  refine (HR2.out _).mono ?_
  rintro e w1 ⟨rfl, rfl⟩
  go_wp2_with (fail)
  refine (HSET.out _ (HB.out.alloc hs1 _)).mono ?_
  rintro e w2 ⟨rfl, hl2, ht2⟩
  have HL2 := Lib.hid hl2
  have HT2 := Lib.hid ((Turned.of_below (F := fun j => j = l ∨ j = mb) (HB.out.alloc hs1 _) (Nat.le_refl _)).trans ht2 (fun _ h _ => h))
  clear hl2 ht2
  go_wp2
  go_ret
  exact ⟨rfl, HL2.out, HT2.out⟩

set_option maxRecDepth 100000 in
set_option maxHeartbeats 2000000 in
theorem shift01 (l mb cap a b c n : Nat) (w : World) (h : LedgerAt w l mb cap a b c) (hn : n ≤ a) :
    Calls Tryz.prog 110 #[.pointer (some ⟨l, 0, none⟩), .int .i64 0, .int .i64 1, .int .i64 n] w (LgPost w l mb cap (a - n) (b + n) c) := by
  obtain ⟨c0, c1, c2, c3, c4, c5, c6, c7, c8⟩ := h.cells
  have hm := h.most
  have hf := h.fits
  have HR := Lib.hid (fun w => lright_yes 0 n (by decide) w)
  rw [show ((0 : Nat) : Int) = 0 from rfl] at HR
  have HR2 := Lib.hid (fun w => lright_yes 1 n (by decide) w)
  rw [show ((1 : Nat) : Int) = 1 from rfl] at HR2
  have hle : ¬ (a : Int) < (n : Int) := by omega
  have HSET := Lib.hid (fun (W : World) (hb : Below w.heap.size w W) => lset_any l mb cap a b c (a - n) (b + n) c W (h.below hb) (by omega))
  unfold keyV at HSET
  have hw : IntKind.i64.wrap ((a : Int) - (n : Int)) = ((a - n : Nat) : Int) := by rw [IntKind.wrap_i64]; omega
  have hw2 : IntKind.i64.wrap ((b : Int) + (n : Int)) = ((b + n : Nat) : Int) := by rw [IntKind.wrap_i64]; omega
  generalize hr : a - n = r at *
  generalize hs : b + n = s at *
  have HRR := Lib.hid hr
  have HSS := Lib.hid hs
  have HB := Lib.hid (Below.refl w.heap.size w)
  have hs1 := Nat.le_refl w.heap.size
  clear h hm hf hn hr hs
  go_enter Tryz.func110, Tryz.ntmps110
  go_wp2_with (fail)
  refine (HR.out _).mono ?_
  rintro e w1 ⟨rfl, rfl⟩
  go_wp2_with (fail)
  refine (HR2.out _).mono ?_
  rintro e w1 ⟨rfl, rfl⟩
  go_wp2_with (fail)
  refine (HSET.out _ (HB.out.alloc hs1 _)).mono ?_
  rintro e w2 ⟨rfl, hl2, ht2⟩
  have HL2 := Lib.hid hl2
  have HT2 := Lib.hid ((Turned.of_below (F := fun j => j = l ∨ j = mb) (HB.out.alloc hs1 _) (Nat.le_refl _)).trans ht2 (fun _ h _ => h))
  clear hl2 ht2
  go_wp2
  go_ret
  exact ⟨rfl, HL2.out, HT2.out⟩

set_option maxRecDepth 100000 in
set_option maxHeartbeats 2000000 in
theorem shift10 (l mb cap a b c n : Nat) (w : World) (h : LedgerAt w l mb cap a b c) (hn : n ≤ b) :
    Calls Tryz.prog 110 #[.pointer (some ⟨l, 0, none⟩), .int .i64 1, .int .i64 0, .int .i64 n] w (LgPost w l mb cap (a + n) (b - n) c) := by
  obtain ⟨c0, c1, c2, c3, c4, c5, c6, c7, c8⟩ := h.cells
  have hm := h.most
  have hf := h.fits
  have HR := Lib.hid (fun w => lright_yes 1 n (by decide) w)
  rw [show ((1 : Nat) : Int) = 1 from rfl] at HR
  have HR2 := Lib.hid (fun w => lright_yes 0 n (by decide) w)
  rw [show ((0 : Nat) : Int) = 0 from rfl] at HR2
  have hle : ¬ (b : Int) < (n : Int) := by omega
  have HSET := Lib.hid (fun (W : World) (hb : Below w.heap.size w W) => lset_any l mb cap a b c (a + n) (b - n) c W (h.below hb) (by omega))
  unfold keyV at HSET
  have hw : IntKind.i64.wrap ((b : Int) - (n : Int)) = ((b - n : Nat) : Int) := by rw [IntKind.wrap_i64]; omega
  have hw2 : IntKind.i64.wrap ((a : Int) + (n : Int)) = ((a + n : Nat) : Int) := by rw [IntKind.wrap_i64]; omega
  generalize hr : b - n = r at *
  generalize hs : a + n = s at *
  have HRR := Lib.hid hr
  have HSS := Lib.hid hs
  have HB := Lib.hid (Below.refl w.heap.size w)
  have hs1 := Nat.le_refl w.heap.size
  clear h hm hf hn hr hs
  go_enter Tryz.func110, Tryz.ntmps110
  go_wp2_with (fail)
  refine (HR.out _).mono ?_
  rintro e w1 ⟨rfl, rfl⟩
  go_wp2_with (fail)
  refine (HR2.out _).mono ?_
  rintro e w1 ⟨rfl, rfl⟩
  go_wp2_with (fail)
  refine (HSET.out _ (HB.out.alloc hs1 _)).mono ?_
  rintro e w2 ⟨rfl, hl2, ht2⟩
  have HL2 := Lib.hid hl2
  have HT2 := Lib.hid ((Turned.of_below (F := fun j => j = l ∨ j = mb) (HB.out.alloc hs1 _) (Nat.le_refl _)).trans ht2 (fun _ h _ => h))
  clear hl2 ht2
  go_wp2
  go_ret
  exact ⟨rfl, HL2.out, HT2.out⟩

set_option maxRecDepth 100000 in
set_option maxHeartbeats 2000000 in
theorem shift11 (l mb cap a b c n : Nat) (w : World) (h : LedgerAt w l mb cap a b c) (hn : n ≤ b) :
    Calls Tryz.prog 110 #[.pointer (some ⟨l, 0, none⟩), .int .i64 1, .int .i64 1, .int .i64 n] w (LgPost w l mb cap a b c) := by
  obtain ⟨c0, c1, c2, c3, c4, c5, c6, c7, c8⟩ := h.cells
  have hm := h.most
  have hf := h.fits
  have HR := Lib.hid (fun w => lright_yes 1 n (by decide) w)
  rw [show ((1 : Nat) : Int) = 1 from rfl] at HR
  have HR2 := Lib.hid (fun w => lright_yes 1 n (by decide) w)
  rw [show ((1 : Nat) : Int) = 1 from rfl] at HR2
  have hle : ¬ (b : Int) < (n : Int) := by omega
  have HSET := Lib.hid (fun (W : World) (hb : Below w.heap.size w W) => lset_any l mb cap a b c a b c W (h.below hb) (by omega))
  unfold keyV at HSET
  obtain ⟨r, hr⟩ : ∃ r, r = b - n := ⟨_, rfl⟩
  have hw : IntKind.i64.wrap ((b : Int) - (n : Int)) = (r : Int) := by rw [IntKind.wrap_i64]; omega
  have he2 : (r : Int) + (n : Int) = (b : Int) := by omega
  have hrb : r ≤ 2 ^ 40 := by omega
  have hnb : n ≤ 2 ^ 40 := by omega
  have HB := Lib.hid (Below.refl w.heap.size w)
  have hs1 := Nat.le_refl w.heap.size
  clear h hm hf hn hr
  go_enter Tryz.func110, Tryz.ntmps110
  go_wp2_with (fail)
  refine (HR.out _).mono ?_
  rintro e w1 ⟨rfl, rfl⟩
  go_wp2_with (fail)
  refine (HR2.out _).mono ?_
  rintro e w1 ⟨rfl, rfl⟩
  go_wp2_with (fail)
  refine (HSET.out _ (HB.out.alloc hs1 _)).mono ?_
  rintro e w2 ⟨rfl, hl2, ht2⟩
  have HL2 := Lib.hid hl2
  have HT2 := Lib.hid ((Turned.of_below (F := fun j => j = l ∨ j = mb) (HB.out.alloc hs1 _) (Nat.le_refl _)).trans ht2 (fun _ h _ => h))
  clear hl2 ht2
  go_wp2
  go_ret
  exact ⟨rfl, HL2.out, HT2.out⟩

theorem seen_first (w : World) : (Instr.mapUpdate 159 (.map (some w.heap.size)) (.agg #[.int .i64 0, .int .i64 0, .int .i64 0, .int .i64 0, .int .i64 0, .int .i64 0, .int .i64 0, .int .i64 0]) (.int .i64 1)).run Tryz.prog (w.alloc (.map #[] 0)) =
    .ok () (setBlock (w.alloc (.map #[] 0)) w.heap.size (.map #[{ key := keyV 0 0 0, val := .int .i64 1, born := 0 }] 1)) := by
  obtain ⟨l, hk⟩ := key_any 0 0 0 (by decide) (by decide) (by decide)
  have hk' : keyOf Tryz.prog 158 (.agg #[.int .i64 0, .int .i64 0, .int .i64 0, .int .i64 0, .int .i64 0, .int .i64 0, .int .i64 0, .int .i64 0]) = some l := hk
  have h : (w.alloc (.map #[] 0)).heap[w.heap.size]? = some (.map #[] 0) := heap_alloc_new _ _
  rcases lgKeyed.find (w.alloc (.map #[] 0)) hk' [] (fun e he => by cases he) with ⟨h1, -⟩ | ⟨j, e, -, h2, -⟩
  · simp only [Instr.mapUpdate, Sem.run_bind, run_underlying und_seen, Result.andThen, MapKept.run_getObj_map h, lgKeyed.check _ _ hk']
    simp [h1, MapKept.run_setObj_map _ h, setBlock, keyV]
  · simp at h2

def LgNewPost (w : World) (cap : Nat) (e : Ending) (w' : World) : Prop :=
  ∃ l mb, e = .returned (.tuple #[.pointer (some ⟨l, 0, none⟩), .int .i64 0]) ∧ LedgerAt w' l mb cap 0 0 0 ∧ Below w.heap.size w w' ∧ w.heap.size ≤ l ∧ w.heap.size ≤ mb

set_option maxRecDepth 100000 in
set_option maxHeartbeats 2000000 in
theorem lgNew_yes (cap : Nat) (hc : cap ≤ 2 ^ 40) (w : World) : Calls Tryz.prog 75 #[.int .i64 cap] w (LgNewPost w cap) := by
  have h1 : ¬ (cap : Int) < 0 := by omega
  have h2 : ¬ (1099511627776 : Int) < cap := by omega
  go_enter Tryz.func75, Tryz.ntmps75
  have hmm := @run_makeMap Tryz.prog
  have hup := seen_first w
  go_wp2
  go_ret2
  have hsz : (setBlock (w.alloc (.map #[] 0)) w.heap.size (.map #[{ key := keyV 0 0 0, val := .int .i64 1, born := 0 }] 1)).heap.size = w.heap.size + 1 := by rw [size_setBlock]; simp
  refine ⟨_, w.heap.size, rfl, ⟨⟨0, ?_⟩, ⟨#[{ key := keyV 0 0 0, val := .int .i64 1, born := 0 }], 1, ?_, ?_⟩, hc, by omega⟩, ?_, by omega, Nat.le_refl _⟩
  · exact heap_alloc_new _ _
  · rw [heap_alloc_old _ _ (by omega)]
    exact heap_setBlock_eq (by simp) _
  · intro e he
    simp at he
    subst he
    exact ⟨key_any 0 0 0 (by decide) (by decide) (by decide), 1, rfl⟩
  · refine Below.alloc (Turned.below (F := fun j => j = w.heap.size) ((Turned.alloc (Turned.refl (fun j => j = w.heap.size) w) _).setBlock (.inl rfl) _) (fun x hx => by omega) (Nat.le_refl _)) (by omega) _

end Go.Proofs.YtlljejmblmjjnaaGreatDoor
