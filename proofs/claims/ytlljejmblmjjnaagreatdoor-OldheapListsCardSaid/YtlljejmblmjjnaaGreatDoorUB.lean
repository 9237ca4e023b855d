/- The law's Do: another hand closes a large span. -/
import Derived.Test.YtlljejmblmjjnaaGreatDoorUA
import Derived.WalkKit
import Derived.WalkSpells
import Derived.WalkLawsBesides
import Derived.BigQuiet
import Derived.Lib.Hide
import Derived.Test.YtlljejmblmjjnaaGreatDoorTf
namespace Go.Proofs.YtlljejmblmjjnaaGreatDoor
set_option linter.unusedVariables false
set_option linter.unusedSimpArgs false
open Go.RowKit Go.ChangeMaps

theorem and4095 (z : Int) : ∃ k : Nat, k < 4096 ∧ bits .and .i64 z 4095 = (k : Int) := by
  have hle : (BitVec.ofInt 64 z).toNat &&& 4095 ≤ 4095 := Nat.and_le_right
  refine ⟨(BitVec.ofInt 64 z).toNat &&& 4095, by omega, ?_⟩
  show IntKind.i64.wrap (((BitVec.ofInt 64 z &&& BitVec.ofInt 64 4095).toNat : Nat) : Int) = _
  rw [BitVec.toNat_and, show (BitVec.ofInt 64 4095).toNat = 4095 from by decide, IntKind.wrap_i64]
  omega
theorem tail_two {α β : Type} {P G : α → β → Prop} {Goal : Prop} (h1 : (∀ a b, P a b → G a b) → Goal) (h2 : ∀ a b, P a b → G a b) : Goal := h1 h2

theorem closeL_any {w : World} {H : OHL} {pages : Nat} {s : OP} (h : OHeapM w H pages s) (hI : OInv pages s) {k st : Nat} {e4 : Ent4} (he : H.E.getD k none = some (e4, st)) (hv : e4.version = 2) :
    Calls Tryz.prog 41 #[.pointer (some ⟨H.gr, 0, none⟩), .int .i64 k] w fun e w' => (∃ a b, e = .returned (.tuple #[.int .i64 a, .int .i64 b])) ∧ GroundAny w H pages s w' := by
  obtain ⟨g, hg, h1, h2⟩ := h.ent.ver k e4 st he (by omega)
  obtain ⟨hgl, hge⟩ := h.ent.lg g hg
  have hidx := idxR_ofO h.base.tile hgl
  have hbd := h.base.tile.bounds _ hgl
  have hp : g.1 + g.2 ≤ pages := hbd.2.2
  by_cases hk : g.1 = k
  · subst hk
    obtain ⟨st0, e0⟩ := hge g.1 h1 h2
    have hpm : H.G.Perm (g :: H.G.erase g) := List.perm_cons_erase hg
    have hsum : g.2 ≤ H.c := by
      have := (hpm.map (·.2)).sum_nat
      rw [List.map_cons, List.sum_cons, h.ent.sum] at this
      omega
    refine (gClose_yes H.gr H.cl pages H.b 0 H.c (idxR g.1 s.l) st0 H.p s.l H.E ⟨g.1, g.2, true⟩ ⟨g.1, 2, 0, 0⟩ w h.ground hidx rfl e0 (show (2 : Nat) < 3 by decide) (fun j hj => ?_) hsum).mono ?_
    · obtain ⟨st1, e1⟩ := hge (g.1 + j) (by omega) (by have : j < g.2 := hj; omega)
      show (H.E.getD (g.1 + j) none).isSome = true
      rw [e1]
      rfl
    · rintro e w' ⟨rfl, p', hgr, hpf, t⟩
      obtain ⟨H', q1, q2, q3⟩ := h.unlarge hg hidx t hgr hpf
      refine ⟨⟨_, _, rfl⟩, H', _, q1, q2, hI.relay q2.base.tile (fun x hx => ?_), q3, mapF_sub t⟩
      exact q2.base.tk x (List.mem_append_left _ hx)
  · have hl : lenR pages s.l (k : Int) = 0 := by
      unfold lenR findR
      have h2' : k < pages := by omega
      rw [if_pos (by omega), Int.toNat_natCast, idxR_at h.base.tile hidx h1 h2, hidx]
      have : ¬ (g.1 : Int) = (k : Int) := by omega
      simp [this]
    refine (gClose_no H.gr H.cl pages H.b 0 H.c k H.p s.l H.E w h.ground hl).mono ?_
    rintro e w' ⟨⟨z, rfl⟩, hb⟩
    exact ⟨⟨_, _, rfl⟩, .stay h hI hb⟩

/-- What At tells of any page. -/
theorem atL_any {w : World} {H : OHL} {pages : Nat} {s : OP} (h : OHeapM w H pages s) (k : Nat) : ∃ (a1 a2 a3 a4 : Nat) (ok : Bool), (ok = true → a2 = 2 → ∃ e4 st, H.E.getD k none = some (e4, st) ∧ e4.version = 2) ∧
    ∀ W, Below w.heap.size w W → Calls Tryz.prog 17 #[.pointer (some ⟨H.gr, 0, none⟩), .int .i64 (256 * (k : Int))] W fun e w' => e = .returned (.tuple #[.agg #[.int .i64 a1, .int .i64 a2, .int .i64 a3, .int .i64 a4], .bool ok]) ∧ Below W.heap.size W w' := by
  have hx : (256 * k) / 256 = k := by omega
  have hc : ((256 * k : Nat) : Int) = 256 * (k : Int) := by omega
  cases he : entAt pages H.E (k : Int) with
  | none =>
    refine ⟨0, 0, 0, 0, false, ⟨fun e => (by cases e), fun W hW => ?_⟩⟩
    have := gAt_none H.gr H.cl pages H.b 0 H.c (256 * k) H.p s.l H.E W (h.below hW).ground (by rw [hx]; exact he)
    rw [hc] at this
    exact this
  | some q =>
    obtain ⟨e4, st⟩ := q
    refine ⟨e4.span, e4.version, e4.cls, e4.state, true, ⟨fun _ hv => ⟨e4, st, ?_, hv⟩, fun W hW => ?_⟩⟩
    · rw [entAt_natO] at he
      split at he
      · exact he
      · cases he
    · have := gAt_some H.gr H.cl pages H.b 0 H.c (256 * k) st e4 H.p s.l H.E W (h.below hW).ground (by rw [hx]; exact he)
      rw [hc] at this
      exact this

set_option maxRecDepth 8000 in
set_option maxHeartbeats 4000000 in
theorem do8_any {w : World} {x base : Nat} {lv : Value} {H : OHL} {pages : Nat} {s : OP} (h : WorldO w x base lv H pages s) (hI : OInv pages s) (cls at_ n pg : Int) :
    Calls Tryz.prog 11 #[.pointer (some ⟨x, 0, none⟩), .agg #[.int .i64 8, .int .i64 cls, .int .i64 at_, .int .i64 n, .int .i64 pg]] w fun e w' => (∃ v, e = .returned v) ∧ ∃ H' s', WorldO w' x base lv H' pages s' ∧ OInv pages s' ∧ H.Of H' w.heap.size ∧ Turned H.F w w' := by
  obtain ⟨cx, -, -⟩ := h.cells
  obtain ⟨k, hk, hband⟩ := and4095 pg
  have hkw : IntKind.i64.wrap (256 * (k : Int)) = 256 * (k : Int) := wraps_i64 _ (by omega) (by omega)
  obtain ⟨wq, hW1⟩ : ∃ wq, wq = w.alloc (.cells #[.int .i64 8, .int .i64 cls, .int .i64 at_, .int .i64 n, .int .i64 pg] 31) := ⟨_, rfl⟩
  have hb1 : Below w.heap.size w wq := by rw [hW1]; exact (Below.refl _ _).alloc (Nat.le_refl _) _
  have hbox : wq.heap[w.heap.size]? = some (.cells #[.int .i64 8, .int .i64 cls, .int .i64 at_, .int .i64 n, .int .i64 pg] 31 (0, 0)) := by rw [hW1]; exact heap_alloc_new _ _
  have e0 : wq.cell? ⟨x, 0, none⟩ = some (.pointer (some ⟨H.gr, 0, none⟩)) := cell_past hb1 (cell_lt cx) cx
  have y0 := cell_of_block hbox 4
  simp only [List.getElem?_toArray, List.getElem?_cons_zero, List.getElem?_cons_succ] at y0
  have HB1 := Lib.hid hb1
  have HBX := Lib.hid hbox
  have h1 := h.below hb1
  obtain ⟨a1, a2, a3, a4, ok, hok, hat⟩ := atL_any h1.heap k
  have HAT := Lib.hid hat
  have HOK := Lib.hid hok
  have H1 := Lib.hid h1
  have HII := Lib.hid hI
  have hxl := cell_lt e0
  have hgl := cell_lt y0
  clear h h1 hb1 hI cx hbox hat hok
  go_enter Tryz.func11, Tryz.ntmps11
  go_upto_region 29 with (fail)
  rw [← hW1]
  clear hW1
  generalize hbb : w.heap.size = bx at *
  have HBB := Lib.hid hbb
  clear hbb
  apply tail_two (P := fun (b : Nat) (W5 : World) => W5.cell? ⟨b, 1, none⟩ = some (.int .i64 a2) ∧ Below wq.heap.size wq W5)
  case h1 =>
    intro hT
    have HTAIL := Lib.hid hT
    clear hT
    refine wp_region_held_drew (S := fun W : World => W.cell? ⟨x, 0, none⟩ = some (.pointer (some ⟨H.gr, 0, none⟩)) ∧ W.cell? ⟨bx, 4, none⟩ = some (.int .i64 pg)) (by kernel_rfl) ?_ (fun hHeld0 => ?_)
    · exact ⟨e0, y0⟩
    (refine wpAnyH_take (i := 0) (v := ?_) rfl (by kernel_rfl) (by kernel_rfl) (by kernel_rfl) (fun _ _ _ h => h) (Or.inl ⟨by rfl, ?_⟩) (by assumption) ?_; rotate_left; focus (intro w hSw; (try dsimp only at hSw); go_simp; first | done | with_reducible rfl); (try simp only [Act.put, List.setIfInBounds_toArray, List.set_cons_zero, List.set_cons_succ, List.getElem_toArray, List.getElem_cons_zero, List.getElem_cons_succ]))
    (refine wpAnyH_take (i := 1) (v := ?_) rfl (by kernel_rfl) (by kernel_rfl) (by kernel_rfl) (fun _ _ _ h => h) (Or.inl ⟨by rfl, ?_⟩) (by assumption) ?_; rotate_left; focus (intro w hSw; (try dsimp only at hSw); go_simp; first | done | with_reducible rfl); (try simp only [Act.put, List.setIfInBounds_toArray, List.set_cons_zero, List.set_cons_succ, List.getElem_toArray, List.getElem_cons_zero, List.getElem_cons_succ]))
    (refine wpAnyH_take (i := 2) (v := ?_) rfl (by kernel_rfl) (by kernel_rfl) (by kernel_rfl) (fun _ _ _ h => h) (Or.inl ⟨by rfl, ?_⟩) (by assumption) ?_; rotate_left; focus (intro w hSw; (try dsimp only at hSw); go_simp; first | done | with_reducible rfl); (try simp only [Act.put, List.setIfInBounds_toArray, List.set_cons_zero, List.set_cons_succ, List.getElem_toArray, List.getElem_cons_zero, List.getElem_cons_succ]))
    (refine wpAnyH_take (i := 3) (v := ?_) rfl (by kernel_rfl) (by kernel_rfl) (by kernel_rfl) (fun _ _ _ h => h) (Or.inl ⟨by rfl, ?_⟩) (by assumption) ?_; rotate_left; focus (intro w hSw; (try dsimp only at hSw); go_simp; first | done | with_reducible rfl); (try simp only [Act.put, List.setIfInBounds_toArray, List.set_cons_zero, List.set_cons_succ, List.getElem_toArray, List.getElem_cons_zero, List.getElem_cons_succ]))
    (refine wpAnyH_take (i := 4) (v := ?_) rfl (by kernel_rfl) (by kernel_rfl) (by kernel_rfl) (fun _ _ _ h => h) (Or.inl ⟨by rfl, ?_⟩) (by assumption) ?_; rotate_left; focus (intro w hSw; (try dsimp only at hSw); go_simp; first | done | with_reducible rfl); (try simp only [Act.put, List.setIfInBounds_toArray, List.set_cons_zero, List.set_cons_succ, List.getElem_toArray, List.getElem_cons_zero, List.getElem_cons_succ]))
    (refine wpAnyH_take (i := 5) (v := ?_) rfl (by kernel_rfl) (by kernel_rfl) (by kernel_rfl) (fun _ _ _ h => h) (Or.inl ⟨by rfl, ?_⟩) (by assumption) ?_; rotate_left; focus (intro w hSw; (try dsimp only at hSw); go_simp; first | done | with_reducible rfl); (try simp only [Act.put, List.setIfInBounds_toArray, List.set_cons_zero, List.set_cons_succ, List.getElem_toArray, List.getElem_cons_zero, List.getElem_cons_succ]))
    (refine wpAnyH_take (i := 6) (v := ?_) rfl (by kernel_rfl) (by kernel_rfl) (by kernel_rfl) (fun _ _ _ h => h) (Or.inl ⟨by rfl, ?_⟩) (by assumption) ?_; rotate_left; focus (intro w hSw; (try dsimp only at hSw); go_simp; first | done | with_reducible rfl); (try simp only [Act.put, List.setIfInBounds_toArray, List.set_cons_zero, List.set_cons_succ, List.getElem_toArray, List.getElem_cons_zero, List.getElem_cons_succ]))
    (refine wpAnyH_take (i := 7) (v := ?_) rfl (by kernel_rfl) (by kernel_rfl) (by kernel_rfl) (fun _ _ _ h => h) (Or.inl ⟨by rfl, ?_⟩) (by assumption) ?_; rotate_left; focus (intro w hSw; (try dsimp only at hSw); go_simp; first | done | with_reducible rfl); (try simp only [Act.put, List.setIfInBounds_toArray, List.set_cons_zero, List.set_cons_succ, List.getElem_toArray, List.getElem_cons_zero, List.getElem_cons_succ]))
    refine wpAnyH_ready (rs := [8, 12]) (by kernel_rfl) (by simp) ?_
    refine AllReadyH.cons rfl (fun K hK => ?_) (AllReadyH.cons rfl (fun K hK => ?_) AllReadyH.nil)
    · go_simp
      refine (HAT.out wq.drew (Below.drew (Below.refl _ _))).mono ?_
      rintro e w4 ⟨rfl, hb4⟩
      have k0 := cell_past hb4 hxl e0
      have k1 := cell_past hb4 hgl y0
      have HB4 := Lib.hid (Below.via hb4 (Nat.le_refl _) (Below.drew (Below.refl _ _)))
      refine hK.out _ _ ⟨k0, k1⟩ (fun hHeld => ?_)
      clear hK K hHeld0 hb4
      (try simp only [Act.put, List.setIfInBounds_toArray, List.set_cons_zero, List.set_cons_succ, List.getElem_toArray, List.getElem_cons_zero, List.getElem_cons_succ])
      (refine wpAnyH_take (i := 9) (v := ?_) rfl (by kernel_rfl) (by kernel_rfl) (by kernel_rfl) (fun _ _ _ h => h) (Or.inl ⟨by rfl, ?_⟩) (by assumption) ?_; rotate_left; focus (intro w hSw; (try dsimp only at hSw); go_simp; first | done | with_reducible rfl); (try simp only [Act.put, List.setIfInBounds_toArray, List.set_cons_zero, List.set_cons_succ, List.getElem_toArray, List.getElem_cons_zero, List.getElem_cons_succ]))
      (refine wpAnyH_take (i := 10) (v := ?_) rfl (by kernel_rfl) (by kernel_rfl) (by kernel_rfl) (fun _ _ _ h => h) (Or.inl ⟨by rfl, ?_⟩) (by assumption) ?_; rotate_left; focus (intro w hSw; (try dsimp only at hSw); go_simp; first | done | with_reducible rfl); (try simp only [Act.put, List.setIfInBounds_toArray, List.set_cons_zero, List.set_cons_succ, List.getElem_toArray, List.getElem_cons_zero, List.getElem_cons_succ]))
      (refine wpAnyH_take (i := 11) (v := ?_) rfl (by kernel_rfl) (by kernel_rfl) (by kernel_rfl) (fun _ _ _ h => h) (Or.inl ⟨by rfl, ?_⟩) (by assumption) ?_; rotate_left; focus (intro w hSw; (try dsimp only at hSw); go_simp; first | done | with_reducible rfl); (try simp only [Act.put, List.setIfInBounds_toArray, List.set_cons_zero, List.set_cons_succ, List.getElem_toArray, List.getElem_cons_zero, List.getElem_cons_succ]))
      refine wpAnyH_ready (rs := [12]) (by kernel_rfl) (by simp) ?_
      refine AllReadyH.cons rfl (fun K hK => ?_) AllReadyH.nil
      go_simp
      refine hK.out _ _ ⟨Lib.cell?_alloc_some _ k0, Lib.cell?_alloc_some _ k1⟩ (fun hHeld => ?_)
      clear hK K
      (try simp only [Act.put, List.setIfInBounds_toArray, List.set_cons_zero, List.set_cons_succ, List.getElem_toArray, List.getElem_cons_zero, List.getElem_cons_succ])
      refine wpAnyH_ready (rs := [13]) (by kernel_rfl) (by simp) ?_
      refine AllReadyH.cons rfl (fun K hK => ?_) AllReadyH.nil
      go_simp
      refine hK.out _ _ ⟨Lib.cell?_alloc_some _ k0, Lib.cell?_alloc_some _ k1⟩ (fun hHeld => ?_)
      clear hK K
      (try simp only [Act.put, List.setIfInBounds_toArray, List.set_cons_zero, List.set_cons_succ, List.getElem_toArray, List.getElem_cons_zero, List.getElem_cons_succ])
      (refine wpAnyH_take (i := 14) (v := ?_) rfl (by kernel_rfl) (by kernel_rfl) (by kernel_rfl) (fun _ _ _ h => h) (Or.inl ⟨by rfl, ?_⟩) (by assumption) ?_; rotate_left; focus (intro w hSw; (try dsimp only at hSw); go_simp; first | done | with_reducible rfl); (try simp only [Act.put, List.setIfInBounds_toArray, List.set_cons_zero, List.set_cons_succ, List.getElem_toArray, List.getElem_cons_zero, List.getElem_cons_succ]))
      refine wpAnyH_done (by kernel_rfl) ?_ _
      (try simp only [Act.put, List.setIfInBounds_toArray, List.set_cons_zero, List.set_cons_succ, List.getElem_toArray, List.getElem_cons_zero, List.getElem_cons_succ])
      obtain ⟨W5, hW5⟩ : ∃ W5, W5 = w4.alloc (.cells #[.int .i64 a1, .int .i64 a2, .int .i64 a3, .int .i64 a4] 48) := ⟨_, rfl⟩
      have HP : Hid (W5.cell? ⟨w4.heap.size, 1, none⟩ = some (.int .i64 a2) ∧ Below wq.heap.size wq W5) := by
        rw [hW5]
        refine ⟨?_, Below.alloc HB4.out HB4.out.size _⟩
        all_goals simp [go_sem]
      rw [← hW5]
      clear hW5 hHeld k0 k1 HB4
      generalize w4.heap.size = b at *
      exact HTAIL.out b W5 HP.out
    · go_simp
      have k0 : (wq.drew.alloc (.cells #[.int .i64 0, .int .i64 0, .int .i64 0, .int .i64 0] 48)).cell? ⟨x, 0, none⟩ = some (.pointer (some ⟨H.gr, 0, none⟩)) := Lib.cell?_alloc_some _ e0
      have k1 : (wq.drew.alloc (.cells #[.int .i64 0, .int .i64 0, .int .i64 0, .int .i64 0] 48)).cell? ⟨bx, 4, none⟩ = some (.int .i64 pg) := Lib.cell?_alloc_some _ y0
      refine hK.out _ _ ⟨k0, k1⟩ (fun hHeld => ?_)
      clear hK K hHeld0
      (try simp only [Act.put, List.setIfInBounds_toArray, List.set_cons_zero, List.set_cons_succ, List.getElem_toArray, List.getElem_cons_zero, List.getElem_cons_succ])
      have HBA : Hid (Below wq.heap.size wq (wq.drew.alloc (.cells #[.int .i64 0, .int .i64 0, .int .i64 0, .int .i64 0] 48))) := Below.alloc (Below.drew (Below.refl _ _)) (Nat.le_refl _) _
      have hbk : (wq.drew.alloc (.cells #[.int .i64 0, .int .i64 0, .int .i64 0, .int .i64 0] 48)).heap[wq.heap.size]? = some (.cells #[.int .i64 0, .int .i64 0, .int .i64 0, .int .i64 0] 48 (0, 0)) := heap_alloc_new wq.drew _
      refine wpAnyH_ready (rs := [8]) (by kernel_rfl) (by simp) ?_
      refine AllReadyH.cons rfl (fun K hK => ?_) AllReadyH.nil
      go_simp
      refine (HAT.out _ HBA.out).mono ?_
      rintro e w4 ⟨rfl, hb4⟩
      have k0 := cell_past hb4 (cell_lt k0) k0
      have k1 := cell_past hb4 (cell_lt k1) k1
      have HB4 := Lib.hid (Below.via hb4 HBA.out.size HBA.out)
      have hb4k := (hb4.block _ (lt_of_block hbk)).trans hbk
      have q0 := cell_of_block hb4k 0
      have q1 := cell_of_block hb4k 1
      have q2 := cell_of_block hb4k 2
      have q3 := cell_of_block hb4k 3
      have r0 := frozen_of_block hb4k 0
      have r1 := frozen_of_block hb4k 1
      have r2 := frozen_of_block hb4k 2
      have r3 := frozen_of_block hb4k 3
      simp only [List.getElem?_toArray, List.getElem?_cons_zero, List.getElem?_cons_succ] at q0 q1 q2 q3
      clear hbk
      refine hK.out _ _ ⟨k0, k1⟩ (fun hHeld => ?_)
      clear hK K hb4
      (try simp only [Act.put, List.setIfInBounds_toArray, List.set_cons_zero, List.set_cons_succ, List.getElem_toArray, List.getElem_cons_zero, List.getElem_cons_succ])
      (refine wpAnyH_take (i := 9) (v := ?_) rfl (by kernel_rfl) (by kernel_rfl) (by kernel_rfl) (fun _ _ _ h => h) (Or.inl ⟨by rfl, ?_⟩) (by assumption) ?_; rotate_left; focus (intro w hSw; (try dsimp only at hSw); go_simp; first | done | with_reducible rfl); (try simp only [Act.put, List.setIfInBounds_toArray, List.set_cons_zero, List.set_cons_succ, List.getElem_toArray, List.getElem_cons_zero, List.getElem_cons_succ]))
      (refine wpAnyH_take (i := 10) (v := ?_) rfl (by kernel_rfl) (by kernel_rfl) (by kernel_rfl) (fun _ _ _ h => h) (Or.inl ⟨by rfl, ?_⟩) (by assumption) ?_; rotate_left; focus (intro w hSw; (try dsimp only at hSw); go_simp; first | done | with_reducible rfl); (try simp only [Act.put, List.setIfInBounds_toArray, List.set_cons_zero, List.set_cons_succ, List.getElem_toArray, List.getElem_cons_zero, List.getElem_cons_succ]))
      (refine wpAnyH_take (i := 11) (v := ?_) rfl (by kernel_rfl) (by kernel_rfl) (by kernel_rfl) (fun _ _ _ h => h) (Or.inl ⟨by rfl, ?_⟩) (by assumption) ?_; rotate_left; focus (intro w hSw; (try dsimp only at hSw); go_simp; first | done | with_reducible rfl); (try simp only [Act.put, List.setIfInBounds_toArray, List.set_cons_zero, List.set_cons_succ, List.getElem_toArray, List.getElem_cons_zero, List.getElem_cons_succ]))
      refine wpAnyH_ready (rs := [13]) (by kernel_rfl) (by simp) ?_
      refine AllReadyH.cons rfl (fun K hK => ?_) AllReadyH.nil
      go_simp
      obtain ⟨W5, hW5⟩ : ∃ W5, W5 = (((w4.setCell ⟨wq.heap.size, 0, none⟩ (.int .i64 a1)).setCell ⟨wq.heap.size, 1, none⟩ (.int .i64 a2)).setCell ⟨wq.heap.size, 2, none⟩ (.int .i64 a3)).setCell ⟨wq.heap.size, 3, none⟩ (.int .i64 a4) := ⟨_, rfl⟩
      have hbx : W5.heap[wq.heap.size]? = some (.cells #[.int .i64 a1, .int .i64 a2, .int .i64 a3, .int .i64 a4] 48 (0, 0)) := by
        rw [hW5, heap_setCell_eq (heap_setCell_eq (heap_setCell_eq (heap_setCell_eq hb4k _) _) _) _]
        rfl
      have hnx : wq.heap.size ≠ x := by omega
      have hng : wq.heap.size ≠ bx := by omega
      have HP : Hid (W5.cell? ⟨wq.heap.size, 1, none⟩ = some (.int .i64 a2) ∧ Below wq.heap.size wq W5) := by
        refine ⟨cell_of_block hbx 1, ?_⟩
        rw [hW5]
        exact Below.setCell (Below.setCell (Below.setCell (Below.setCell HB4.out (Nat.le_refl _) _) (Nat.le_refl _) _) (Nat.le_refl _) _) (Nat.le_refl _) _
      have k0' : W5.cell? ⟨x, 0, none⟩ = some (.pointer (some ⟨H.gr, 0, none⟩)) := by rw [hW5]; exact (World.cell?_setCell_far _ _ _ _ hnx).trans ((World.cell?_setCell_far _ _ _ _ hnx).trans ((World.cell?_setCell_far _ _ _ _ hnx).trans ((World.cell?_setCell_far _ _ _ _ hnx).trans k0)))
      have k1' : W5.cell? ⟨bx, 4, none⟩ = some (.int .i64 pg) := by rw [hW5]; exact (World.cell?_setCell_far _ _ _ _ hng).trans ((World.cell?_setCell_far _ _ _ _ hng).trans ((World.cell?_setCell_far _ _ _ _ hng).trans ((World.cell?_setCell_far _ _ _ _ hng).trans k1)))
      rw [← hW5]
      refine hK.out _ W5 ⟨k0', k1'⟩ (fun hHeld => ?_)
      clear hK K
      (try simp only [Act.put, List.setIfInBounds_toArray, List.set_cons_zero, List.set_cons_succ, List.getElem_toArray, List.getElem_cons_zero, List.getElem_cons_succ])
      (refine wpAnyH_take (i := 14) (v := ?_) rfl (by kernel_rfl) (by kernel_rfl) (by kernel_rfl) (fun _ _ _ h => h) (Or.inl ⟨by rfl, ?_⟩) (by assumption) ?_; rotate_left; focus (intro w hSw; (try dsimp only at hSw); go_simp; first | done | with_reducible rfl); (try simp only [Act.put, List.setIfInBounds_toArray, List.set_cons_zero, List.set_cons_succ, List.getElem_toArray, List.getElem_cons_zero, List.getElem_cons_succ]))
      refine wpAnyH_done (by kernel_rfl) ?_ _
      (try simp only [Act.put, List.setIfInBounds_toArray, List.set_cons_zero, List.set_cons_succ, List.getElem_toArray, List.getElem_cons_zero, List.getElem_cons_succ])
      clear hW5 hHeld k0 k1 k0' k1' HB4 hbx hnx hng q0 q1 q2 q3 r0 r1 r2 r3 hb4k
      exact HTAIL.out _ W5 HP.out
  case h2 =>
    rintro b w5 ⟨B1, hb5⟩
    have HB5 := Lib.hid hb5
    have z0 := cell_past hb5 hxl e0
    have z1 := cell_past hb5 hgl y0
    have hb5w : Below w.heap.size w w5 := by rw [HBB.out]; exact Below.via hb5 (by rw [← HBB.out]; exact HB1.out.size) HB1.out
    have HB5W := Lib.hid hb5w
    have hs5 := hb5.size
    clear hb5 hb5w e0 y0 hxl
    cases ok with
    | false =>
      go_wp2
      go_ret2
      exact ⟨⟨_, rfl⟩, H, s, H1.out.below HB5.out, HII.out, OHL.Of.refl _ _, Turned.of_below HB5W.out (Nat.le_refl _)⟩
    | true =>
      by_cases h2 : a2 = 2
      · obtain ⟨e4, st, he, hv⟩ := HOK.out rfl h2
        have h5d := (H1.out.below HB5.out).below (Below.drew (Below.refl _ w5))
        have hcl := closeL_any h5d.heap HII.out he hv
        have hoffx : ¬ H.F x := h5d.heap.offT h5d.obj (by decide)
        have hoffb : ¬ H.F bx := H1.out.heap.offT HBX.out (by decide)
        have HOFF := Lib.hid (And.intro hoffx hoffb)
        subst h2
        have HCL := Lib.hid hcl
        have H5 := Lib.hid h5d
        clear hcl he hv h5d hoffx hoffb
        go_upto_region 32 with (fail)
        refine wp_region_held_drew (S := fun W : World => W.cell? ⟨x, 0, none⟩ = some (.pointer (some ⟨H.gr, 0, none⟩)) ∧ W.cell? ⟨bx, 4, none⟩ = some (.int .i64 pg)) (by kernel_rfl) (by exact ⟨z0, z1⟩) (fun hHeld0 => ?_)
        (refine wpAnyH_take (i := 0) (v := ?_) rfl (by kernel_rfl) (by kernel_rfl) (by kernel_rfl) (fun _ _ _ h => h) (Or.inl ⟨by rfl, ?_⟩) (by assumption) ?_; rotate_left; focus (intro w hSw; (try dsimp only at hSw); go_simp; first | done | with_reducible rfl); (try simp only [Act.put, List.setIfInBounds_toArray, List.set_cons_zero, List.set_cons_succ, List.getElem_toArray, List.getElem_cons_zero, List.getElem_cons_succ]))
        (refine wpAnyH_take (i := 1) (v := ?_) rfl (by kernel_rfl) (by kernel_rfl) (by kernel_rfl) (fun _ _ _ h => h) (Or.inl ⟨by rfl, ?_⟩) (by assumption) ?_; rotate_left; focus (intro w hSw; (try dsimp only at hSw); go_simp; first | done | with_reducible rfl); (try simp only [Act.put, List.setIfInBounds_toArray, List.set_cons_zero, List.set_cons_succ, List.getElem_toArray, List.getElem_cons_zero, List.getElem_cons_succ]))
        (refine wpAnyH_take (i := 2) (v := ?_) rfl (by kernel_rfl) (by kernel_rfl) (by kernel_rfl) (fun _ _ _ h => h) (Or.inl ⟨by rfl, ?_⟩) (by assumption) ?_; rotate_left; focus (intro w hSw; (try dsimp only at hSw); go_simp; first | done | with_reducible rfl); (try simp only [Act.put, List.setIfInBounds_toArray, List.set_cons_zero, List.set_cons_succ, List.getElem_toArray, List.getElem_cons_zero, List.getElem_cons_succ]))
        (refine wpAnyH_take (i := 3) (v := ?_) rfl (by kernel_rfl) (by kernel_rfl) (by kernel_rfl) (fun _ _ _ h => h) (Or.inl ⟨by rfl, ?_⟩) (by assumption) ?_; rotate_left; focus (intro w hSw; (try dsimp only at hSw); go_simp; first | done | with_reducible rfl); (try simp only [Act.put, List.setIfInBounds_toArray, List.set_cons_zero, List.set_cons_succ, List.getElem_toArray, List.getElem_cons_zero, List.getElem_cons_succ]))
        (refine wpAnyH_take (i := 4) (v := ?_) rfl (by kernel_rfl) (by kernel_rfl) (by kernel_rfl) (fun _ _ _ h => h) (Or.inl ⟨by rfl, ?_⟩) (by assumption) ?_; rotate_left; focus (intro w hSw; (try dsimp only at hSw); go_simp; first | done | with_reducible rfl); (try simp only [Act.put, List.setIfInBounds_toArray, List.set_cons_zero, List.set_cons_succ, List.getElem_toArray, List.getElem_cons_zero, List.getElem_cons_succ]))
        (refine wpAnyH_take (i := 5) (v := ?_) rfl (by kernel_rfl) (by kernel_rfl) (by kernel_rfl) (fun _ _ _ h => h) (Or.inl ⟨by rfl, ?_⟩) (by assumption) ?_; rotate_left; focus (intro w hSw; (try dsimp only at hSw); go_simp; first | done | with_reducible rfl); (try simp only [Act.put, List.setIfInBounds_toArray, List.set_cons_zero, List.set_cons_succ, List.getElem_toArray, List.getElem_cons_zero, List.getElem_cons_succ]))
        (refine wpAnyH_take (i := 6) (v := ?_) rfl (by kernel_rfl) (by kernel_rfl) (by kernel_rfl) (fun _ _ _ h => h) (Or.inl ⟨by rfl, ?_⟩) (by assumption) ?_; rotate_left; focus (intro w hSw; (try dsimp only at hSw); go_simp; first | done | with_reducible rfl); (try simp only [Act.put, List.setIfInBounds_toArray, List.set_cons_zero, List.set_cons_succ, List.getElem_toArray, List.getElem_cons_zero, List.getElem_cons_succ]))
        (refine wpAnyH_ready (rs := [7]) (by kernel_rfl) (by simp) ?_; refine AllReadyH.cons rfl (fun K hK => ?_) AllReadyH.nil; go_simp)
        go_wp2_with (fail)
        refine HCL.out.mono ?_
        rintro e w6 ⟨⟨a, b', rfl⟩, H', s', q1, q2, q3, q4, q5⟩
        have htt : Turned H.F w5 w6 := (Turned.of_below (F := H.F) (Below.drew (Below.refl _ w5)) (Nat.le_refl _)).trans q5 (fun _ h _ => h)
        have HO := Lib.hid q4
        have HT := Lib.hid htt
        have HI4 := Lib.hid q3
        have HW := Lib.hid (H5.out.turnedH q5 q2 q1 q4.gr q4.h)
        refine hK.out _ _ ⟨turned_cell htt HOFF.out.1 z0, turned_cell htt HOFF.out.2 z1⟩ (fun hHeld => ?_)
        clear hK K hHeld0
        (try simp only [Act.put, List.setIfInBounds_toArray, List.set_cons_zero, List.set_cons_succ, List.getElem_toArray, List.getElem_cons_zero, List.getElem_cons_succ])
        clear q1 q2 q3 q4 q5 htt z0 z1
        (refine wpAnyH_take (i := 8) (v := ?_) rfl (by kernel_rfl) (by kernel_rfl) (by kernel_rfl) (fun _ _ _ h => h) (Or.inl ⟨by rfl, ?_⟩) (by assumption) ?_; rotate_left; focus (intro w hSw; (try dsimp only at hSw); go_simp; first | done | with_reducible rfl); (try simp only [Act.put, List.setIfInBounds_toArray, List.set_cons_zero, List.set_cons_succ, List.getElem_toArray, List.getElem_cons_zero, List.getElem_cons_succ]))
        (refine wpAnyH_take (i := 9) (v := ?_) rfl (by kernel_rfl) (by kernel_rfl) (by kernel_rfl) (fun _ _ _ h => h) (Or.inl ⟨by rfl, ?_⟩) (by assumption) ?_; rotate_left; focus (intro w hSw; (try dsimp only at hSw); go_simp; first | done | with_reducible rfl); (try simp only [Act.put, List.setIfInBounds_toArray, List.set_cons_zero, List.set_cons_succ, List.getElem_toArray, List.getElem_cons_zero, List.getElem_cons_succ]))
        (refine wpAnyH_take (i := 10) (v := ?_) rfl (by kernel_rfl) (by kernel_rfl) (by kernel_rfl) (fun _ _ _ h => h) (Or.inl ⟨by rfl, ?_⟩) (by assumption) ?_; rotate_left; focus (intro w hSw; (try dsimp only at hSw); go_simp; first | done | with_reducible rfl); (try simp only [Act.put, List.setIfInBounds_toArray, List.set_cons_zero, List.set_cons_succ, List.getElem_toArray, List.getElem_cons_zero, List.getElem_cons_succ]))
        (refine wpAnyH_take (i := 11) (v := ?_) rfl (by kernel_rfl) (by kernel_rfl) (by kernel_rfl) (fun _ _ _ h => h) (Or.inl ⟨by rfl, ?_⟩) (by assumption) ?_; rotate_left; focus (intro w hSw; (try dsimp only at hSw); go_simp; first | done | with_reducible rfl); (try simp only [Act.put, List.setIfInBounds_toArray, List.set_cons_zero, List.set_cons_succ, List.getElem_toArray, List.getElem_cons_zero, List.getElem_cons_succ]))
        (refine wpAnyH_take (i := 12) (v := ?_) rfl (by kernel_rfl) (by kernel_rfl) (by kernel_rfl) (fun _ _ _ h => h) (Or.inl ⟨by rfl, ?_⟩) (by assumption) ?_; rotate_left; focus (intro w hSw; (try dsimp only at hSw); go_simp; first | done | with_reducible rfl); (try simp only [Act.put, List.setIfInBounds_toArray, List.set_cons_zero, List.set_cons_succ, List.getElem_toArray, List.getElem_cons_zero, List.getElem_cons_succ]))
        refine wpAnyH_done (by kernel_rfl) ?_ _
        clear hHeld
        go_wp2
        go_ret2
        have hb : Below w6.heap.size w6 (w6.alloc (.cells #[.int .i64 a] 3)) := (Below.refl _ _).alloc (Nat.le_refl _) _
        have hs5w := HB5W.out.size
        exact ⟨⟨_, rfl⟩, H', s', HW.out.below hb, HI4.out, ⟨HO.out.h, HO.out.gr, HO.out.cl, HO.out.rg, HO.out.mb, fun k hk => (HO.out.foot k hk).imp id (fun e => Nat.le_trans hs5w e)⟩,
          ((Turned.of_below (F := H.F) HB5W.out (Nat.le_refl _)).trans HT.out (fun _ h _ => h)).trans (Turned.of_below (F := H.F) hb (Nat.le_refl _)) (fun _ h _ => h)⟩
      · have hne : ((a2 : Int) != 2) = true := by simp; omega
        go_wp2
        go_ret2
        exact ⟨⟨_, rfl⟩, H, s, H1.out.below HB5.out, HII.out, OHL.Of.refl _ _, Turned.of_below HB5W.out (Nat.le_refl _)⟩

end Go.Proofs.YtlljejmblmjjnaaGreatDoor

/- The law's Do at any call. -/
namespace Go.Proofs.YtlljejmblmjjnaaGreatDoor
set_option linter.unusedVariables false
set_option linter.unusedSimpArgs false
open Go.RowKit Go.ChangeMaps

theorem WorldI.foots {w wr : World} {x : Nat} {lv : Value} {H : OHL} {pages : Nat} {s : OP} (h : WorldI w wr x lv H pages s) {w' : World} (t : Turned (worldF H x lv) wr w') : Below w.heap.size wr w' :=
  t.below (fun k hk => by
    rcases hk with hk | rfl | hk
    · exact h.foot k hk
    · exact h.x
    · exact (own_block_is h.at_.row hk).1) h.below.size
theorem doAll {w wr : World} {x : Nat} {lv : Value} {H : OHL} {pages : Nat} {s : OP} (h : WorldI w wr x lv H pages s) (c : CallM) (hc : CallOk c) :
    Calls Tryz.prog 11 #[.pointer (some ⟨x, 0, none⟩), callA c] wr (DoAny w x pages) := by
  by_cases h5 : 0 ≤ c.what ∧ c.what < 5
  · refine (do_any h.at_ h.inv c hc h5.1 h5.2).mono ?_
    intro e w' hp
    obtain ⟨v, H', he, -, q, -⟩ := h.done (doO_inv h.inv c) hp
    exact ⟨⟨_, he⟩, lv, H', _, q⟩
  · obtain ⟨what, cls, at_, n, pg⟩ := c
    have hF : ∀ {w'}, Turned H.F wr w' → Below w.heap.size wr w' := fun t => t.below (B := w.heap.size) h.foot h.below.size
    by_cases e5 : what = 5
    · subst e5
      cases hg : getO s.A pg with
      | none =>
        refine (do5_no h.at_ cls at_ n pg hg).mono ?_
        rintro e w' ⟨hv, hb⟩
        exact ⟨hv, lv, H, s, h.below' hb⟩
      | some z =>
        obtain ⟨hz, hp⟩ := getO_mem hg
        obtain ⟨y, hy, rfl⟩ := h.at_.heap.mem hz
        refine (do5_yes h.at_ h.pos h.below.size hy cls at_ n pg hp.symm).mono ?_
        rintro e w' ⟨hv, lv', q1, q2, q3⟩
        exact ⟨hv, lv', _, _, h.next q1 (h.inv.leave hz) q2 (h.foots q3)⟩
    · by_cases e6 : what = 6
      · subst e6
        rcases List.eq_nil_or_concat H.left with hl | ⟨L0, y, hl⟩
        · refine (do6_no h.at_ cls at_ n pg hl).mono ?_
          rintro e w' ⟨hv, hb⟩
          exact ⟨hv, lv, H, s, h.below' hb⟩
        · have hl' : H.left = L0 ++ [y] := by rw [hl]; simp
          have hym : y.x ∈ H.left.map (·.x) := List.mem_map.2 ⟨y, by rw [hl']; exact List.mem_append_right _ (List.mem_singleton.2 rfl), rfl⟩
          refine (do6_yes h.at_ h.pos h.below.size hl' cls at_ n pg).mono ?_
          rintro e w' ⟨hv, lv', H', q1, q2, q3⟩
          have hb := h.at_.heap.base
          exact ⟨hv, lv', H', _, h.next q1 (h.inv.joined (hb.each _ (List.mem_append_right _ hym)) (hb.tk _ (List.mem_append_right _ hym)) (fun z hz => hb.sep z hz _ hym)) q2 (h.foots q3)⟩
      · by_cases e7 : what = 7
        · subst e7
          refine (do7_any h.at_ h.inv cls at_ n pg).mono ?_
          rintro e w' ⟨hv, H', s', q1, q2, q3, q4⟩
          exact ⟨hv, lv, H', s', h.next q1 q2 q3 (hF q4)⟩
        · by_cases e8 : what = 8
          · subst e8
            refine (do8_any h.at_ h.inv cls at_ n pg).mono ?_
            rintro e w' ⟨hv, H', s', q1, q2, q3, q4⟩
            exact ⟨hv, lv, H', s', h.next q1 q2 q3 (hF q4)⟩
          · exact doX_any h what cls at_ n pg (by simp only at h5; omega)
theorem BeginPostO.world {w w' : World} {pages : Nat} {e : Ending} (h0 : 0 < w.heap.size) (h : BeginPostO w pages e w') : ∃ x y lv H, e = .returned (.tuple #[.pointer (some ⟨x, 0, none⟩), .pointer (some ⟨y, 0, none⟩)]) ∧ WorldI w w' x lv H pages (s0 pages) := by
  obtain ⟨x, y, H, he, q⟩ := h.quiet
  exact ⟨x, y, _, H, he, ⟨q.at_, q.good.inv, q.foot, q.x, h0, q.below⟩⟩

/-- What a list tells of its slabs. -/
theorem OInv.of_list {pages : Nat} {s : OP} (h : OInv pages s) {c l q : Nat} (hc : c < 16) (hl : l < 4) (hq : q ∈ s.R (4 * c + l)) : ∃ x ∈ s.A, x.page = 4 * q ∧ x.cls = c ∧ x.kind = l := by
  obtain ⟨x, hx, hp, hn⟩ := h.back _ (by omega) q hq
  have hk := x.kind_le
  have hcl := (h.each x hx).cls
  unfold PO.num at hn
  exact ⟨x, hx, hp, by omega, by omega⟩

end Go.Proofs.YtlljejmblmjjnaaGreatDoor

/- The lists, counted: plain. -/
namespace Go.Proofs.YtlljejmblmjjnaaGreatDoor
set_option linter.unusedVariables false
set_option linter.unusedSimpArgs false
open Go.RowKit Go.ChangeMaps

/-- The items of the lists up to one. -/
def itemsTo (R : Nat → List Nat) (k : Nat) : List Nat := (List.range k).flatMap R
theorem itemsTo_succ (R : Nat → List Nat) (k : Nat) : itemsTo R (k + 1) = itemsTo R k ++ R k := by
  unfold itemsTo
  rw [List.range_succ, List.flatMap_append]
  simp
theorem itemsTo_mem {R : Nat → List Nat} {k q : Nat} : q ∈ itemsTo R k ↔ ∃ j, j < k ∧ q ∈ R j := by
  unfold itemsTo
  simp [List.mem_flatMap]
/-- How many slots of a slab are taken. -/
def takenQ (A : List PO) (q : Nat) : Nat := match getO A ((4 * q : Nat) : Int) with | some x => ones x.x (slA x.cls) | none => 0
theorem takenQ_of {pages : Nat} {s : OP} (h : OInv pages s) {x : PO} (hx : x ∈ s.A) {q : Nat} (hq : x.page = 4 * q) : takenQ s.A q = ones x.x (slA x.cls) := by
  unfold takenQ
  rw [← hq, h.get hx]
theorem itemsTo_nodup {pages : Nat} {s : OP} (h : OInv pages s) : ∀ k, k ≤ 64 → (itemsTo s.R k).Nodup
  | 0, _ => List.nodup_nil
  | k + 1, hk => by
    rw [itemsTo_succ, List.nodup_append]
    refine ⟨itemsTo_nodup h k (by omega), h.nodup k (by omega), fun a ha b hb e => ?_⟩
    subst e
    obtain ⟨j, hj, h1⟩ := itemsTo_mem.1 ha
    obtain ⟨x, hx, e1, e2⟩ := h.back j (by omega) a h1
    obtain ⟨y, hy, e3, e4⟩ := h.back k (by omega) a hb
    have := h.same hx hy (by omega)
    subst this
    omega
theorem itemsTo_perm {pages : Nat} {s : OP} (h : OInv pages s) : (itemsTo s.R 64).Perm (s.A.map (·.item)) := by
  refine (List.perm_ext_iff_of_nodup (itemsTo_nodup h 64 (Nat.le_refl _)) (items_nodup h s.A (List.Sublist.refl _))).2 fun q => ?_
  rw [itemsTo_mem, List.mem_map]
  constructor
  · rintro ⟨j, hj, hq⟩
    obtain ⟨x, hx, e1, -⟩ := h.back j hj q hq
    exact ⟨x, hx, by unfold PO.item; omega⟩
  · rintro ⟨x, hx, rfl⟩
    exact ⟨x.num, PO.num_lt (h.each x hx).cls, h.ring x hx⟩
theorem items_total {pages : Nat} {s : OP} (h : OInv pages s) : (itemsTo s.R 64).length = s.A.length := by
  rw [(itemsTo_perm h).length_eq, List.length_map]
theorem taken_len : ∀ A : List PO, (takenOP A).length = (A.map fun x => ones x.x (slA x.cls)).sum
  | [] => rfl
  | x :: l => by
    rw [List.map_cons, List.sum_cons, ← taken_len l]
    unfold takenOP takenO
    rw [List.flatMap_cons, List.length_append, List.length_map]
    rfl
theorem items_taken {pages : Nat} {s : OP} (h : OInv pages s) : ((itemsTo s.R 64).map (takenQ s.A)).sum = (takenOP s.A).length := by
  rw [((itemsTo_perm h).map (takenQ s.A)).sum_nat, taken_len, List.map_map]
  congr 1
  refine List.map_congr_left fun x hx => ?_
  exact takenQ_of h hx (by have := (h.each x hx).al; show x.page = 4 * (x.page / 4); omega)
/-- Bounds on the way. -/
theorem items_le {pages : Nat} {s : OP} (h : OInv pages s) {k : Nat} (hk : k ≤ 64) : (itemsTo s.R k).length ≤ s.A.length := by
  have e : (s.A.map (·.item)).length = s.A.length := List.length_map ..
  rw [← e]
  refine nodup_subO (itemsTo_nodup h k hk) fun q hq => ?_
  obtain ⟨j, hj, h1⟩ := itemsTo_mem.1 hq
  obtain ⟨x, hx, e1, -⟩ := h.back j (by omega) q h1
  exact List.mem_map.2 ⟨x, hx, by unfold PO.item; omega⟩
theorem sum_le_len {f : Nat → Nat} {b : Nat} : ∀ {l : List Nat}, (∀ q ∈ l, f q ≤ b) → (l.map f).sum ≤ b * l.length
  | [], _ => Nat.zero_le _
  | q :: l, h => by
    have h1 := h q List.mem_cons_self
    have h2 := sum_le_len (f := f) (b := b) (l := l) fun z hz => h z (List.mem_cons_of_mem _ hz)
    rw [List.map_cons, List.sum_cons, List.length_cons, Nat.mul_succ]
    omega
theorem takenQ_le {pages : Nat} {s : OP} (h : OInv pages s) (q : Nat) : takenQ s.A q ≤ 64 := by
  unfold takenQ
  cases hg : getO s.A ((4 * q : Nat) : Int) with
  | none => exact Nat.zero_le _
  | some x =>
    have h1 := ones_le x.x (slA x.cls)
    have h2 := (szA_all _ (h.each x (getO_mem hg).1).cls).2.2.2.2.1
    show ones x.x (slA x.cls) ≤ 64
    omega
/-- What a list's kind tells of the taken slots. -/
theorem kind_tells {pages : Nat} {x : PO} (h : x.Ok pages) : (x.kind = 0 → ones x.x (slA x.cls) ≠ 0 ∧ ones x.x (slA x.cls) < slA x.cls) ∧ (x.kind = 1 → ones x.x (slA x.cls) = slA x.cls) ∧ (x.kind = 2 → ones x.x (slA x.cls) = 0) ∧ (x.kind = 3 → ones x.x (slA x.cls) ≠ 0) := by
  have hle := ones_le x.x (slA x.cls)
  have hs : stateO x.O = if ones x.x (slA x.cls) = 0 then 0 else if ones x.x (slA x.cls) = slA x.cls then 2 else 1 := rfl
  have hb := (szA_all _ h.cls).2.2.2.1
  cases hd : x.sealed with
  | true =>
    have hk : x.kind = 3 := PO.kind_three.2 hd
    have he := h.opn hd
    have h0 : ¬ stateO x.O = 0 := by unfold PO.empty at he; simpa using he
    refine ⟨fun e => by omega, fun e => by omega, fun e => by omega, fun _ e => h0 ?_⟩
    rw [hs, if_pos e]
  | false =>
    have hk : x.kind = ofO x.O := by unfold PO.kind; rw [hd]; rfl
    rw [hk]
    unfold ofO
    rw [hs]
    by_cases e0 : ones x.x (slA x.cls) = 0
    · rw [if_pos e0, if_pos rfl]
      refine ⟨fun e => by omega, fun e => by omega, fun _ => e0, fun e => by omega⟩
    · rw [if_neg e0]
      by_cases e1 : ones x.x (slA x.cls) = slA x.cls
      · rw [if_pos e1, if_neg (by decide), if_pos rfl]
        exact ⟨fun e => by omega, fun _ => e1, fun e => by omega, fun e => by omega⟩
      · rw [if_neg e1, if_neg (by decide), if_neg (by decide)]
        exact ⟨fun _ => ⟨e0, by omega⟩, fun e => by omega, fun e => by omega, fun e => by omega⟩

end Go.Proofs.YtlljejmblmjjnaaGreatDoor
