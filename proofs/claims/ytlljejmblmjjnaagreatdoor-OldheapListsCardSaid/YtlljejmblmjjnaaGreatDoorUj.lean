/- OldheapLists: the code behind its loops. -/
import Derived.Test.YtlljejmblmjjnaaGreatDoorUB
import Derived.Deep.RegionHeld3
import Derived.WalkKit
import Derived.WalkSpells
import Derived.WalkLawsBesides
import Derived.BigQuiet
import Derived.Lib.Hide
namespace Go.Proofs.YtlljejmblmjjnaaGreatDoor
set_option linter.unusedVariables false
set_option linter.unusedSimpArgs false
open Go.RowKit Go.ChangeMaps

theorem pagesIO_srt {pages : Nat} {s : OP} (h : OInv pages s) : (pagesIO s).Pairwise (· < ·) := List.pairwise_map.2 (h.srt.imp fun h => by omega)
/-- The code from a region on. -/
def seqAt (n : Nat) : Code → Option Code
  | .seq (.region id l d) b => if id = n then some (.seq (.region id l d) b) else seqAt n b
  | .seq a b => match seqAt n a with
    | some c => some c
    | none => seqAt n b
  | .loop c => seqAt n c
  | .block _ c => seqAt n c
  | .scope c => seqAt n c
  | .cond _ a b => match seqAt n a with
    | some c => some c
    | none => seqAt n b
  | _ => none
noncomputable def listsEnd : Code := (Tryz.f4.body.bind (seqAt 33)).getD .skip

set_option maxRecDepth 100000 in
set_option maxHeartbeats 80000000 in
theorem lists_end {t1 t2 t3 t4 t6 t7 t10 t11 t12 t13 t14 t15 t16 t17 t18 t19 t20 t21 t22 t23 t24 t25 t26 t27 t28 t29 t30 t31 t32 t33 t34 t35 t36 t37 t38 t39 t40 t41 t42 t43 t44 t45 t46 t47 t48 t49 t50 t51 t52 t53 t54 t55 t56 t57 t58 t59 t60 t61 t62 t63 t64 t65 t66 t67 t68 t69 t70 t71 t72 t73 t74 t75 t76 t77 t78 t79 t80 t81 t82 t83 t84 t85 t86 t87 t88 t89 t90 t91 t92 t93 t94 t95 t96 t97 t98 t99 t100 t101 t102 t103 t104 t105 t106 t107 t108 t109 t110 t111 t112 t113 t114 t115 t116 t117 t118 t119 t120 t121 t122 t123 t124 t125 t126 t127 t128 t129 t130 t131 t132 t133 t134 t135 t136 t137 t138 t139 t140 t141 t142 t143 t144 t145 t146 t147 t148 t149 t150 t151 t152 t153 t154 t155 t156 t157 t158 t159 t160 t161 t162 t163 t164 t165 t166 t167 t168 t169 t170 t171 t172 t173 t174 t175 t176 t177 t178 t179 t180 t181 t182 t183 t184 t185 t186 t187 t188 t189 t190 t191 t192 t193 t194 t195 t196 t197 t198 t199 t200 t201 t202 t203 t204 t205 t206 t207 t208 t209 t210 t211 t212 t213 t214 t215 t216 t217 t218 t219 t220 t221 t222 t223 t224 t225 t226 t227 t228 : Value} {n : Int} {pages : Nat} {w w1 wr : World} {x : Nat} {lv : Value} {H : OHL} {s : OP} (hB1 : Below w.heap.size w w1) (hI : WorldI w1 wr x lv H pages s) :
    Code.wp Tryz.prog listsEnd (bodyPost Tryz.prog Tryz.f4 fun e w' => e = .returned (.bool true) ∧ Below w.heap.size w w') ⟨#[.int .i64 n, t1, t2, t3, t4, .pointer (some ⟨x, 0, none⟩), t6, t7, .int .i64 (s.A.length : Nat), .int .i64 ((takenOP s.A).length : Nat), t10, t11, t12, t13, t14, t15, t16, t17, t18, t19, t20, t21, t22, t23, t24, t25, t26, t27, t28, t29, t30, t31, t32, t33, t34, t35, t36, t37, t38, t39, t40, t41, t42, t43, t44, t45, t46, t47, t48, t49, t50, t51, t52, t53, t54, t55, t56, t57, t58, t59, t60, t61, t62, t63, t64, t65, t66, t67, t68, t69, t70, t71, t72, t73, t74, t75, t76, t77, t78, t79, t80, t81, t82, t83, t84, t85, t86, t87, t88, t89, t90, t91, t92, t93, t94, t95, t96, t97, t98, t99, t100, t101, t102, t103, t104, t105, t106, t107, t108, t109, t110, t111, t112, t113, t114, t115, t116, t117, t118, t119, t120, t121, t122, t123, t124, t125, t126, t127, t128, t129, t130, t131, t132, t133, t134, t135, t136, t137, t138, t139, t140, t141, t142, t143, t144, t145, t146, t147, t148, t149, t150, t151, t152, t153, t154, t155, t156, t157, t158, t159, t160, t161, t162, t163, t164, t165, t166, t167, t168, t169, t170, t171, t172, t173, t174, t175, t176, t177, t178, t179, t180, t181, t182, t183, t184, t185, t186, t187, t188, t189, t190, t191, t192, t193, t194, t195, t196, t197, t198, t199, t200, t201, t202, t203, t204, t205, t206, t207, t208, t209, t210, t211, t212, t213, t214, t215, t216, t217, t218, t219, t220, t221, t222, t223, t224, t225, t226, t227, t228], []⟩ wr := by
  have HI := Lib.hid hI
  have HB1 := Lib.hid hB1
  clear hB1
  conv => arg 2; whnf
  have HPG := Lib.hid (pagesO_any hI.at_.heap)
  obtain ⟨bd1, bd2, bd3⟩ := hI.at_.heap.bound
  have hsrt := pagesIO_srt hI.inv
  have hll := hI.at_.heap.left_le
  have hcnt := hI.at_.heap.cnt
  have htb := takenOP_bound hI.inv.each
  have e1 := hI.at_.cells.2.1
  obtain ⟨pl, cl, rfl⟩ := own_slice2 hI.at_.row
  clear hI bd3
  go_wp2_with (fail)
  refine HPG.out.mono ?_
  rintro e w2 ⟨v, rfl, hrow, hb⟩
  have HI2 := Lib.hid (HI.out.below' hb)
  have HROW := Lib.hid hrow
  have hPL : (pagesIO s).length = s.A.length := List.length_map ..
  have HSRT := Lib.hid (List.pairwise_iff_getElem.1 hsrt)
  obtain ⟨p2, c2, rfl⟩ := own_slice2 hrow
  obtain ⟨m, hm⟩ : ∃ m, m = s.A.length := ⟨_, rfl⟩
  rw [← hm] at hPL bd1 hcnt htb HROW ⊢
  have HM := Lib.hid hm
  clear hsrt hrow hb e1 hm
  generalize pagesIO s = P at *
  obtain ⟨q, hq⟩ : ∃ q, q = (takenOP s.A).length := ⟨_, rfl⟩
  rw [← hq] at htb ⊢
  have HQ := Lib.hid hq
  clear hq
  go_wp2
  go_loopw [19] (fun iv wq => ∃ (j : Nat), 1 ≤ j ∧ iv = .int .i64 j ∧ Below w2.heap.size w2 wq) (fun iv _ => m + 1 - numOf iv)
  case atStart => exact ⟨1, Nat.le_refl _, rfl, Below.refl _ _⟩
  case round =>
    rename World => wq
    obtain ⟨j, hj, rfl, hbj⟩ := hrel
    have HBJ := Lib.hid hbj
    have hszj := hbj.size
    by_cases hlj : j < m
    · obtain ⟨g, cap, hv, -, -, -, hgl, hce⟩ := own_cells HROW.out (by omega)
      cases hv
      have hcell : ∀ i (hi : i < P.length), wq.cell? ⟨g, i, none⟩ = some (.int .i64 P[i]) := fun i hi => by
        refine cell_past hbj hgl ?_
        rw [hce i (by omega), List.getElem?_map, List.getElem?_eq_getElem hi]
        rfl
      have y0 := hcell j (by omega)
      have y1 := hcell (j - 1) (by omega)
      have hlt := HSRT.out (j - 1) j (by omega) (by omega) (by omega)
      have hnl : ¬ P[j] ≤ P[j - 1] := by omega
      have hj1 : (0 : Int) ≤ (j : Int) ∧ (j : Int) < m := by omega
      have hjw : IntKind.i64.wrap ((j : Int) + 1) = (j : Int) + 1 := by rw [IntKind.wrap_i64]; omega
      have hjm : IntKind.i64.wrap ((j : Int) - 1) = ((j - 1 : Nat) : Int) := by rw [wraps_i64 _ (by omega) (by omega)]; omega
      have hj2 : (0 : Int) ≤ ((j - 1 : Nat) : Int) ∧ ((j - 1 : Nat) : Int) < m := by omega
      clear hbj hce hcell hlt
      generalize P[j] = a at *
      generalize P[j - 1] = a' at *
      generalize j - 1 = j' at *
      go_upto_region 37 with (fail)
      (refine wp_region_quiet_ext (by kernel_rfl) (by kernel_rfl) ?_; (repeat (first | go_big_quiet_step ((fail)) | quiet_step ((fail)))); refine wpQuiet_nil ?_; intro w6 hw6; obtain hb6 := below_of_ext hw6; clear hw6; have hz6 := hb6.size; (try simp at hz6))
      have HB6 := Lib.hid (Below.via hb6 hszj HBJ.out)
      clear hb6 hz6
      go_wp2
      go_roundw
      case rel => exact ⟨j + 1, by omega, by go_num, HB6.out⟩
      case measure => simp [numOf]; omega
    · have HIq := Lib.hid (HI2.out.below' hbj)
      obtain ⟨x0, x1, x2⟩ := HIq.out.at_.cells
      have HTK := Lib.hid (htakenO_any (HIq.out.at_.below (Below.drew (Below.refl _ wq))).heap)
      have HB := Lib.hid (show (H.b : Int) = 4 * (m : Int) + 4 * (H.left.length : Int) by omega)
      have hw1 : IntKind.i64.wrap (4 * (m : Int)) = 4 * (m : Int) := wraps_i64 _ (by omega) (by omega)
      have hw2 : IntKind.i64.wrap (4 * (H.left.length : Int)) = 4 * (H.left.length : Int) := wraps_i64 _ (by omega) (by omega)
      have hw3 : IntKind.i64.wrap (4 * (m : Int) + 4 * (H.left.length : Int)) = 4 * (m : Int) + 4 * (H.left.length : Int) := wraps_i64 _ (by omega) (by omega)
      have hxl := cell_lt x0
      clear hbj
      go_upto_region 39 with (fail)
      refine wp_region_held_drew (S := fun W : World => W.cell? ⟨x, 0, none⟩ = some (.pointer (some ⟨H.gr, 0, none⟩)) ∧ W.cell? ⟨x, 1, none⟩ = some (.pointer (some ⟨H.h, 0, none⟩)) ∧ W.cell? ⟨x, 2, none⟩ = some (.slice pl H.left.length cl)) (by kernel_rfl) (by exact ⟨x0, x1, x2⟩) (fun hHeld0 => ?_)
      (refine wpAnyH_take (i := 0) (v := ?_) rfl (by kernel_rfl) (by kernel_rfl) (by kernel_rfl) (fun _ _ _ h => h) (Or.inl ⟨by (first | kernel_rfl | rfl), ?_⟩) (by assumption) ?_; rotate_left; focus (intro w hSw; (try dsimp only at hSw); go_simp; first | done | with_reducible rfl); (try simp only [Act.put, List.setIfInBounds_toArray, List.set_cons_zero, List.set_cons_succ, List.getElem_toArray, List.getElem_cons_zero, List.getElem_cons_succ]))
      (refine wpAnyH_take (i := 1) (v := ?_) rfl (by kernel_rfl) (by kernel_rfl) (by kernel_rfl) (fun _ _ _ h => h) (Or.inl ⟨by (first | kernel_rfl | rfl), ?_⟩) (by assumption) ?_; rotate_left; focus (intro w hSw; (try dsimp only at hSw); go_simp; first | done | with_reducible rfl); (try simp only [Act.put, List.setIfInBounds_toArray, List.set_cons_zero, List.set_cons_succ, List.getElem_toArray, List.getElem_cons_zero, List.getElem_cons_succ]))
      (refine wpAnyH_take (i := 2) (v := ?_) rfl (by kernel_rfl) (by kernel_rfl) (by kernel_rfl) (fun _ _ _ h => h) (Or.inl ⟨by (first | kernel_rfl | rfl), ?_⟩) (by assumption) ?_; rotate_left; focus (intro w hSw; (try dsimp only at hSw); go_simp; first | done | with_reducible rfl); (try simp only [Act.put, List.setIfInBounds_toArray, List.set_cons_zero, List.set_cons_succ, List.getElem_toArray, List.getElem_cons_zero, List.getElem_cons_succ]))
      (refine wpAnyH_take (i := 3) (v := ?_) rfl (by kernel_rfl) (by kernel_rfl) (by kernel_rfl) (fun _ _ _ h => h) (Or.inl ⟨by (first | kernel_rfl | rfl), ?_⟩) (by assumption) ?_; rotate_left; focus (intro w hSw; (try dsimp only at hSw); go_simp; first | done | with_reducible rfl); (try simp only [Act.put, List.setIfInBounds_toArray, List.set_cons_zero, List.set_cons_succ, List.getElem_toArray, List.getElem_cons_zero, List.getElem_cons_succ]))
      (refine wpAnyH_take (i := 4) (v := ?_) rfl (by kernel_rfl) (by kernel_rfl) (by kernel_rfl) (fun _ _ _ h => h) (Or.inl ⟨by (first | kernel_rfl | rfl), ?_⟩) (by assumption) ?_; rotate_left; focus (intro w hSw; (try dsimp only at hSw); go_simp; first | done | with_reducible rfl); (try simp only [Act.put, List.setIfInBounds_toArray, List.set_cons_zero, List.set_cons_succ, List.getElem_toArray, List.getElem_cons_zero, List.getElem_cons_succ]))
      (refine wpAnyH_take (i := 5) (v := ?_) rfl (by kernel_rfl) (by kernel_rfl) (by kernel_rfl) (fun _ _ _ h => h) (Or.inl ⟨by (first | kernel_rfl | rfl), ?_⟩) (by assumption) ?_; rotate_left; focus (intro w hSw; (try dsimp only at hSw); go_simp; first | done | with_reducible rfl); (try simp only [Act.put, List.setIfInBounds_toArray, List.set_cons_zero, List.set_cons_succ, List.getElem_toArray, List.getElem_cons_zero, List.getElem_cons_succ]))
      (refine wpAnyH_take (i := 6) (v := ?_) rfl (by kernel_rfl) (by kernel_rfl) (by kernel_rfl) (fun _ _ _ h => h) (Or.inl ⟨by (first | kernel_rfl | rfl), ?_⟩) (by assumption) ?_; rotate_left; focus (intro w hSw; (try dsimp only at hSw); go_simp; first | done | with_reducible rfl); (try simp only [Act.put, List.setIfInBounds_toArray, List.set_cons_zero, List.set_cons_succ, List.getElem_toArray, List.getElem_cons_zero, List.getElem_cons_succ]))
      (refine wpAnyH_take (i := 7) (v := ?_) rfl (by kernel_rfl) (by kernel_rfl) (by kernel_rfl) (fun _ _ _ h => h) (Or.inl ⟨by (first | kernel_rfl | rfl), ?_⟩) (by assumption) ?_; rotate_left; focus (intro w hSw; (try dsimp only at hSw); go_simp; first | done | with_reducible rfl); (try simp only [Act.put, List.setIfInBounds_toArray, List.set_cons_zero, List.set_cons_succ, List.getElem_toArray, List.getElem_cons_zero, List.getElem_cons_succ]))
      (refine wpAnyH_take (i := 8) (v := ?_) rfl (by kernel_rfl) (by kernel_rfl) (by kernel_rfl) (fun _ _ _ h => h) (Or.inl ⟨by (first | kernel_rfl | rfl), ?_⟩) (by assumption) ?_; rotate_left; focus (intro w hSw; (try dsimp only at hSw); go_simp; first | done | with_reducible rfl); (try simp only [Act.put, List.setIfInBounds_toArray, List.set_cons_zero, List.set_cons_succ, List.getElem_toArray, List.getElem_cons_zero, List.getElem_cons_succ]))
      (refine wpAnyH_take (i := 9) (v := ?_) rfl (by kernel_rfl) (by kernel_rfl) (by kernel_rfl) (fun _ _ _ h => h) (Or.inl ⟨by (first | kernel_rfl | rfl), ?_⟩) (by assumption) ?_; rotate_left; focus (intro w hSw; (try dsimp only at hSw); go_simp; first | done | with_reducible rfl); (try simp only [Act.put, List.setIfInBounds_toArray, List.set_cons_zero, List.set_cons_succ, List.getElem_toArray, List.getElem_cons_zero, List.getElem_cons_succ]))
      (refine wpAnyH_ready (rs := [10]) (by kernel_rfl) (by simp) ?_; refine AllReadyH.cons rfl (fun K hK => ?_) AllReadyH.nil; go_simp)
      go_wp2_with (fail)
      refine HTK.out.mono ?_
      rintro e w3 ⟨v, rfl, hints, hb3⟩
      obtain ⟨p3, c3, hv3, -⟩ := hints.at
      rw [← HQ.out] at hv3
      subst hv3
      have k0 := cell_past hb3 hxl x0
      have k1 := cell_past hb3 hxl x1
      have k2 := cell_past hb3 hxl x2
      have HB3 := Lib.hid (Below.via hb3 (Nat.le_refl _) (Below.drew (Below.refl _ wq)))
      refine hK.out _ _ ⟨k0, k1, k2⟩ (fun hHeld => ?_)
      clear hK K hHeld0 hints hb3 x0 x1 x2
      (try simp only [Act.put, List.setIfInBounds_toArray, List.set_cons_zero, List.set_cons_succ, List.getElem_toArray, List.getElem_cons_zero, List.getElem_cons_succ])
      (refine wpAnyH_take (i := 11) (v := ?_) rfl (by kernel_rfl) (by kernel_rfl) (by kernel_rfl) (fun _ _ _ h => h) (Or.inl ⟨by (first | kernel_rfl | rfl), ?_⟩) (by assumption) ?_; rotate_left; focus (intro w hSw; (try dsimp only at hSw); go_simp; first | done | with_reducible rfl); (try simp only [Act.put, List.setIfInBounds_toArray, List.set_cons_zero, List.set_cons_succ, List.getElem_toArray, List.getElem_cons_zero, List.getElem_cons_succ]))
      (refine wpAnyH_take (i := 12) (v := ?_) rfl (by kernel_rfl) (by kernel_rfl) (by kernel_rfl) (fun _ _ _ h => h) (Or.inl ⟨by (first | kernel_rfl | rfl), ?_⟩) (by assumption) ?_; rotate_left; focus (intro w hSw; (try dsimp only at hSw); go_simp; first | done | with_reducible rfl); (try simp only [Act.put, List.setIfInBounds_toArray, List.set_cons_zero, List.set_cons_succ, List.getElem_toArray, List.getElem_cons_zero, List.getElem_cons_succ]))
      (refine wpAnyH_take (i := 13) (v := ?_) rfl (by kernel_rfl) (by kernel_rfl) (by kernel_rfl) (fun _ _ _ h => h) (Or.inl ⟨by (first | kernel_rfl | rfl), ?_⟩) (by assumption) ?_; rotate_left; focus (intro w hSw; (try dsimp only at hSw); go_simp; first | done | with_reducible rfl); (try simp only [Act.put, List.setIfInBounds_toArray, List.set_cons_zero, List.set_cons_succ, List.getElem_toArray, List.getElem_cons_zero, List.getElem_cons_succ]))
      (refine wpAnyH_take (i := 14) (v := ?_) rfl (by kernel_rfl) (by kernel_rfl) (by kernel_rfl) (fun _ _ _ h => h) (Or.inl ⟨by (first | kernel_rfl | rfl), ?_⟩) (by assumption) ?_; rotate_left; focus (intro w hSw; (try dsimp only at hSw); go_simp; first | done | with_reducible rfl); (try simp only [Act.put, List.setIfInBounds_toArray, List.set_cons_zero, List.set_cons_succ, List.getElem_toArray, List.getElem_cons_zero, List.getElem_cons_succ]))
      (refine wpAnyH_take (i := 15) (v := ?_) rfl (by kernel_rfl) (by kernel_rfl) (by kernel_rfl) (fun _ _ _ h => h) (Or.inl ⟨by (first | kernel_rfl | rfl), ?_⟩) (by assumption) ?_; rotate_left; focus (intro w hSw; (try dsimp only at hSw); go_simp; first | done | with_reducible rfl); (try simp only [Act.put, List.setIfInBounds_toArray, List.set_cons_zero, List.set_cons_succ, List.getElem_toArray, List.getElem_cons_zero, List.getElem_cons_succ]))
      (refine wpAnyH_take (i := 16) (v := ?_) rfl (by kernel_rfl) (by kernel_rfl) (by kernel_rfl) (fun _ _ _ h => h) (Or.inl ⟨by (first | kernel_rfl | rfl), ?_⟩) (by assumption) ?_; rotate_left; focus (intro w hSw; (try dsimp only at hSw); go_simp; first | done | with_reducible rfl); (try simp only [Act.put, List.setIfInBounds_toArray, List.set_cons_zero, List.set_cons_succ, List.getElem_toArray, List.getElem_cons_zero, List.getElem_cons_succ]))
      (refine wpAnyH_take (i := 17) (v := ?_) rfl (by kernel_rfl) (by kernel_rfl) (by kernel_rfl) (fun _ _ _ h => h) (Or.inl ⟨by (first | kernel_rfl | rfl), ?_⟩) (by assumption) ?_; rotate_left; focus (intro w hSw; (try dsimp only at hSw); go_simp; first | done | with_reducible rfl); (try simp only [Act.put, List.setIfInBounds_toArray, List.set_cons_zero, List.set_cons_succ, List.getElem_toArray, List.getElem_cons_zero, List.getElem_cons_succ]))
      (refine wpAnyH_take (i := 18) (v := ?_) rfl (by kernel_rfl) (by kernel_rfl) (by kernel_rfl) (fun _ _ _ h => h) (Or.inl ⟨by (first | kernel_rfl | rfl), ?_⟩) (by assumption) ?_; rotate_left; focus (intro w hSw; (try dsimp only at hSw); go_simp; first | done | with_reducible rfl); (try simp only [Act.put, List.setIfInBounds_toArray, List.set_cons_zero, List.set_cons_succ, List.getElem_toArray, List.getElem_cons_zero, List.getElem_cons_succ]))
      (refine wpAnyH_take (i := 20) (v := ?_) rfl (by kernel_rfl) (by kernel_rfl) (by kernel_rfl) (fun _ _ _ h => h) (Or.inl ⟨by (first | kernel_rfl | rfl), ?_⟩) (by assumption) ?_; rotate_left; focus (intro w hSw; (try dsimp only at hSw); go_simp; first | done | with_reducible rfl); (try simp only [Act.put, List.setIfInBounds_toArray, List.set_cons_zero, List.set_cons_succ, List.getElem_toArray, List.getElem_cons_zero, List.getElem_cons_succ]))
      (refine wpAnyH_take (i := 21) (v := ?_) rfl (by kernel_rfl) (by kernel_rfl) (by kernel_rfl) (fun _ _ _ h => h) (Or.inl ⟨by (first | kernel_rfl | rfl), ?_⟩) (by assumption) ?_; rotate_left; focus (intro w hSw; (try dsimp only at hSw); go_simp; first | done | with_reducible rfl); (try simp only [Act.put, List.setIfInBounds_toArray, List.set_cons_zero, List.set_cons_succ, List.getElem_toArray, List.getElem_cons_zero, List.getElem_cons_succ]))
      (refine wpAnyH_take (i := 22) (v := ?_) rfl (by kernel_rfl) (by kernel_rfl) (by kernel_rfl) (fun _ _ _ h => h) (Or.inl ⟨by (first | kernel_rfl | rfl), ?_⟩) (by assumption) ?_; rotate_left; focus (intro w hSw; (try dsimp only at hSw); go_simp; first | done | with_reducible rfl); (try simp only [Act.put, List.setIfInBounds_toArray, List.set_cons_zero, List.set_cons_succ, List.getElem_toArray, List.getElem_cons_zero, List.getElem_cons_succ]))
      (refine wpAnyH_take (i := 23) (v := ?_) rfl (by kernel_rfl) (by kernel_rfl) (by kernel_rfl) (fun _ _ _ h => h) (Or.inl ⟨by (first | kernel_rfl | rfl), ?_⟩) (by assumption) ?_; rotate_left; focus (intro w hSw; (try dsimp only at hSw); go_simp; first | done | with_reducible rfl); (try simp only [Act.put, List.setIfInBounds_toArray, List.set_cons_zero, List.set_cons_succ, List.getElem_toArray, List.getElem_cons_zero, List.getElem_cons_succ]))
      (refine wpAnyH_take (i := 24) (v := ?_) rfl (by kernel_rfl) (by kernel_rfl) (by kernel_rfl) (fun _ _ _ h => h) (Or.inl ⟨by (first | kernel_rfl | rfl), ?_⟩) (by assumption) ?_; rotate_left; focus (intro w hSw; (try dsimp only at hSw); go_simp; first | done | with_reducible rfl); (try simp only [Act.put, List.setIfInBounds_toArray, List.set_cons_zero, List.set_cons_succ, List.getElem_toArray, List.getElem_cons_zero, List.getElem_cons_succ]))
      (refine wpAnyH_take (i := 25) (v := ?_) rfl (by kernel_rfl) (by kernel_rfl) (by kernel_rfl) (fun _ _ _ h => h) (Or.inl ⟨by (first | kernel_rfl | rfl), ?_⟩) (by assumption) ?_; rotate_left; focus (intro w hSw; (try dsimp only at hSw); go_simp; first | done | with_reducible rfl); (try simp only [Act.put, List.setIfInBounds_toArray, List.set_cons_zero, List.set_cons_succ, List.getElem_toArray, List.getElem_cons_zero, List.getElem_cons_succ]))
      (refine wpAnyH_take (i := 26) (v := ?_) rfl (by kernel_rfl) (by kernel_rfl) (by kernel_rfl) (fun _ _ _ h => h) (Or.inl ⟨by (first | kernel_rfl | rfl), ?_⟩) (by assumption) ?_; rotate_left; focus (intro w hSw; (try dsimp only at hSw); go_simp; first | done | with_reducible rfl); (try simp only [Act.put, List.setIfInBounds_toArray, List.set_cons_zero, List.set_cons_succ, List.getElem_toArray, List.getElem_cons_zero, List.getElem_cons_succ]))
      (refine wpAnyH_take (i := 27) (v := ?_) rfl (by kernel_rfl) (by kernel_rfl) (by kernel_rfl) (fun _ _ _ h => h) (Or.inl ⟨by (first | kernel_rfl | rfl), ?_⟩) (by assumption) ?_; rotate_left; focus (intro w hSw; (try dsimp only at hSw); go_simp; first | done | with_reducible rfl); (try simp only [Act.put, List.setIfInBounds_toArray, List.set_cons_zero, List.set_cons_succ, List.getElem_toArray, List.getElem_cons_zero, List.getElem_cons_succ]))
      (refine wpAnyH_take (i := 28) (v := ?_) rfl (by kernel_rfl) (by kernel_rfl) (by kernel_rfl) (fun _ _ _ h => h) (Or.inl ⟨by (first | kernel_rfl | rfl), ?_⟩) (by assumption) ?_; rotate_left; focus (intro w hSw; (try dsimp only at hSw); go_simp; first | done | with_reducible rfl); (try simp only [Act.put, List.setIfInBounds_toArray, List.set_cons_zero, List.set_cons_succ, List.getElem_toArray, List.getElem_cons_zero, List.getElem_cons_succ]))
      (refine wpAnyH_take (i := 29) (v := ?_) rfl (by kernel_rfl) (by kernel_rfl) (by kernel_rfl) (fun _ _ _ h => h) (Or.inl ⟨by (first | kernel_rfl | rfl), ?_⟩) (by assumption) ?_; rotate_left; focus (intro w hSw; (try dsimp only at hSw); go_simp; first | done | with_reducible rfl); (try simp only [Act.put, List.setIfInBounds_toArray, List.set_cons_zero, List.set_cons_succ, List.getElem_toArray, List.getElem_cons_zero, List.getElem_cons_succ]))
      have HHD : Hid (Calls Tryz.prog 22 #[.pointer (some ⟨H.gr, 0, none⟩), .int .i64 0] w3 fun e w' => e = .returned (.int .i64 (4 * (m : Int) + 4 * (H.left.length : Int))) ∧ w3 = w') := by
        have h9 := gHeld_any H.gr H.cl pages H.b 0 H.c H.p s.l H.E 0 (by decide) w3 (HIq.out.below' HB3.out).at_.heap.ground
        rw [show ((heldN H.b 0 H.c 0 : Nat) : Int) = 4 * (m : Int) + 4 * (H.left.length : Int) from HB.out] at h9
        exact h9
      (refine wpAnyH_ready (rs := [19]) (by kernel_rfl) (by simp) ?_; refine AllReadyH.cons rfl (fun K hK => ?_) AllReadyH.nil; go_simp)
      go_wp2_with (fail)
      refine HHD.out.mono ?_
      rintro e w4 ⟨rfl, rfl⟩
      refine hK.out _ _ ⟨k0, k1, k2⟩ (fun hHeld => ?_)
      clear hK K
      (try simp only [Act.put, List.setIfInBounds_toArray, List.set_cons_zero, List.set_cons_succ, List.getElem_toArray, List.getElem_cons_zero, List.getElem_cons_succ])
      (refine wpAnyH_take (i := 30) (v := ?_) rfl (by kernel_rfl) (by kernel_rfl) (by kernel_rfl) (fun _ _ _ h => h) (Or.inl ⟨by (first | kernel_rfl | rfl), ?_⟩) (by assumption) ?_; rotate_left; focus (intro w hSw; (try dsimp only at hSw); go_simp; first | done | with_reducible rfl); (try simp only [Act.put, List.setIfInBounds_toArray, List.set_cons_zero, List.set_cons_succ, List.getElem_toArray, List.getElem_cons_zero, List.getElem_cons_succ]))
      (refine wpAnyH_take (i := 31) (v := ?_) rfl (by kernel_rfl) (by kernel_rfl) (by kernel_rfl) (fun _ _ _ h => h) (Or.inl ⟨by (first | kernel_rfl | rfl), ?_⟩) (by assumption) ?_; rotate_left; focus (intro w hSw; (try dsimp only at hSw); go_simp; first | done | with_reducible rfl); (try simp only [Act.put, List.setIfInBounds_toArray, List.set_cons_zero, List.set_cons_succ, List.getElem_toArray, List.getElem_cons_zero, List.getElem_cons_succ]))
      (refine wpAnyH_take (i := 32) (v := ?_) rfl (by kernel_rfl) (by kernel_rfl) (by kernel_rfl) (fun _ _ _ h => h) (Or.inl ⟨by (first | kernel_rfl | rfl), ?_⟩) (by assumption) ?_; rotate_left; focus (intro w hSw; (try dsimp only at hSw); go_simp; first | done | with_reducible rfl); (try simp only [Act.put, List.setIfInBounds_toArray, List.set_cons_zero, List.set_cons_succ, List.getElem_toArray, List.getElem_cons_zero, List.getElem_cons_succ]))
      refine wpAnyH_done (by kernel_rfl) ?_ _
      clear hHeld
      go_wp2
      go_ret
      exact ⟨rfl, HB1.out.trans ((HIq.out.below' HB3.out).below.mono HB1.out.size)⟩

end Go.Proofs.YtlljejmblmjjnaaGreatDoor
