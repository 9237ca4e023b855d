/- NewheapBytes: the code behind its first loop. -/
import Derived.Test.YtlljejmblmjjnaaGreatVg
import Derived.WalkKit
import Derived.WalkSpells
import Derived.WalkLawsBesides
import Derived.BigQuiet
import Derived.Lib.Hide
namespace Go.Proofs.YtlljejmblmjjnaaGreat
set_option linter.unusedVariables false
set_option linter.unusedSimpArgs false
open Go.RowKit Go.ChangeMaps

theorem und_bmap : Tryz.prog.underlying 61 = some (.map 3 5) := by kernel_rfl
theorem zero_byte' : ∀ w, (zeroValue 5).run Tryz.prog w = .ok (.int .u8 0) w := fun w => by kernel_rfl
/-- The code from a region on. -/
def seqFrom (n : Nat) : Code → Option Code
  | .seq (.region id l d) b => if id = n then some (.seq (.region id l d) b) else seqFrom n b
  | .seq a b => match seqFrom n a with
    | some c => some c
    | none => seqFrom n b
  | .loop c => seqFrom n c
  | .block _ c => seqFrom n c
  | .scope c => seqFrom n c
  | .cond _ a b => match seqFrom n a with
    | some c => some c
    | none => seqFrom n b
  | _ => none
noncomputable def bytesEnd : Code := (Tryz.f7.body.bind (seqFrom 30)).getD .skip

set_option maxRecDepth 100000 in
set_option maxHeartbeats 80000000 in
theorem bytes_end {t0 t1 t2 t3 t4 t5 t6 t10 t11 t12 t13 t14 t15 t16 t17 t18 t19 t20 t21 t22 t23 t24 t25 t26 t27 t28 t29 t30 t31 t32 t33 t34 t35 t36 t37 t38 t39 t40 t41 t42 t43 t44 t45 t46 t47 t48 t49 t50 t51 t52 t53 t54 t55 t56 t57 t58 t59 t60 t61 t62 t63 t64 t65 t66 t67 t68 t69 t70 t71 t72 t73 t74 t75 t76 t77 t78 t79 t80 t81 t82 t83 t84 t85 t86 t87 t88 t89 t90 t91 t92 t93 t94 t95 t96 t97 t98 t99 t100 t101 t102 t103 t104 t105 t106 t107 t108 t109 t110 t111 t112 t113 t114 t115 t116 t117 t118 t119 t120 t121 t122 t123 t124 t125 t126 t127 t128 t129 t130 t131 t132 t133 t134 t135 t136 t137 t138 t139 t140 t141 t142 t143 t144 t145 t146 t147 t148 t149 t150 t151 t152 t153 t154 t155 t156 t157 t158 t159 t160 t161 t162 t163 t164 t165 t166 t167 t168 t169 t170 t171 t172 t173 t174 t175 t176 t177 t178 t179 t180 t181 t182 t183 t184 t185 t186 t187 t188 t189 t190 t191 t192 t193 t194 t195 t196 t197 t198 t199 t200 t201 t202 t203 t204 t205 : Value} {w w1 wr : World} {x y mb pages : Nat} {Hx Hy : HL} {s : HP} {E : List ME} (hB1 : Below w.heap.size w w1) (hA : TwoI w1 wr x Hx y Hy pages s mb (Value.int .u8) E) (hM : MapOk s E) (hY : BytesOk Hx.bs E) :
    Code.wp Tryz.prog bytesEnd (bodyPost Tryz.prog Tryz.f7 fun e w' => e = .returned (.bool true) ∧ Below w.heap.size w w') ⟨#[t0, t1, t2, t3, t4, t5, t6, .pointer (some ⟨x, 0, none⟩), .pointer (some ⟨y, 0, none⟩), .map (some mb), t10, t11, t12, t13, t14, t15, t16, t17, t18, t19, t20, t21, t22, t23, t24, t25, t26, t27, t28, t29, t30, t31, t32, t33, t34, t35, t36, t37, t38, t39, t40, t41, t42, t43, t44, t45, t46, t47, t48, t49, t50, t51, t52, t53, t54, t55, t56, t57, t58, t59, t60, t61, t62, t63, t64, t65, t66, t67, t68, t69, t70, t71, t72, t73, t74, t75, t76, t77, t78, t79, t80, t81, t82, t83, t84, t85, t86, t87, t88, t89, t90, t91, t92, t93, t94, t95, t96, t97, t98, t99, t100, t101, t102, t103, t104, t105, t106, t107, t108, t109, t110, t111, t112, t113, t114, t115, t116, t117, t118, t119, t120, t121, t122, t123, t124, t125, t126, t127, t128, t129, t130, t131, t132, t133, t134, t135, t136, t137, t138, t139, t140, t141, t142, t143, t144, t145, t146, t147, t148, t149, t150, t151, t152, t153, t154, t155, t156, t157, t158, t159, t160, t161, t162, t163, t164, t165, t166, t167, t168, t169, t170, t171, t172, t173, t174, t175, t176, t177, t178, t179, t180, t181, t182, t183, t184, t185, t186, t187, t188, t189, t190, t191, t192, t193, t194, t195, t196, t197, t198, t199, t200, t201, t202, t203, t204, t205], []⟩ wr := by
  have HA := Lib.hid hA
  have HM := Lib.hid hM
  have HY := Lib.hid hY
  have HB1 := Lib.hid hB1
  have HTK := Lib.hid (htaken_any hA.qx.at_.heap)
  have htb := taken_bound hA.qx
  have e1 := hA.qx.cx
  clear hA hM hY hB1
  conv => arg 2; whnf
  go_wp2_with (fail)
  refine HTK.out.mono ?_
  rintro e wt ⟨vt, rfl, hints, hbt⟩
  have HIN := Lib.hid hints
  obtain ⟨pt, ct, rfl, -⟩ := hints
  have HAT := Lib.hid (HA.out.below' hbt)
  have HTM : Hid (∀ a, a ∈ takenP s.A ↔ Tkn s.A a) := fun a => takenP_mem
  have HLEN : Hid (E.length = (takenP s.A).length) := HM.out.length HA.out.qx.good.inv
  have HTKY : Hid (∀ W, Below wt.heap.size wt W → Calls Tryz.prog 14 #[.pointer (some ⟨Hy.h, 0, none⟩)] W fun e w' => ∃ v, e = .returned v ∧ Ints w' W.heap.size v (takenP s.A) ∧ Below W.heap.size W w') := fun W hW => htaken_any (HAT.out.below' hW).qy.at_.heap
  clear hbt e1
  generalize takenP s.A = T at *
  go_wp2
  go_loopw [19] (fun iv wq => ∃ (j : Nat), j ≤ T.length ∧ iv = .int .i64 j ∧ Below wt.heap.size wt wq) (fun iv _ => T.length - numOf iv)
  case atStart => exact ⟨0, Nat.zero_le _, rfl, Below.refl _ _⟩
  case round =>
    rename World => wq
    obtain ⟨j, hj, rfl, hbj⟩ := hrel
    have HBJ := Lib.hid hbj
    have hszj := hbj.size
    by_cases hlj : j < T.length
    · obtain ⟨p6, c6, hv6, hc6⟩ := HIN.out
      cases hv6
      obtain ⟨g5, rfl, hg5, hce5⟩ := hc6 (by intro e; rw [e] at hlj; exact absurd hlj (Nat.not_lt_zero j))
      have y0 : wq.cell? ⟨g5, j, none⟩ = some (.int .i64 T[j]) := by
        have := hce5 j hlj
        have hgd : T.getD j 0 = T[j] := by simp [List.getD, hlj]
        rw [hgd] at this
        exact cell_past hbj (cell_lt this) this
      have ht := (HTM.out T[j]).1 (List.getElem_mem hlj)
      obtain ⟨b, hb, hfit⟩ := ht.nat HA.out.qx.good.inv
      have HCL : Hid (∀ W, Below wq.heap.size wq W → Calls Tryz.prog 26 #[.pointer (some ⟨Hx.gr, 0, none⟩)] W fun e w' => e = .returned (.pointer (some ⟨Hx.cl, 0, none⟩)) ∧ W = w') := fun W hW => gCells_any Hx.gr Hx.cl pages 0 Hx.b 0 Hx.p s.l Hx.E W (HAT.out.below' (Below.via hW hszj HBJ.out)).qx.at_.heap.ground
      have HRD : Hid (∀ W, Below wq.heap.size wq W → Calls Tryz.prog 28 #[.pointer (some ⟨Hx.cl, 0, none⟩), .int .i64 T[j], .int .i64 8] W fun e w' => ∃ v, e = .returned (.tuple #[v, .int .i64 0]) ∧ Bytes8 w' W.heap.size Hx.bs b v ∧ Below W.heap.size W w') := fun W hW => by
        rw [hb]
        have hh := (HAT.out.below' (Below.via hW hszj HBJ.out)).qx.at_.heap
        exact read_yes Hx.cl Hx.cb Hx.bs b W hh.cells (by rw [hh.blen]; exact hfit)
      have hval : ∀ k, k < 8 → Hx.bs.getD (b + k) 0 = valE E T[j] := fun k hk => by
        rw [hb]
        rw [hb] at ht
        exact HY.out.at HM.out.nodup ((HM.out.mem _).2 ht) hk
      have HVL := Lib.hid hval
      have HLK : Hid (∀ W, Below wq.heap.size wq W → (Instr.lookup 61 (.map (some mb)) (.int .i64 T[j]) false).run Tryz.prog W = .ok (.int .u8 (valE E T[j])) W) := fun W hW => run_lookup_m und_bmap zero_byte' (HAT.out.map.below (Below.via hW hszj hbj)) T[j]
      have e0 := (HAT.out.below' hbj).qx.at_.cells.1
      have hj1 : (0 : Int) ≤ (j : Int) ∧ (j : Int) < T.length := by omega
      have hjw : IntKind.i64.wrap ((j : Int) + 1) = (j : Int) + 1 := by rw [IntKind.wrap_i64]; omega
      clear hbj hce5 hc6 hval ht hb hfit
      generalize valE E T[j] = vv at *
      generalize T[j] = a at *
      go_upto_region 34 with (fail)
      have hgl := cell_lt y0
      have hxl := cell_lt e0
      refine wp_region_held_drew (S := fun W : World => W.cell? ⟨x, 0, none⟩ = some (.pointer (some ⟨Hx.gr, 0, none⟩)) ∧ W.cell? ⟨g5, j, none⟩ = some (.int .i64 a)) (by kernel_rfl) ?_ (fun hHeld0 => ?_)
      · exact ⟨e0, y0⟩
      (refine wpAnyH_take (i := 0) (v := ?_) rfl (by kernel_rfl) (by kernel_rfl) (by kernel_rfl) (fun _ _ _ h => h) (Or.inl ⟨by rfl, ?_⟩) (by assumption) ?_; rotate_left; focus (intro w hSw; (try dsimp only at hSw); go_simp; first | done | with_reducible rfl); (try simp only [Act.put, List.setIfInBounds_toArray, List.set_cons_zero, List.set_cons_succ, List.getElem_toArray, List.getElem_cons_zero, List.getElem_cons_succ]))
      (refine wpAnyH_take (i := 1) (v := ?_) rfl (by kernel_rfl) (by kernel_rfl) (by kernel_rfl) (fun _ _ _ h => h) (Or.inl ⟨by rfl, ?_⟩) (by assumption) ?_; rotate_left; focus (intro w hSw; (try dsimp only at hSw); go_simp; first | done | with_reducible rfl); (try simp only [Act.put, List.setIfInBounds_toArray, List.set_cons_zero, List.set_cons_succ, List.getElem_toArray, List.getElem_cons_zero, List.getElem_cons_succ]))
      (refine wpAnyH_take (i := 2) (v := ?_) rfl (by kernel_rfl) (by kernel_rfl) (by kernel_rfl) (fun _ _ _ h => h) (Or.inl ⟨by rfl, ?_⟩) (by assumption) ?_; rotate_left; focus (intro w hSw; (try dsimp only at hSw); go_simp; first | done | with_reducible rfl); (try simp only [Act.put, List.setIfInBounds_toArray, List.set_cons_zero, List.set_cons_succ, List.getElem_toArray, List.getElem_cons_zero, List.getElem_cons_succ]))
      (refine wpAnyH_take (i := 3) (v := ?_) rfl (by kernel_rfl) (by kernel_rfl) (by kernel_rfl) (fun _ _ _ h => h) (Or.inl ⟨by rfl, ?_⟩) (by assumption) ?_; rotate_left; focus (intro w hSw; (try dsimp only at hSw); go_simp; first | done | with_reducible rfl); (try simp only [Act.put, List.setIfInBounds_toArray, List.set_cons_zero, List.set_cons_succ, List.getElem_toArray, List.getElem_cons_zero, List.getElem_cons_succ]))
      (refine wpAnyH_take (i := 5) (v := ?_) rfl (by kernel_rfl) (by kernel_rfl) (by kernel_rfl) (fun _ _ _ h => h) (Or.inl ⟨by rfl, ?_⟩) (by assumption) ?_; rotate_left; focus (intro w hSw; (try dsimp only at hSw); go_simp; first | done | with_reducible rfl); (try simp only [Act.put, List.setIfInBounds_toArray, List.set_cons_zero, List.set_cons_succ, List.getElem_toArray, List.getElem_cons_zero, List.getElem_cons_succ]))
      (refine wpAnyH_take (i := 6) (v := ?_) rfl (by kernel_rfl) (by kernel_rfl) (by kernel_rfl) (fun _ _ _ h => h) (Or.inl ⟨by rfl, ?_⟩) (by assumption) ?_; rotate_left; focus (intro w hSw; (try dsimp only at hSw); go_simp; first | done | with_reducible rfl); (try simp only [Act.put, List.setIfInBounds_toArray, List.set_cons_zero, List.set_cons_succ, List.getElem_toArray, List.getElem_cons_zero, List.getElem_cons_succ]))
      (refine wpAnyH_take (i := 7) (v := ?_) rfl (by kernel_rfl) (by kernel_rfl) (by kernel_rfl) (fun _ _ _ h => h) (Or.inl ⟨by rfl, ?_⟩) (by assumption) ?_; rotate_left; focus (intro w hSw; (try dsimp only at hSw); go_simp; first | done | with_reducible rfl); (try simp only [Act.put, List.setIfInBounds_toArray, List.set_cons_zero, List.set_cons_succ, List.getElem_toArray, List.getElem_cons_zero, List.getElem_cons_succ]))
      (refine wpAnyH_take (i := 8) (v := ?_) rfl (by kernel_rfl) (by kernel_rfl) (by kernel_rfl) (fun _ _ _ h => h) (Or.inl ⟨by rfl, ?_⟩) (by assumption) ?_; rotate_left; focus (intro w hSw; (try dsimp only at hSw); go_simp; first | done | with_reducible rfl); (try simp only [Act.put, List.setIfInBounds_toArray, List.set_cons_zero, List.set_cons_succ, List.getElem_toArray, List.getElem_cons_zero, List.getElem_cons_succ]))
      refine wpAnyH_ready (rs := [4]) (by kernel_rfl) (by simp) ?_
      refine AllReadyH.cons rfl (fun K hK => ?_) AllReadyH.nil
      go_simp
      refine (HCL.out wq.drew (Below.drew (Below.refl _ _))).mono ?_
      rintro e w4 ⟨rfl, rfl⟩
      refine hK.out _ _ ⟨e0, y0⟩ (fun hHeld => ?_)
      clear hK K hHeld0
      (try simp only [Act.put, List.setIfInBounds_toArray, List.set_cons_zero, List.set_cons_succ, List.getElem_toArray, List.getElem_cons_zero, List.getElem_cons_succ])
      refine wpAnyH_ready (rs := [9]) (by kernel_rfl) (by simp) ?_
      refine AllReadyH.cons rfl (fun K hK => ?_) AllReadyH.nil
      go_simp
      refine (HRD.out wq.drew (Below.drew (Below.refl _ _))).mono ?_
      rintro e w5 ⟨v, rfl, ⟨g8, c8, rfl, hg8, hc8⟩, hb5⟩
      have k0 := cell_past hb5 hxl e0
      have k1 := cell_past hb5 hgl y0
      have HB5 := Lib.hid (Below.via hb5 (Nat.le_refl _) (Below.drew (Below.refl _ wq)))
      have HC8 := Lib.hid hc8
      refine hK.out _ _ ⟨k0, k1⟩ (fun hHeld => ?_)
      clear hK K hb5 hc8
      (try simp only [Act.put, List.setIfInBounds_toArray, List.set_cons_zero, List.set_cons_succ, List.getElem_toArray, List.getElem_cons_zero, List.getElem_cons_succ])
      (refine wpAnyH_take (i := 10) (v := ?_) rfl (by kernel_rfl) (by kernel_rfl) (by kernel_rfl) (fun _ _ _ h => h) (Or.inl ⟨by rfl, ?_⟩) (by assumption) ?_; rotate_left; focus (intro w hSw; (try dsimp only at hSw); go_simp; first | done | with_reducible rfl); (try simp only [Act.put, List.setIfInBounds_toArray, List.set_cons_zero, List.set_cons_succ, List.getElem_toArray, List.getElem_cons_zero, List.getElem_cons_succ]))
      (refine wpAnyH_take (i := 11) (v := ?_) rfl (by kernel_rfl) (by kernel_rfl) (by kernel_rfl) (fun _ _ _ h => h) (Or.inl ⟨by rfl, ?_⟩) (by assumption) ?_; rotate_left; focus (intro w hSw; (try dsimp only at hSw); go_simp; first | done | with_reducible rfl); (try simp only [Act.put, List.setIfInBounds_toArray, List.set_cons_zero, List.set_cons_succ, List.getElem_toArray, List.getElem_cons_zero, List.getElem_cons_succ]))
      (refine wpAnyH_take (i := 12) (v := ?_) rfl (by kernel_rfl) (by kernel_rfl) (by kernel_rfl) (fun _ _ _ h => h) (Or.inl ⟨by rfl, ?_⟩) (by assumption) ?_; rotate_left; focus (intro w hSw; (try dsimp only at hSw); go_simp; first | done | with_reducible rfl); (try simp only [Act.put, List.setIfInBounds_toArray, List.set_cons_zero, List.set_cons_succ, List.getElem_toArray, List.getElem_cons_zero, List.getElem_cons_succ]))
      (refine wpAnyH_take (i := 13) (v := ?_) rfl (by kernel_rfl) (by kernel_rfl) (by kernel_rfl) (fun _ _ _ h => h) (Or.inl ⟨by rfl, ?_⟩) (by assumption) ?_; rotate_left; focus (intro w hSw; (try dsimp only at hSw); go_simp; first | done | with_reducible rfl); (try simp only [Act.put, List.setIfInBounds_toArray, List.set_cons_zero, List.set_cons_succ, List.getElem_toArray, List.getElem_cons_zero, List.getElem_cons_succ]))
      (refine wpAnyH_take (i := 14) (v := ?_) rfl (by kernel_rfl) (by kernel_rfl) (by kernel_rfl) (fun _ _ _ h => h) (Or.inl ⟨by rfl, ?_⟩) (by assumption) ?_; rotate_left; focus (intro w hSw; (try dsimp only at hSw); go_simp; first | done | with_reducible rfl); (try simp only [Act.put, List.setIfInBounds_toArray, List.set_cons_zero, List.set_cons_succ, List.getElem_toArray, List.getElem_cons_zero, List.getElem_cons_succ]))
      refine wpAnyH_done (by kernel_rfl) ?_ _
      clear hHeld e0 y0
      go_wp2
      go_loopw [22] (fun kv wk => ∃ (k : Nat), k ≤ 8 ∧ kv = .int .i64 k ∧ Below w5.heap.size w5 wk) (fun kv _ => 8 - numOf kv)
      case atStart => exact ⟨0, Nat.zero_le _, rfl, Below.refl _ _⟩
      case round =>
        rename World => wk
        obtain ⟨k, hk, rfl, hbk⟩ := hrel
        have HBK := Lib.hid hbk
        have hszk := hbk.size
        have hs5 := HB5.out.size
        by_cases hlk : k < 8
        · have m0 : wk.cell? ⟨g8, k, none⟩ = some (.int .u8 vv) := by
            have := HC8.out k hlk
            rw [HVL.out k hlk] at this
            exact cell_past hbk (cell_lt this) this
          have m1 := cell_past hbk (cell_lt k1) k1
          have hlk2 : ∀ X, (Instr.lookup 61 (.map (some mb)) (.int .i64 a) false).run Tryz.prog (wk.ext X) = .ok (.int .u8 vv) (wk.ext X) := fun X => HLK.out _ (Below.via (below_ext _ _) (by omega) (Below.via hbk hs5 HB5.out))
          have hk1 : (0 : Int) ≤ (k : Int) ∧ (k : Int) < 8 := by omega
          have hkw : IntKind.i64.wrap ((k : Int) + 1) = (k : Int) + 1 := by rw [IntKind.wrap_i64]; omega
          clear hbk
          go_upto_region 40 with (fail)
          (refine wp_region_quiet_ext (by kernel_rfl) (by kernel_rfl) ?_; (repeat (first | go_big_quiet_step ((fail)) | quiet_step ((fail)))); refine wpQuiet_nil ?_; intro w4 hw4; obtain hb4 := below_of_ext hw4; clear hw4; obtain ⟨hc4, hf4⟩ := bcell hb4; have hz4 := hb4.size; (try simp at hz4))
          have HB6 := Lib.hid (Below.via hb4 hszk HBK.out)
          clear hc4 hf4 hb4 hz4 hlk2
          go_wp2
          go_roundw
          case rel => exact ⟨k + 1, hlk, by go_num, HB6.out⟩
          case measure => simp [numOf]; omega
        · obtain rfl : k = 8 := by omega
          have HB7 := Lib.hid (Below.via (Below.via hbk hs5 HB5.out) hszj HBJ.out)
          clear hbk
          go_wp2
          go_roundw
          case rel => exact ⟨j + 1, hlj, by go_num, HB7.out⟩
          case measure => simp [numOf]; omega
    · obtain rfl : j = T.length := by omega
      have hlen : ∀ ty, (Builtin.len_ #[61] ty #[.map (some mb)]).run Tryz.prog wq = .ok (.int .i64 T.length) wq := fun ty => by
        have := run_len_m und_bmap (HAT.out.map.below hbj) ty
        rw [HLEN.out] at this
        exact this
      have e1 := (HAT.out.below' hbj).qy.cx
      have HTY := Lib.hid (HTKY.out wq hbj)
      have HI1 := Lib.hid ((HIN.out.below (HBJ.out)))
      clear hbj
      go_wp2_with (fail)
      refine HTY.out.mono ?_
      rintro e w6 ⟨v6, rfl, hi6, hb6⟩
      obtain ⟨p6, c6, rfl, hi7⟩ := hi6.at
      obtain ⟨p8, c8, hv8, hi8⟩ := (HI1.out.below hb6).at
      cases hv8
      have HSI := Lib.hid (sameInts_any w6 pt p6 ct c6 T T hi8 hi7 (by omega))
      have HEB : Hid (Below w.heap.size w w6) := HB1.out.trans (((HAT.out.below' HBJ.out).below' hb6).qx.below.mono HB1.out.size)
      simp only [decide_true] at HSI
      clear hi6 hb6 hi7 hi8
      go_wp2_with (fail)
      refine HSI.out.mono ?_
      rintro e w7 ⟨rfl, hb7⟩
      have HEB7 : Hid (Below w.heap.size w w7) := Below.via hb7 HEB.out.size HEB.out
      clear hb7
      go_wp2
      go_ret
      exact ⟨rfl, HEB7.out⟩

end Go.Proofs.YtlljejmblmjjnaaGreat
