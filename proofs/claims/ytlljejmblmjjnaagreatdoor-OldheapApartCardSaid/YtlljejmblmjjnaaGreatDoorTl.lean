/- OldheapApart: the code behind its first loop. -/
import Derived.Test.YtlljejmblmjjnaaGreatDoorTB
import Derived.WalkKit
import Derived.WalkSpells
import Derived.WalkLawsBesides
import Derived.BigQuiet
import Derived.Lib.Hide
namespace Go.Proofs.YtlljejmblmjjnaaGreatDoor
set_option linter.unusedVariables false
set_option linter.unusedSimpArgs false
open Go.RowKit Go.ChangeMaps

/-- The code behind the law's first loop. -/
def seqAt (n : Nat) : Code → Option Code
  | .seq (.region id l d) b => if id = n then some (.seq (.region id l d) b) else seqAt n b
  | .seq a b => match seqAt n a with
    | some c => some c
    | none => seqAt n b
  | .loop c => seqAt n c
  | .block _ c => seqAt n c
  | .scope c => seqAt n c
  | .cond _ a b => match seqAt n a with
    | some c => some c
    | none => seqAt n b
  | _ => none
noncomputable def apartEnd : Code := (Tryz.f3.body.bind (seqAt 28)).getD .skip

set_option maxRecDepth 100000 in
set_option maxHeartbeats 80000000 in
theorem apart_end {t1 t2 t3 t4 t6 t8 t9 t10 t11 t12 t13 t14 t15 t16 t17 t18 t19 t20 t21 t22 t23 t24 t25 t26 t27 t28 t29 t30 t31 t32 t33 t34 t35 t36 t37 t38 t39 t40 t41 t42 t43 t44 t45 t46 t47 t48 t49 t50 t51 t52 t53 t54 t55 t56 t57 t58 t59 t60 t61 t62 t63 t64 t65 t66 t67 t68 t69 t70 t71 t72 t73 t74 t75 t76 t77 t78 t79 t80 t81 t82 t83 t84 t85 t86 t87 t88 t89 t90 t91 t92 t93 t94 t95 t96 t97 t98 t99 t100 t101 t102 t103 t104 t105 t106 t107 t108 t109 t110 t111 t112 t113 t114 t115 t116 t117 t118 t119 t120 t121 t122 t123 t124 t125 t126 t127 t128 t129 t130 t131 t132 t133 t134 t135 t136 t137 t138 t139 t140 t141 t142 t143 t144 t145 t146 t147 t148 t149 t150 t151 t152 t153 t154 t155 t156 t157 t158 t159 t160 t161 t162 t163 t164 t165 t166 t167 t168 t169 t170 t171 t172 t173 t174 t175 t176 t177 t178 t179 t180 t181 t182 t183 t184 t185 t186 t187 t188 t189 t190 t191 t192 t193 t194 t195 t196 t197 t198 t199 t200 t201 t202 t203 t204 t205 t206 t207 t208 t209 t210 t211 t212 : Value} {n : Int} {pages : Nat} (hn : n = pages) (hp40 : pages ≤ 60) {w w1 wr : World} {x mb : Nat} {H1 : OHL} {s : OP} {E : List ME} (hB1 : Below w.heap.size w w1) (hA : ApartI w1 wr x (.slice none 0 0) H1 pages s mb (Value.int .i64) E) (hM : MapOk s E) (hS : SizesOk s E) :
    Code.wp Tryz.prog apartEnd (bodyPost Tryz.prog Tryz.f3 fun e w' => e = .returned (.bool true) ∧ Below w.heap.size w w') ⟨#[.int .i64 n, t1, t2, t3, t4, .pointer (some ⟨x, 0, none⟩), t6, .map (some mb), t8, t9, t10, t11, t12, t13, t14, t15, t16, t17, t18, t19, t20, t21, t22, t23, t24, t25, t26, t27, t28, t29, t30, t31, t32, t33, t34, t35, t36, t37, t38, t39, t40, t41, t42, t43, t44, t45, t46, t47, t48, t49, t50, t51, t52, t53, t54, t55, t56, t57, t58, t59, t60, t61, t62, t63, t64, t65, t66, t67, t68, t69, t70, t71, t72, t73, t74, t75, t76, t77, t78, t79, t80, t81, t82, t83, t84, t85, t86, t87, t88, t89, t90, t91, t92, t93, t94, t95, t96, t97, t98, t99, t100, t101, t102, t103, t104, t105, t106, t107, t108, t109, t110, t111, t112, t113, t114, t115, t116, t117, t118, t119, t120, t121, t122, t123, t124, t125, t126, t127, t128, t129, t130, t131, t132, t133, t134, t135, t136, t137, t138, t139, t140, t141, t142, t143, t144, t145, t146, t147, t148, t149, t150, t151, t152, t153, t154, t155, t156, t157, t158, t159, t160, t161, t162, t163, t164, t165, t166, t167, t168, t169, t170, t171, t172, t173, t174, t175, t176, t177, t178, t179, t180, t181, t182, t183, t184, t185, t186, t187, t188, t189, t190, t191, t192, t193, t194, t195, t196, t197, t198, t199, t200, t201, t202, t203, t204, t205, t206, t207, t208, t209, t210, t211, t212], []⟩ wr := by
  have HA := Lib.hid hA
  have HM := Lib.hid hM
  have HS := Lib.hid hS
  have HNP := Lib.hid hn
  have HB1 := Lib.hid hB1
  clear hn hB1
  conv => arg 2; whnf
  have HTK := Lib.hid (htakenO_any hA.q.at_.heap)
  have htb := taken_bound hA.q
  have e1 := hA.q.cx
  clear hA hM hS
  go_wp2_with (fail)
  refine HTK.out.mono ?_
  rintro e wt ⟨vt, rfl, hints, hbt⟩
  have HIN := Lib.hid hints
  obtain ⟨pt, ct, rfl, -⟩ := hints
  have HAT := Lib.hid (HA.out.below' hbt)
  have HTM : Hid (∀ a, a ∈ takenOP s.A ↔ TknO s.A a) := fun a => takenOP_mem
  have HSRT := Lib.hid (takenOP_srt HA.out.q.good.inv)
  have HLEN : Hid (E.length = (takenOP s.A).length) := HM.out.length HA.out.q.good.inv
  clear hbt e1
  generalize takenOP s.A = T at *
  go_wp2
  go_loopw [16] (fun iv wq => ∃ (j : Nat), j ≤ T.length ∧ iv = .int .i64 j ∧ Below wt.heap.size wt wq) (fun iv _ => T.length - numOf iv)
  case atStart => exact ⟨0, Nat.zero_le _, rfl, Below.refl _ _⟩
  case round =>
    rename World => wq
    obtain ⟨j, hj, rfl, hbj⟩ := hrel
    have HBJ := Lib.hid hbj
    have hszj := hbj.size
    by_cases hlj : j < T.length
    · obtain ⟨p6, c6, hv6, hc6⟩ := HIN.out
      cases hv6
      obtain ⟨g5, rfl, hg5, hce5⟩ := hc6 (by intro e; rw [e] at hlj; exact absurd hlj (Nat.not_lt_zero j))
      have hgt : ∀ i (hi : i < T.length), wq.cell? ⟨g5, i, none⟩ = some (.int .i64 T[i]) := fun i hi => by
        have := hce5 i hi
        have hgd : T.getD i 0 = T[i] := by simp [List.getD, hi]
        rw [hgd] at this
        exact cell_past hbj (cell_lt this) this
      have y0 := hgt j hlj
      obtain ⟨b0, b1, b2, b3, b4⟩ := HM.out.apart HA.out.q.good.inv HS.out ((HTM.out T[j]).1 (List.getElem_mem hlj))
      have hlk : ∀ X, (Instr.lookup 29 (.map (some mb)) (.int .i64 T[j]) false).run Tryz.prog (wq.ext X) = .ok (.int .i64 (valE E T[j])) (wq.ext X) := fun X => run_lookup_m und_imap zero_int' (HAT.out.map.below (Below.via (below_ext _ _) hszj hbj)) T[j]
      have hj1 : (0 : Int) ≤ (j : Int) ∧ (j : Int) < T.length := by omega
      have hjw : IntKind.i64.wrap ((j : Int) + 1) = (j : Int) + 1 := by rw [IntKind.wrap_i64]; omega
      have hvz : ¬ valE E T[j] = 0 := by omega
      have hvb : (valE E T[j] == 0) = false := by simpa using hvz
      have hnw : IntKind.i64.wrap (256 * n) = 256 * n := by rw [HNP.out]; exact wraps_i64 _ (by omega) (by omega)
      have haw : IntKind.i64.wrap (T[j] + valE E T[j]) = T[j] + valE E T[j] := wraps_i64 _ (by omega) (by omega)
      have hle : ¬ 256 * n < T[j] + valE E T[j] := by rw [HNP.out]; omega
      by_cases hj0 : j = 0
      · subst hj0
        clear hbj hce5 hc6 hgt
        generalize valE E T[0] = v at *
        generalize T[0] = a at *
        go_upto_region 32 with (fail)
        (refine wp_region_quiet_ext (by kernel_rfl) (by kernel_rfl) ?_; (repeat (first | go_big_quiet_step ((fail)) | quiet_step ((fail)))); refine wpQuiet_nil ?_; intro w4 hw4; obtain hb4 := below_of_ext hw4; clear hw4; obtain ⟨hc4, hf4⟩ := bcell hb4; have hz4 := hb4.size; (try simp at hz4))
        have HB6 := Lib.hid (Below.via hb4 hszj HBJ.out)
        clear hc4 hf4 hb4 hz4 hlk
        go_wp2
        go_roundw
        case rel => exact ⟨0 + 1, hlj, by go_num, HB6.out⟩
        case measure => simp [numOf]; omega
      · have hjl : j - 1 < T.length := by omega
        have y1 := hgt (j - 1) hjl
        have hlt := (List.pairwise_iff_getElem.1 HSRT.out) (j - 1) j hjl hlj (by omega)
        obtain ⟨d0, d1, d2, d3, d4⟩ := HM.out.apart HA.out.q.good.inv HS.out ((HTM.out T[j - 1]).1 (List.getElem_mem hjl))
        have hlk2 : ∀ X, (Instr.lookup 29 (.map (some mb)) (.int .i64 T[j - 1]) false).run Tryz.prog (wq.ext X) = .ok (.int .i64 (valE E T[j - 1])) (wq.ext X) := fun X => run_lookup_m und_imap zero_int' (HAT.out.map.below (Below.via (below_ext _ _) hszj hbj)) T[j - 1]
        have hsep := d4 _ ((HTM.out T[j]).1 (List.getElem_mem hlj)) hlt
        have haw2 : IntKind.i64.wrap (T[j - 1] + valE E T[j - 1]) = T[j - 1] + valE E T[j - 1] := wraps_i64 _ (by omega) (by omega)
        have hsep2 : ¬ T[j] < T[j - 1] + valE E T[j - 1] := by omega
        have hjp : (0 : Int) < (j : Int) := by omega
        have hjp2 : 0 < j := by omega
        have hjm : IntKind.i64.wrap ((j : Int) - 1) = ((j - 1 : Nat) : Int) := by rw [wraps_i64 _ (by omega) (by omega)]; omega
        have hjl2 : (((j - 1 : Nat) : Int)) < T.length := by omega
        clear hbj hce5 hc6 hgt hlt d4 b4
        generalize valE E T[j] = v at *
        generalize T[j] = a at *
        generalize valE E T[j - 1] = v' at *
        generalize T[j - 1] = a' at *
        generalize j - 1 = j' at *
        go_upto_region 32 with (fail)
        (refine wp_region_quiet_ext (by kernel_rfl) (by kernel_rfl) ?_; (repeat (first | go_big_quiet_step ((fail)) | quiet_step ((fail)))); refine wpQuiet_nil ?_; intro w4 hw4; obtain hb4 := below_of_ext hw4; clear hw4; obtain ⟨hc4, hf4⟩ := bcell hb4; have hz4 := hb4.size; (try simp at hz4))
        have HB6 := Lib.hid (Below.via hb4 hszj HBJ.out)
        clear hc4 hf4 hb4 hz4 hlk hlk2
        go_wp2
        go_roundw
        case rel => exact ⟨j + 1, hlj, by go_num, HB6.out⟩
        case measure => simp [numOf]; omega
    · obtain rfl : j = T.length := by omega
      have hlen : ∀ ty, (Builtin.len_ #[29] ty #[.map (some mb)]).run Tryz.prog wq = .ok (.int .i64 T.length) wq := fun ty => by
        have := run_len_m und_imap (HAT.out.map.below hbj) ty
        rw [HLEN.out] at this
        exact this
      have HEB : Hid (Below w.heap.size w wq) := HB1.out.trans ((HAT.out.below' hbj).q.below.mono HB1.out.size)
      clear hbj
      go_wp2
      go_ret
      exact ⟨rfl, HEB.out⟩


end Go.Proofs.YtlljejmblmjjnaaGreatDoor
