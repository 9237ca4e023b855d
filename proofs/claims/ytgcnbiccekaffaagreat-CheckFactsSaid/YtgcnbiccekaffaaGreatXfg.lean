/- place, as the reference has it. -/
import Derived.Test.YtgcnbiccekaffaaGreatXe
namespace Go.Proofs.YtgcnbiccekaffaaGreat
open Go.RowKit Go.ChangeMaps

def placeR (A : AM) (at_ n size align : Int) : Bool := decide (size ≤ n) && (at_.tmod 8 == 0 && (at_.tmod align == 0 && apartB A at_ n))

theorem placeB_eq (A : AM) (err at_ n count : Int) (l : Nat) (size align : Int) : placeB A err at_ n count l size align = (placedB err count l && placeR A at_ n size align) := by
  unfold placeB placedB placeR
  cases err == 0 <;> cases count == 0 <;> cases (l : Int) == 0 <;> rfl

theorem place_no {A : AM} {at_ n size align : Int} (h : ¬ (size ≤ n ∧ at_.tmod 8 = 0 ∧ at_.tmod align = 0 ∧ 0 ≤ at_ ∧ 1 ≤ n ∧ at_ ≤ A.bytes ∧ n ≤ A.bytes - at_)) : placeR A at_ n size align = false := by
  rw [Bool.eq_false_iff]
  intro hh
  unfold placeR apartB inB at hh
  simp only [Bool.and_eq_true, decide_eq_true_eq, beq_iff_eq] at hh
  exact h ⟨hh.1, hh.2.1, hh.2.2.1, of_decide_eq_true hh.2.2.2.1⟩

theorem place_all {A : AM} {at_ n size align : Int} (h : size ≤ n ∧ at_.tmod 8 = 0 ∧ at_.tmod align = 0 ∧ 0 ≤ at_ ∧ 1 ≤ n ∧ at_ ≤ A.bytes ∧ n ≤ A.bytes - at_) : placeR A at_ n size align = A.blocks.all fun b => !meetB at_ n b := by
  obtain ⟨h1, h2, h3, h4⟩ := h
  unfold placeR apartB inB
  rw [decide_eq_true h1, h2, h3, decide_eq_true h4]
  rfl

set_option maxRecDepth 100000 in
set_option maxHeartbeats 1500000 in
theorem placeR_any {F : Nat → Prop} {w : World} {m : Nat} {A : AM} (h : RefX F w m A) (hI : Inv A) (at_ n size align : Int) (ha : 1 ≤ align) (ha2 : align ≤ 4096) :
    Calls Tryz.prog 51 #[.pointer (some ⟨m, 0, none⟩), .int .i64 at_, .int .i64 n, .int .i64 size, .int .i64 align] w fun e w' => e = .returned (.bool (placeR A at_ n size align)) ∧ Below w.heap.size w w' := by
  obtain ⟨vb, gy, cy, bs, h⟩ := h
  obtain ⟨pb, cb, rfl, hrows⟩ := rowsAt_own h.rows
  have c0 : w.cell? ⟨m, 0, none⟩ = some (.slice pb A.blocks.length cb) := by rw [cell_of_block h.model]; rfl
  have c1 : w.cell? ⟨m, 1, none⟩ = some (.slice (some ⟨gy, 0, none⟩) bs.length cy) := by rw [cell_of_block h.model]; rfl
  have hbl := h.of.1
  have hb1 := hI.b1
  have HR := Lib.hid hrows
  have HI := Lib.hid hI
  clear h hrows hI
  have hal : align ≠ 0 := by omega
  have hal' : (align == 0) = false := by simpa using hal
  have hcom : (bs.length : Int) = A.bytes := hbl
  clear hbl
  by_cases t1 : n < max size 1
  · (have HF := Lib.hid (place_no (A := A) (at_ := at_) (n := n) (size := size) (align := align) (by omega)); clear hcom; go_enter Tryz.func51, Tryz.ntmps51; go_wp2; go_ret; exact ⟨(by rw [HF.out]; rfl), Below.refl _ _⟩)
  · by_cases t2 : at_ < 0
    · (have HF := Lib.hid (place_no (A := A) (at_ := at_) (n := n) (size := size) (align := align) (by omega)); clear hcom; go_enter Tryz.func51, Tryz.ntmps51; go_wp2; go_ret; exact ⟨(by rw [HF.out]; rfl), Below.refl _ _⟩)
    · have e8 : at_.tmod 8 = at_ % 8 := Int.tmod_eq_emod_of_nonneg (by omega)
      have eal : at_.tmod align = at_ % align := Int.tmod_eq_emod_of_nonneg (by omega)
      by_cases t3 : at_ % 8 = 0
      · by_cases t4 : at_ % align = 0
        · have t3' : (at_ % 8 != 0) = false := by simpa using t3
          have t4' : (at_ % align != 0) = false := by simpa using t4
          by_cases t5 : (bs.length : Int) < at_
          · have HF := Lib.hid (place_no (A := A) (at_ := at_) (n := n) (size := size) (align := align) (by omega))
            clear hcom e8 eal t3 t4
            (go_enter Tryz.func51, Tryz.ntmps51; go_wp2; go_ret; exact ⟨(by rw [HF.out]; rfl), Below.refl _ _⟩)
          · have hsub : IntKind.i64.wrap ((bs.length : Int) - at_) = (bs.length : Int) - at_ := by rw [IntKind.wrap_i64]; omega
            by_cases t6 : (bs.length : Int) - at_ < n
            · have HF := Lib.hid (place_no (A := A) (at_ := at_) (n := n) (size := size) (align := align) (by omega))
              clear hcom e8 eal t3 t4
              (go_enter Tryz.func51, Tryz.ntmps51; go_wp2; go_ret; exact ⟨(by rw [HF.out]; rfl), Below.refl _ _⟩)
            · have HA := Lib.hid (place_all (A := A) (at_ := at_) (n := n) (size := size) (align := align) (by rw [e8, eal]; omega))
              have hr : at_ + n ≤ 1048576 ∧ 0 ≤ at_ := by omega
              clear hcom e8 eal t3 t4
              go_enter Tryz.func51, Tryz.ntmps51
              go_wp2
              go_loopw [11] (fun i wr => ∃ k : Nat, k ≤ A.blocks.length ∧ i = .int .i64 k ∧ Below w.heap.size w wr ∧ (A.blocks.take k).all (fun b => !meetB at_ n b) = true) (fun i _ => A.blocks.length - (intOf i).toNat)
              case atStart => exact ⟨0, Nat.zero_le _, rfl, Below.refl _ _, rfl⟩
              case round =>
                obtain ⟨k, hk, rfl, hbl, hall⟩ := hrel
                have d0 := cell_past hbl (cell_lt c0) c0
                have HBL := Lib.hid hbl
                by_cases hlt : k < A.blocks.length
                · obtain ⟨g, hg, y0, y1, y2⟩ := (HR.out.below hbl) k hlt
                  subst hg
                  have hlo := HI.out.lo _ (List.getElem_mem hlt)
                  have hnx : meetB at_ n A.blocks[k] = false → (A.blocks.take (k + 1)).all (fun b => !meetB at_ n b) = true := fun hm => by
                    rw [List.take_succ_eq_append_getElem hlt, List.all_append, hall]
                    simp [hm]
                  have hbad : meetB at_ n A.blocks[k] = true → placeR A at_ n size align = false := fun hm => by
                    rw [HA.out, Bool.eq_false_iff]
                    intro hh
                    have := List.all_eq_true.1 hh _ (List.getElem_mem hlt)
                    rw [hm] at this
                    cases this
                  have HN := Lib.hid hnx
                  have HBAD := Lib.hid hbad
                  have hi1 : (0 : Int) ≤ k ∧ (k : Int) < A.blocks.length := by omega
                  have hkw : IntKind.i64.wrap ((k : Int) + 1) = (k : Int) + 1 := by rw [IntKind.wrap_i64]; have := HI.out.count; omega
                  clear hnx hbad hall hbl y2
                  generalize A.blocks[k] = b at *
                  have hw1 : IntKind.i64.wrap (b.at_ + b.n) = b.at_ + b.n := by rw [IntKind.wrap_i64]; omega
                  have hw2 : IntKind.i64.wrap (at_ + n) = at_ + n := by rw [IntKind.wrap_i64]; omega
                  have hmd : Hid (meetB at_ n b = decide (at_ < b.at_ + b.n ∧ b.at_ < at_ + n)) := rfl
                  clear hlo
                  by_cases m1 : at_ < b.at_ + b.n
                  · by_cases m2 : b.at_ < at_ + n
                    · have HF := Lib.hid (HBAD.out (by rw [hmd.out]; exact decide_eq_true ⟨m1, m2⟩))
                      clear HN HBAD
                      go_wp2
                      (refine wp_region_quiet_ext (by kernel_rfl) (by kernel_rfl) ?_; (repeat (first | go_big_quiet_step ((fail)) | quiet_step ((fail)))); refine wpQuiet_nil ?_; intro w1 hw1; obtain hb := below_of_ext hw1; clear hw1; obtain ⟨hc, hf⟩ := bcell hb; have hz := hb.size; (try simp at hz))
                      have HBq := Lib.hid hb
                      clear hb hc hf
                      go_wp2
                      go_ret
                      exact ⟨(by rw [HF.out]; rfl), HBL.out.trans (HBq.out.mono HBL.out.size)⟩
                    · have HF := Lib.hid (HN.out (by rw [hmd.out]; exact decide_eq_false (fun h => m2 h.2)))
                      clear HN HBAD
                      go_wp2
                      (refine wp_region_quiet_ext (by kernel_rfl) (by kernel_rfl) ?_; (repeat (first | go_big_quiet_step ((fail)) | quiet_step ((fail)))); refine wpQuiet_nil ?_; intro w1 hw1; obtain hb := below_of_ext hw1; clear hw1; obtain ⟨hc, hf⟩ := bcell hb; have hz := hb.size; (try simp at hz))
                      have HBq := Lib.hid hb
                      clear hb hc hf
                      go_wp2
                      go_roundw
                      case rel => exact ⟨k + 1, by omega, by go_num, HBL.out.trans (HBq.out.mono HBL.out.size), HF.out⟩
                      case measure => simp [intOf]; omega
                  · have HF := Lib.hid (HN.out (by rw [hmd.out]; exact decide_eq_false (fun h => m1 h.1)))
                    have m1' : decide (at_ < b.at_ + b.n) = false := decide_eq_false m1
                    clear HN HBAD
                    go_wp2
                    (refine wp_region_quiet_ext (by kernel_rfl) (by kernel_rfl) ?_; (repeat (first | go_big_quiet_step ((fail)) | quiet_step ((fail)))); refine wpQuiet_nil ?_; intro w1 hw1; obtain hb := below_of_ext hw1; clear hw1; obtain ⟨hc, hf⟩ := bcell hb; have hz := hb.size; (try simp at hz))
                    have HBq := Lib.hid hb
                    clear hb hc hf
                    go_wp2
                    go_roundw
                    case rel => exact ⟨k + 1, by omega, by go_num, HBL.out.trans (HBq.out.mono HBL.out.size), HF.out⟩
                    case measure => simp [intOf]; omega
                · obtain rfl : k = A.blocks.length := by omega
                  rw [List.take_length, ← HA.out] at hall
                  have HALL := Lib.hid hall
                  clear hall hbl
                  go_wp2
                  go_ret
                  exact ⟨(by rw [HALL.out]; rfl), HBL.out⟩
        · have HF := Lib.hid (place_no (A := A) (at_ := at_) (n := n) (size := size) (align := align) (by rw [eal]; exact fun h => t4 h.2.2.1))
          have t3' : (at_ % 8 != 0) = false := by simpa using t3
          have t4' : (at_ % align != 0) = true := by simpa using t4
          clear hcom e8 eal t3 t4
          (go_enter Tryz.func51, Tryz.ntmps51; go_wp2; go_ret; exact ⟨(by rw [HF.out]; rfl), Below.refl _ _⟩)
      · have HF := Lib.hid (place_no (A := A) (at_ := at_) (n := n) (size := size) (align := align) (by rw [e8]; exact fun h => t3 h.2.1))
        have t3' : (at_ % 8 != 0) = true := by simpa using t3
        clear hcom e8 eal t3
        (go_enter Tryz.func51, Tryz.ntmps51; go_wp2; go_ret; exact ⟨(by rw [HF.out]; rfl), Below.refl _ _⟩)

end Go.Proofs.YtgcnbiccekaffaaGreat

/- The reference's lay: lists. -/
namespace Go.Proofs.YtgcnbiccekaffaaGreat
open Go.RowKit Go.ChangeMaps

/-- n places from a on hold v. -/
def setR (bs : List Int) (a n : Nat) (v : Int) : List Int := bs.take a ++ (List.replicate n v ++ bs.drop (a + n))

theorem setR_zero (bs : List Int) (a : Nat) (v : Int) : setR bs a 0 v = bs := by simp [setR]

theorem setR_get (bs : List Int) (a n : Nat) (v : Int) (h : a + n ≤ bs.length) (k : Nat) : (setR bs a n v)[k]? = if a ≤ k ∧ k < a + n then some v else bs[k]? := by
  unfold setR
  have hl : (bs.take a).length = a := by rw [List.length_take]; omega
  by_cases h1 : k < a
  · rw [List.getElem?_append_left (by omega), List.getElem?_take, if_pos h1, if_neg (by omega)]
  · rw [List.getElem?_append_right (by omega), hl]
    by_cases h2 : k < a + n
    · rw [List.getElem?_append_left (by rw [List.length_replicate]; omega), if_pos ⟨by omega, h2⟩, List.getElem?_replicate, if_pos (by omega)]
    · rw [List.getElem?_append_right (by rw [List.length_replicate]; omega), List.length_replicate, if_neg (by omega), List.getElem?_drop]
      congr 1
      omega

theorem setR_length (bs : List Int) (a n : Nat) (v : Int) (h : a + n ≤ bs.length) : (setR bs a n v).length = bs.length := by
  simp only [setR, List.length_append, List.length_take, List.length_replicate, List.length_drop]
  omega

theorem setR_succ (bs : List Int) (a k : Nat) (v : Int) (h : a + k < bs.length) : (setR bs a k v).set (a + k) v = setR bs a (k + 1) v := by
  apply List.ext_getElem?
  intro i
  rw [setR_get bs a (k + 1) v (by omega), List.getElem?_set, setR_get bs a k v (by omega), setR_length bs a k v (by omega)]
  by_cases h1 : a + k = i
  · subst h1
    rw [if_pos rfl, if_pos h, if_pos (by omega)]
  · rw [if_neg h1]
    by_cases h2 : a ≤ i ∧ i < a + k
    · rw [if_pos h2, if_pos (by omega)]
    · rw [if_neg h2, if_neg (by omega)]

theorem insB_before {b : Blk} {p q : List Blk} (h : ∀ x ∈ p, ¬ b.at_ < x.at_) : insB b (p ++ q) = p ++ insB b q := by
  induction p with
  | nil => rfl
  | cons x p ih =>
    rw [List.cons_append, insB, if_neg (h x (by simp)), ih (fun y hy => h y (by simp [hy]))]
    rfl

/-- Between two rounds of lay: what has been laid out so far. -/
def LayOut (b : Blk) (l : List Blk) (k : Nat) (done : Bool) (out : List Blk) : Prop :=
  if done = true then out ++ l.drop k = insB b l else out = l.take k ∧ ∀ x ∈ l.take k, ¬ b.at_ < x.at_

theorem layOut_zero (b : Blk) (l : List Blk) : LayOut b l 0 false [] := by
  unfold LayOut
  rw [if_neg (by decide)]
  exact ⟨rfl, fun x hx => absurd hx List.not_mem_nil⟩

theorem layOut_insert {b : Blk} {l : List Blk} {k : Nat} {out : List Blk} (h : LayOut b l k false out) (hk : k < l.length) (hb : b.at_ < l[k].at_) : LayOut b l (k + 1) true (out ++ [b] ++ [l[k]]) := by
  unfold LayOut at h ⊢
  rw [if_neg (by decide)] at h
  rw [if_pos rfl]
  obtain ⟨h1, h2⟩ := h
  have e : l = l.take k ++ l[k] :: l.drop (k + 1) := by simp
  have e2 : insB b l = l.take k ++ insB b (l[k] :: l.drop (k + 1)) := by
    rw [← insB_before h2, ← e]
  rw [e2, insB, if_pos hb, h1]
  simp

theorem layOut_keep {b : Blk} {l : List Blk} {k : Nat} {out : List Blk} (h : LayOut b l k false out) (hk : k < l.length) (hb : ¬ b.at_ < l[k].at_) : LayOut b l (k + 1) false (out ++ [l[k]]) := by
  unfold LayOut at h ⊢
  rw [if_neg (by decide)] at h ⊢
  obtain ⟨h1, h2⟩ := h
  rw [List.take_succ_eq_append_getElem hk]
  refine ⟨by rw [h1], fun x hx => ?_⟩
  rcases List.mem_append.1 hx with hx | hx
  · exact h2 x hx
  · obtain rfl : x = l[k] := by simpa using hx
    exact hb

theorem layOut_next {b : Blk} {l : List Blk} {k : Nat} {out : List Blk} (h : LayOut b l k true out) (hk : k < l.length) : LayOut b l (k + 1) true (out ++ [l[k]]) := by
  unfold LayOut at h ⊢
  rw [if_pos rfl] at h ⊢
  rw [← h, List.append_assoc]
  congr 1
  rw [List.drop_eq_getElem_cons hk]
  rfl

theorem layOut_end {b : Blk} {l : List Blk} {done : Bool} {out : List Blk} (h : LayOut b l l.length done out) : (if done = true then out else out ++ [b]) = insB b l := by
  unfold LayOut at h
  cases done
  · rw [if_neg (by decide)] at h ⊢
    obtain ⟨h1, h2⟩ := h
    rw [List.take_length] at h1 h2
    have := insB_before (q := []) h2
    rw [List.append_nil] at this
    rw [this, h1]
    rfl
  · rw [if_pos rfl] at h ⊢
    rw [List.drop_length, List.append_nil] at h
    exact h

theorem bytes_lay {A : AM} {bs : List Int} {at_ s v : Int} {n : Nat} {cs : List (Option Int)} (hB : BytesOf A bs) (h0 : 0 ≤ at_) (hfit : at_ + n ≤ A.bytes) (hap : ∀ b ∈ A.blocks, meetB at_ n b = false) (hlo : ∀ b ∈ A.blocks, 0 ≤ b.at_)
    (hc : ∀ k, k < n → codeB (cs.getD k none) = v) : BytesOf (applyC A (.lay ⟨at_, n, s, cs⟩)) (setR bs at_.toNat n v) := by
  obtain ⟨hlen, hbs⟩ := hB
  have hfit2 : at_.toNat + n ≤ bs.length := by omega
  refine ⟨by rw [setR_length _ _ _ _ hfit2]; exact hlen, fun b hb k hk => ?_⟩
  have hb' : b ∈ insB ⟨at_, n, s, cs⟩ A.blocks := hb
  rw [List.getD_eq_getElem?_getD, setR_get _ _ _ _ hfit2]
  rcases mem_insB.1 hb' with rfl | hb'
  · have hk' : k < n := hk
    rw [if_pos (show at_.toNat ≤ at_.toNat + k ∧ at_.toNat + k < at_.toNat + n from ⟨by omega, by omega⟩)]
    exact (hc k hk').symm
  · have hm := hap b hb'
    have hl := hlo b hb'
    unfold meetB at hm
    have hm' := of_decide_eq_false hm
    rw [if_neg (by omega), ← List.getD_eq_getElem?_getD]
    exact hbs b hb' k hk

end Go.Proofs.YtgcnbiccekaffaaGreat
