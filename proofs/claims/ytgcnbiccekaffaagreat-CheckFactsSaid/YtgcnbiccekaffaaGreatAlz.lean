/- The pure values of alive. -/
import Derived.Test.YtgcnbiccekaffaaGreatY
import Derived.Test.YtgcnbiccekaffaaGreatGr
import Derived.Great.Walk
namespace Go.Proofs.YtgcnbiccekaffaaGreat
open Go.RowKit Go.ChangeMaps

def al0 : AM := ⟨64, []⟩
def alOp : OpA := ⟨0, 8, 0, 0, 0, 0, []⟩
def alX (at_ n : Int) (d : List Int) : AnsA := ⟨0, at_, n, 0, d⟩
def alRd : OpA := ⟨6, 0, 0, 0, 0, 1, []⟩
def alRe : OpA := ⟨3, 20, 0, 0, 0, 0, []⟩
def alBad : OpA := ⟨9, 0, 0, 0, 0, 0, []⟩
def al1 : AM := ⟨64, [⟨0, 16, 8, List.replicate 16 none⟩]⟩
def al3 : AM := ⟨64, [⟨0, 16, 8, some 7 :: List.replicate 15 none⟩]⟩
def al5 : AM := ⟨64, [⟨40, 24, 20, some 7 :: List.replicate 23 none⟩]⟩

theorem al_e1 : takeE al0 alOp (alX 0 16 []) = 0 := by kernel_rfl
theorem al_a1 : takeA al0 alOp (alX 0 16 []) = al1 := by kernel_rfl
theorem al_e2 : takeE al1 alOp (alX 8 16 []) = 20 := by kernel_rfl
theorem al_a2 : takeA al1 alOp (alX 8 16 []) = al1 := by kernel_rfl
theorem al_m : mayB al1 alOp (alX 16 16 []) = true := by kernel_rfl
theorem al_e3 : takeE al1 alRd (alX 0 0 [7]) = 0 := by kernel_rfl
theorem al_a3 : takeA al1 alRd (alX 0 0 [7]) = al3 := by kernel_rfl
theorem al_e4 : takeE al3 alRd (alX 0 0 [8]) = 20 := by kernel_rfl
theorem al_a4 : takeA al3 alRd (alX 0 0 [8]) = al3 := by kernel_rfl
theorem al_k0 : knownA al3 0 0 = some 7 := by kernel_rfl
theorem al_k1 : knownA al3 0 1 = none := by kernel_rfl
theorem al_e5 : takeE al3 alRe (alX 40 24 []) = 0 := by kernel_rfl
theorem al_a5 : takeA al3 alRe (alX 40 24 []) = al5 := by kernel_rfl
theorem al_k5 : knownA al5 40 0 = some 7 := by kernel_rfl
theorem al_e6 : takeE al5 alBad (alX 0 0 []) = 10 := by kernel_rfl

/-- The three events. -/
def alEv0 : EvM := ⟨0, alOp, ⟨0, 0, 8, 0, []⟩, none, 0, none, 0, 1, 4, 4⟩
def alEv1 (t : Int) : EvM := ⟨1, ⟨4, 0, 0, 0, 0, 0, []⟩, ⟨0, 0, 0, 0, []⟩, none, 0, none, 0, 2, t, 0⟩
def alEv2 : EvM := ⟨2, ⟨0, 0, 0, 0, 0, 0, []⟩, ⟨0, 0, 0, 0, []⟩, none, 0, none, 0, 0, 0, 0⟩
def alEvs (t : Int) : List EvM := [alEv0, alEv1 t, alEv2]

theorem al_order {t : Int} {ys : List Nat} {i j : Nat} (hp : pickK (alEvs t) 3 = [0, 1]) (hperm : ys.Perm (pickK (alEvs t) 3)) (hpair : ys.Pairwise (fun i j => tookAt (alEvs t) i ≤ tookAt (alEvs t) j)) (hij : (i = 0 ∧ j = 1) ∨ (i = 1 ∧ j = 0))
    (hlt : tookAt (alEvs t) i < tookAt (alEvs t) j) : ys = [i, j] := by
  rw [hp] at hperm
  have hl : ys.length = 2 := hperm.length_eq
  match ys, hl with
  | [a, b], _ =>
    have ha : a = 0 ∨ a = 1 := by have := hperm.mem_iff.1 (List.mem_cons_self : a ∈ [a, b]); simpa using this
    have hb : b = 0 ∨ b = 1 := by have := hperm.mem_iff.1 (by simp : b ∈ [a, b]); simpa using this
    have hn : a ≠ b := by
      have := (hperm.nodup_iff).2 (by decide)
      simpa using this
    have hle : tookAt (alEvs t) a ≤ tookAt (alEvs t) b := by simpa using hpair
    rcases hij with ⟨rfl, rfl⟩ | ⟨rfl, rfl⟩ <;> rcases ha with rfl | rfl <;> rcases hb with rfl | rfl <;> simp_all <;> omega

theorem al_ys4 {ys : List Nat} (hperm : ys.Perm (pickK (alEvs 5) 3)) (hpair : ys.Pairwise (fun i j => tookAt (alEvs 5) i ≤ tookAt (alEvs 5) j)) : ys = [0, 1] :=
  al_order (by decide) hperm hpair (.inl ⟨rfl, rfl⟩) (by decide)
theorem al_ys3 {ys : List Nat} (hperm : ys.Perm (pickK (alEvs 3) 3)) (hpair : ys.Pairwise (fun i j => tookAt (alEvs 3) i ≤ tookAt (alEvs 3) j)) : ys = [1, 0] :=
  al_order (by decide) hperm hpair (.inr ⟨rfl, rfl⟩) (by decide)

theorem al_t5 : (alEvs 5).all timelyE = true := by decide
theorem al_t3 : (alEvs 3).all timelyE = true := by decide
theorem al_ok5 : okFrom (alEvs 5) [] [0, 1] = true := by decide
theorem al_ok3 : okFrom (alEvs 3) [] [1, 0] = true := by decide
theorem al_run5 : runE (alEvs 5) ⟨64, []⟩ [0, 1] = (-1, 0) := by kernel_rfl
theorem al_run3 : runE (alEvs 3) ⟨64, []⟩ [1, 0] = (1, 20) := by kernel_rfl

end Go.Proofs.YtgcnbiccekaffaaGreat

/- alive answers true. -/
namespace Go.Proofs.YtgcnbiccekaffaaGreat
open Go.RowKit Go.ChangeMaps

/-- A model whose blocks are there, from block B on. -/
def RepX (B : Nat) (w : World) (m : Nat) (A : AM) (F : Nat → Prop) : Prop := Rep w m A F ∧ Inv A ∧ (∀ k, F k → k < w.heap.size) ∧ (∀ k, F k → B ≤ k) ∧ B ≤ w.heap.size

theorem RepX.below {B : Nat} {w W : World} {m : Nat} {A : AM} {F : Nat → Prop} (h : RepX B w m A F) (hb : Below w.heap.size w W) : RepX B W m A F :=
  ⟨h.1.below hb, h.2.1, fun k hk => Nat.lt_of_lt_of_le (h.2.2.1 k hk) hb.size, h.2.2.2.1, Nat.le_trans h.2.2.2.2 hb.size⟩

def TakeXPost (B : Nat) (w : World) (m : Nat) (F : Nat → Prop) (r : Int) (A' : AM) (e : Ending) (w' : World) : Prop :=
  e = .returned (.int .i64 r) ∧ ∃ F', RepX B w' m A' F' ∧ (∀ j, F' j → F j ∨ w.heap.size ≤ j) ∧ Turned F w w' ∧ Below B w w'

theorem take_x {B : Nat} {w : World} {m : Nat} {A : AM} {F : Nat → Prop} (h : RepX B w m A F) (o : OpA) (xa : AnsA) (ho : OpOk o) (hx : BytesOk xa.data) (p1 p2 : Option Addr) (q1 q2 : Nat)
    (hd1 : BytesIn w p1 o.data) (ha1 : Apart o.data p1 F) (hd2 : BytesIn w p2 xa.data) (ha2 : Apart xa.data p2 F) {r : Int} {A' : AM} (hr : takeE A o xa = r) (hA : takeA A o xa = A') :
    Calls Tryz.prog 10 #[.pointer (some ⟨m, 0, none⟩), opV o p1 q1, ansV xa p2 q2] w (TakeXPost B w m F r A') := by
  subst hr hA
  refine (take_any h.1 h.2.1 h.2.2.1 o xa ho p1 p2 q1 q2 hd1 ha1 hd2 ha2).mono ?_
  rintro e w' ⟨rfl, h1, h2⟩
  have hB := h.2.2.2.2
  exact ⟨rfl, fun j => (F j ∨ w.heap.size ≤ j) ∧ j < w'.heap.size, ⟨h1.mono (fun k hk hl => ⟨hk, hl⟩), h.2.1.take ho hx, fun k hk => hk.2, fun k hk => by
    rcases hk.1 with hk | hk
    · exact h.2.2.2.1 k hk
    · omega, Nat.le_trans hB h2.size⟩, fun j hj => hj.1, h2, h2.below h.2.2.2.1 hB⟩

theorem opOk_nil (k a : Int) (at_ fr n : Int) (h0 : 0 ≤ a) (h1 : a < 18446744073709551616) : OpOk ⟨k, a, 0, at_, fr, n, []⟩ := ⟨h0, h1, by show (0 : Int) ≤ 0; omega, by show (0 : Int) < _; omega, fun _ h => (by cases h)⟩
theorem bytesIn_nil (w : World) (p : Option Addr) : BytesIn w p [] := fun i hi => absurd hi (Nat.not_lt_zero i)
theorem apart_none (F : Nat → Prop) : Apart [] none F := fun h => absurd rfl h

theorem op_size : (Tryz.prog.info? 36).map (·.size) = some 7 := by kernel_rfl
def opC : Array Value := #[.int .i64 0, .int .u64 8, .int .u64 0, .int .i64 0, .int .i64 0, .int .i64 0, .slice none 0 0]

/-- A block that is none of the model's. -/
structure Free (w : World) (F : Nat → Prop) (b : Nat) (o : Obj) : Prop where
  is : w.heap[b]? = some o
  out : ¬ F b
theorem Free.below {w W : World} {F : Nat → Prop} {b : Nat} {o : Obj} (h : Free w F b o) (hb : Below w.heap.size w W) : Free W F b o :=
  ⟨(hb.block _ (lt_of_block h.is)).trans h.is, h.out⟩
theorem Free.take {w W : World} {F F' : Nat → Prop} {b : Nat} {o : Obj} (h : Free w F b o) (hF : ∀ j, F' j → F j ∨ w.heap.size ≤ j) (t : Turned F w W) : Free W F' b o :=
  ⟨(t.block _ (lt_of_block h.is) h.out).trans h.is, fun hh => by
    rcases hF b hh with h1 | h1
    · exact h.out h1
    · have := lt_of_block h.is; omega⟩

theorem byte_at (w : World) (v : Int) : BytesIn (w.alloc (.cells #[.int .u8 v] 5)) (some ⟨w.heap.size, 0, none⟩) [v] := by
  intro i hi
  have : i = 0 := by simpa using hi
  subst this
  exact ⟨_, _, rfl, by simp [go_sem]⟩

theorem evs_get (es : List EvM) (i j : Nat) (hi : i < es.length) (hj : j < 16) : (es.flatMap evV)[i * 16 + j]? = (evV es[i])[j]? := by
  have hl : ∀ l : List EvM, (l.flatMap evV).length = l.length * 16 := fun l => by
    induction l with
    | nil => rfl
    | cons b l ih => simp only [List.flatMap_cons, List.length_append, List.length_cons, ih]; show 16 + _ = _; omega
  have e : es = es.take i ++ (es[i] :: es.drop (i + 1)) := by simp
  have h1 : es.flatMap evV = (es.take i).flatMap evV ++ (evV es[i] ++ (es.drop (i + 1)).flatMap evV) := by
    rw [show es.flatMap evV = (es.take i ++ (es[i] :: es.drop (i + 1))).flatMap evV from by rw [← e], List.flatMap_append]; rfl
  have h2 : ((es.take i).flatMap evV).length = i * 16 := by rw [hl, List.length_take]; rw [Nat.min_eq_left (by omega)]
  rw [h1, List.getElem?_append_right (by omega), h2, List.getElem?_append_left (by show _ < 16; omega)]
  congr 1
  omega

def evsC (es : List EvM) : Array Value := (es.flatMap evV).toArray

theorem evsAt_of {w : World} {g : Nat} {es : List EvM} (h : w.heap[g]? = some (.cells (evsC es) 60 (0, 0))) : EvsAt w (some ⟨g, 0, none⟩) es := by
  intro i hi
  refine ⟨g, 0, rfl, fun j v hv => ?_⟩
  have hj : j < 16 := (List.getElem?_eq_some_iff.1 hv).1
  rw [Nat.zero_add, cell_of_block h, evsC, List.getElem?_toArray, evs_get es i j hi hj]
  exact hv

theorem al_evok (w : World) (t : Int) : ∀ e ∈ alEvs t, EvOk w e := by
  intro e he
  simp only [alEvs, List.mem_cons, List.not_mem_nil, or_false] at he
  rcases he with rfl | rfl | rfl
  · exact ⟨opOk_nil _ _ _ _ _ (by decide) (by decide), fun _ h => (by cases h), bytesIn_nil _ _, bytesIn_nil _ _, fun h => absurd rfl h, fun h => absurd rfl h, (show (Lit.int .i64 0).wf = true from by decide)⟩
  · exact ⟨opOk_nil _ _ _ _ _ (by decide) (by decide), fun _ h => (by cases h), bytesIn_nil _ _, bytesIn_nil _ _, fun h => absurd rfl h, fun h => absurd rfl h, (show (Lit.int .i64 1).wf = true from by decide)⟩
  · exact ⟨opOk_nil _ _ _ _ _ (by decide) (by decide), fun _ h => (by cases h), bytesIn_nil _ _, bytesIn_nil _ _, fun h => absurd rfl h, fun h => absurd rfl h, (show (Lit.int .i64 2).wf = true from by decide)⟩

theorem ints_new (w : World) : IntsAt (w.alloc (.cells #[.int .i64 0, .int .i64 1] 3)) (some ⟨w.heap.size, 0, none⟩) [0, 1] := by
  intro i hi
  have : i = 0 ∨ i = 1 := by simp at hi; omega
  rcases this with rfl | rfl
  · exact ⟨_, _, rfl, by simp [go_sem]⟩
  · exact ⟨_, _, rfl, by simp [go_sem]⟩

theorem eql_blk (w : World) : (binOp .eql 73 (.agg #[.int .i64 40, .int .i64 24, .int .i64 20]) (.agg #[.int .i64 40, .int .i64 24, .int .i64 20])).run Tryz.prog w = .ok (.bool true) w := by
  have h3 : Tryz.prog.underlying 3 = some (.int .i64) := Tryz.underlying3
  rw [run_eql_struct, run_equalIn_struct w 9999 73 _ _ (by simp only [Program.fieldsOf, Tryz.underlying73]) (by kernel_rfl)]
  simp only [Program.fieldsOf, Tryz.underlying73]
  simp [Op.eqFields, part, go_sem, h3, Tryz.isAgg3, Tryz.sizeOf3]

set_option maxRecDepth 100000 in
set_option maxHeartbeats 8000000 in
theorem alive_any (w : World) : Calls Tryz.prog 5 #[] w (fun e w' => e = .returned (.bool true) ∧ Below w.heap.size w w') := by
  go_enter Tryz.func5, Tryz.ntmps5
  go_wp2_with (go_at_call 7; refine (new_yes 64 w (by omega) (by omega)).mono ?_; rintro e W1 ⟨rfl, hW1⟩)
  obtain ⟨Wa, hWa⟩ : ∃ Wa, Wa = ((w.alloc (.map #[] 0)).alloc (.cells #[.int .i64 64, .map (some w.heap.size)] 76)).alloc (.cells opC 36) := ⟨_, rfl⟩
  have hbA : Below w.heap.size w Wa := by rw [hWa]; exact (by repeat (first | exact Below.refl _ _ | assumption | refine Below.alloc ?_ (by first | omega | (simp <;> omega)) _ | refine Below.drew ?_ | refine Below.setCell ?_ (by first | omega | (simp <;> omega)) _ | refine Below.via (by assumption) (by first | omega | (simp <;> omega)) ?_))
  have hxA : RepX w.heap.size Wa (w.heap.size + 1) al0 (fun k => k = w.heap.size ∨ k = w.heap.size + 1) := by
    refine RepX.below (w := (w.alloc (.map #[] 0)).alloc (.cells #[.int .i64 64, .map (some w.heap.size)] 76)) ⟨rep_new w 64, inv_new (by omega) (by omega), fun k hk => by simp; omega, fun k hk => by omega, by simp; omega⟩ ?_
    rw [hWa]
    exact (Below.refl _ _).alloc (Nat.le_refl _) _
  have hfA : Free Wa (fun k => k = w.heap.size ∨ k = w.heap.size + 1) (w.heap.size + 1 + 1) (.cells opC 36 (0, 0)) := by
    refine ⟨?_, by omega⟩
    rw [hWa, show w.heap.size + 1 + 1 = ((w.alloc (.map #[] 0)).alloc (.cells #[.int .i64 64, .map (some w.heap.size)] 76)).heap.size from by simp, heap_alloc_new]
  have HWA := Lib.hid hWa
  rw [show ((w.alloc (.map #[] 0)).alloc (.cells #[.int .i64 64, .map (some w.heap.size)] 76)).alloc (.cells #[.int .i64 0, .int .u64 8, .int .u64 0, .int .i64 0, .int .i64 0, .int .i64 0, .slice none 0 0] 36) = Wa from HWA.out.symm]
  have HA := Lib.hid hbA
  clear hWa hW1 hbA
  generalize hF0 : (fun k => k = w.heap.size ∨ k = w.heap.size + 1) = F0 at *
  clear hF0
  refine (take_x hxA alOp (alX 0 16 []) (opOk_nil _ _ _ _ _ (by decide) (by decide)) (fun _ h => (by cases h)) none none 0 0 (bytesIn_nil _ _) (apart_none _) (bytesIn_nil _ _) (apart_none _) al_e1 al_a1).mono ?_
  rintro e W1 ⟨rfl, F1, hx1, hF1, hT1, hbt⟩
  have hf1 := Lib.hid (hfA.take hF1 hT1)
  have HX1 := Lib.hid hx1
  have HB1 := Lib.hid (HA.out.trans hbt)
  clear hx1 hF1 hT1 hbt
  clear hfA hxA
  go_wp2_with (refine wpList_load_row rfl 36 _ rfl (w.heap.size + 1 + 1) rfl 36 opC (0, 0) _ hf1.out.is Tryz.underlying36 rfl op_size ?_)
  refine (take_x HX1.out alOp (alX 8 16 []) (opOk_nil _ _ _ _ _ (by decide) (by decide)) (fun _ h => (by cases h)) none none 0 0 (bytesIn_nil _ _) (apart_none _) (bytesIn_nil _ _) (apart_none _) al_e2 al_a2).mono ?_
  rintro e W2 ⟨rfl, F2, hx2, hF2, hT2, hbt⟩
  have hf2 := Lib.hid (hf1.out.take hF2 hT2)
  have HX2 := Lib.hid hx2
  have HB2 := Lib.hid (HB1.out.trans hbt)
  clear hx2 hF2 hT2 hbt
  clear hf1 HX1 HB1
  go_wp2_with (refine wpList_load_row rfl 36 _ rfl (w.heap.size + 1 + 1) rfl 36 opC (0, 0) _ hf2.out.is Tryz.underlying36 rfl op_size ?_)
  refine (may_any HX2.out.1 HX2.out.2.1 HX2.out.2.2.1 alOp (alX 16 16 []) (opOk_nil _ _ _ _ _ (by decide) (by decide)) none none 0 0 (bytesIn_nil _ _) (apart_none _) (bytesIn_nil _ _) (apart_none _)).mono ?_
  rintro e W3 ⟨rfl, hb3⟩
  rw [al_m]
  have HX3 := Lib.hid (HX2.out.below hb3)
  have hf3 := Lib.hid (hf2.out.below hb3)
  have HB3 := Lib.hid (HB2.out.trans (hb3.mono HX2.out.2.2.2.2))
  clear hb3 hf2 HX2 HB2
  go_wp2_with (fail)
  have hx3 := HX3.out.below ((Below.refl _ W3).alloc (Nat.le_refl _) (.cells #[.int .u8 7] 5))
  refine (take_x hx3 alRd (alX 0 0 [7]) (opOk_nil _ _ _ _ _ (by decide) (by decide)) (by intro v hv; simp [alX] at hv; omega) none (some ⟨W3.heap.size, 0, none⟩) 0 1 (bytesIn_nil _ _) (apart_none _) (byte_at W3 7) (fun _ b o e hf => by cases e; have := HX3.out.2.2.1 _ hf; omega) al_e3 al_a3).mono ?_
  clear hx3
  rintro e W4 ⟨rfl, F4, hx4, hF4, hT4, hbt⟩
  have hf4 := Lib.hid ((hf3.out.below ((Below.refl _ W3).alloc (Nat.le_refl _) _)).take hF4 hT4)
  have HX4 := Lib.hid hx4
  have HB4 := Lib.hid (HB3.out.trans (((Below.refl _ W3).alloc HX3.out.2.2.2.2 _).trans hbt))
  clear hx4 hF4 hT4 hbt
  clear hf3 HX3 HB3
  go_wp2_with (fail)
  have hx4 := HX4.out.below ((Below.refl _ W4).alloc (Nat.le_refl _) (.cells #[.int .u8 8] 5))
  refine (take_x hx4 alRd (alX 0 0 [8]) (opOk_nil _ _ _ _ _ (by decide) (by decide)) (by intro v hv; simp [alX] at hv; omega) none (some ⟨W4.heap.size, 0, none⟩) 0 1 (bytesIn_nil _ _) (apart_none _) (byte_at W4 8) (fun _ b o e hf => by cases e; have := HX4.out.2.2.1 _ hf; omega) al_e4 al_a4).mono ?_
  clear hx4
  rintro e W5 ⟨rfl, F5, hx5, hF5, hT5, hbt⟩
  have hf5 := Lib.hid ((hf4.out.below ((Below.refl _ W4).alloc (Nat.le_refl _) _)).take hF5 hT5)
  have HX5 := Lib.hid hx5
  have HB5 := Lib.hid (HB4.out.trans (((Below.refl _ W4).alloc HX4.out.2.2.2.2 _).trans hbt))
  clear hx5 hF5 hT5 hbt
  clear hf4 HX4 HB4
  go_wp2_with (fail)
  refine (known_any HX5.out.1 HX5.out.2.1 0 0).mono ?_
  rintro e W6 ⟨rfl, hb6⟩
  rw [al_k0]
  have HX6 := Lib.hid (HX5.out.below hb6)
  have hf6 := Lib.hid (hf5.out.below hb6)
  have HB6 := Lib.hid (HB5.out.trans (hb6.mono HX5.out.2.2.2.2))
  clear hb6 hf5 HX5 HB5
  go_wp2_with (fail)
  refine (known_any HX6.out.1 HX6.out.2.1 0 1).mono ?_
  rintro e W7 ⟨rfl, hb7⟩
  rw [al_k1]
  have HX7 := Lib.hid (HX6.out.below hb7)
  have hf7 := Lib.hid (hf6.out.below hb7)
  have HB7 := Lib.hid (HB6.out.trans (hb7.mono HX6.out.2.2.2.2))
  clear hb7 hf6 HX6 HB6
  go_wp2_with (fail)
  refine (clone_any HX7.out.1 HX7.out.2.1).mono ?_
  rintro e W8 ⟨mc, rfl, hcl, hb8⟩
  have HX8 := Lib.hid (HX7.out.below hb8)
  have hf8 := Lib.hid (hf7.out.below hb8)
  have HB8 := Lib.hid (HB7.out.trans (hb8.mono HX7.out.2.2.2.2))
  have HI3 : Hid (Inv al3) := HX8.out.2.1
  have hcl8 : Rep W8 mc al3 (fun k => W7.heap.size ≤ k ∧ k < W8.heap.size) := hcl.mono (fun k hk hl => ⟨hk, hl⟩)
  have HCL8 := Lib.hid hcl8
  have HF7 : Hid (∀ k, (W7.heap.size ≤ k ∧ k < W8.heap.size) → k < W8.heap.size → ¬ F5 k) := fun k hk _ hf => by have := HX7.out.2.2.1 k hf; omega
  clear hcl hcl8 hb8 hf7 HX7 HB7
  go_wp2_with (fail)
  refine (take_x HX8.out alRe (alX 40 24 []) (opOk_nil _ _ _ _ _ (by decide) (by decide)) (fun _ h => (by cases h)) none none 0 0 (bytesIn_nil _ _) (apart_none _) (bytesIn_nil _ _) (apart_none _) al_e5 al_a5).mono ?_
  rintro e W9 ⟨rfl, F9, hx9, hF9, hT9, hbt⟩
  have hf9 := Lib.hid (hf8.out.take hF9 hT9)
  have HX9 := Lib.hid hx9
  have HB9 := Lib.hid (HB8.out.trans hbt)
  have HS9 : Hid (W8.heap.size ≤ W9.heap.size) := hT9.size
  have HCL9 := Lib.hid (HCL8.out.turned hT9 HF7.out)
  clear HCL8 HF7 hf8 HX8 HB8
  clear hx9 hF9 hT9 hbt
  go_wp2_with (fail)
  refine (known_any HX9.out.1 HX9.out.2.1 40 0).mono ?_
  rintro e W10 ⟨rfl, hb10⟩
  rw [al_k5]
  have HX10 := Lib.hid (HX9.out.below hb10)
  have hf10 := Lib.hid (hf9.out.below hb10)
  have HB10 := Lib.hid (HB9.out.trans (hb10.mono HX9.out.2.2.2.2))
  have HCL10 := Lib.hid (HCL9.out.below hb10)
  have HNC : Hid (W8.heap.size ≤ W10.heap.size) := Nat.le_trans HS9.out hb10.size
  clear hb10 hf9 HX9 HB9 HCL9
  go_wp2_with (first
    | (refine wpList_load_row rfl 36 _ rfl (w.heap.size + 1 + 1) rfl 36 opC (0, 0) _ hf10.out.is Tryz.underlying36 rfl op_size ?_)
    | (refine Go.Great.wpList_buildSliceTo rfl 58 60 3 _ rfl W10.heap.size rfl _ rfl Tryz.underlying58 (evsC (alEvs 5)) (by kernel_rfl) ?_))
  obtain ⟨W11, hW11⟩ : ∃ W11, W11 = W10.alloc (.cells (evsC (alEvs 5)) 60) := ⟨_, rfl⟩
  have hb11 : Below W10.heap.size W10 W11 := by rw [hW11]; exact (Below.refl _ _).alloc (Nat.le_refl _) _
  have hl11 : W11.heap[W10.heap.size]? = some (.cells (evsC (alEvs 5)) 60 (0, 0)) := by rw [hW11, heap_alloc_new]
  rw [← hW11]
  clear hW11
  have HX11 := Lib.hid (HX10.out.below hb11)
  have HB11 := Lib.hid (HB10.out.trans (hb11.mono HX10.out.2.2.2.2))
  have HCL11 := Lib.hid (HCL10.out.below hb11)
  have HNB : Hid (∀ k, F9 k → k ≠ W10.heap.size) := fun k hk e => by have := HX10.out.2.2.1 k hk; omega
  have HBL : Hid (w.heap.size ≤ W10.heap.size) := HX10.out.2.2.2.2
  have HBL2 : Hid (W10.heap.size < W11.heap.size) := lt_of_block hl11
  clear hf10 HX10 HB10 HCL10 hb11
  refine (order_any W11 (some ⟨W10.heap.size, 0, none⟩) 3 (alEvs 5) (evsAt_of hl11) (by decide) (fun e he => (al_evok W11 5 e he).wk) (fun g o e => by cases e; exact lt_of_block hl11)).mono ?_
  rintro e W12 ⟨hb12, hcase⟩
  obtain ⟨v, rfl, hrow⟩ : ∃ v, e = .returned (.tuple #[v, .int .i64 0]) ∧ W12.ownsRow W11.heap.size 3 1 v 2 [natV 0, natV 1] := by
    rcases hcase with ⟨h, _⟩ | ⟨_, ys, h1, h2, h3⟩
    · rw [al_t5] at h; cases h
    · obtain rfl := al_ys4 h1 h2
      rcases h3 with ⟨h3, _⟩ | ⟨_, h3⟩
      · rw [al_ok5] at h3; cases h3
      · exact h3
  clear hcase
  obtain ⟨po, co, rfl, hget⟩ := ownsRow_ints hrow
  have HROW := Lib.hid hrow.lt
  have hl12 := (hb12.block _ (lt_of_block hl11)).trans hl11
  have HX12 := Lib.hid (HX11.out.below hb12)
  have HB12 := Lib.hid (HB11.out.trans (hb12.mono HX11.out.2.2.2.2))
  have HCL12 := Lib.hid (HCL11.out.below hb12)
  have HGET := Lib.hid hget
  clear hrow hget hl11 HX11 HB11 HCL11
  go_wp2_with (fail)
  refine (judge_any W12 64 (some ⟨W10.heap.size, 0, none⟩) 3 (alEvs 5) (evsAt_of hl12) (by decide) (al_evok W12 5) (fun g o e => by cases e; exact lt_of_block hl12)).mono ?_
  rintro e W13 ⟨hb13, n, er, rfl, hcase⟩
  obtain ⟨rfl, rfl⟩ : n = -1 ∧ er = 0 := by
    rcases hcase with ⟨h, _⟩ | ⟨_, ⟨h, _⟩ | ⟨_, ys, h1, h2, h3⟩⟩
    · omega
    · rw [al_t5] at h; cases h
    · obtain rfl := al_ys4 h1 h2
      rcases h3 with ⟨h3, _⟩ | ⟨_, h3⟩
      · rw [al_ok5] at h3; cases h3
      · rw [al_run5] at h3
        exact ⟨congrArg Prod.fst h3, congrArg Prod.snd h3⟩
  clear hcase
  have hl13 := (hb13.block _ (lt_of_block hl12)).trans hl12
  have HX13 := Lib.hid (HX12.out.below hb13)
  have HB13 := Lib.hid (HB12.out.trans (hb13.mono HX12.out.2.2.2.2))
  have HCL13 := Lib.hid (HCL12.out.below hb13)
  have hc30 : W13.cell? ⟨W10.heap.size, 30, none⟩ = some (.int .i64 5) := by rw [cell_of_block hl13]; rfl
  have hf30 : W13.frozen? ⟨W10.heap.size, 30, none⟩ = false := frozen_of_row _ _ _ _ _ hl13
  clear hl12 HX12 HB12 HCL12
  go_wp2_with (fail)
  obtain ⟨W14, hW14⟩ : ∃ W14, W14 = W13.setCell ⟨W10.heap.size, 30, none⟩ (.int .i64 3) := ⟨_, rfl⟩
  have hl14 : W14.heap[W10.heap.size]? = some (.cells (evsC (alEvs 3)) 60 (0, 0)) := by
    rw [hW14, heap_setCell_same _ _ _ _ _ _ hl13]
    rfl
  have ht14 : Turned (fun k => k = W10.heap.size) W13 W14 := by rw [hW14]; exact Turned.setCell (F := fun k => k = W10.heap.size) (p := ⟨W10.heap.size, 30, none⟩) (Turned.refl _ _) (.inl rfl) _
  have hs14 : W14.heap.size = W13.heap.size := by rw [hW14]; simp [World.setCell]
  rw [← hW14]
  clear hW14 hc30 hf30
  have HX14 : Hid (RepX w.heap.size W14 (w.heap.size + 1) al5 F9) :=
    ⟨HX13.out.1.turned ht14 (fun k hk _ => HNB.out k hk), HX13.out.2.1, fun k hk => by rw [hs14]; exact HX13.out.2.2.1 k hk, HX13.out.2.2.2.1, by rw [hs14]; exact HX13.out.2.2.2.2⟩
  have HCL14 := Lib.hid (HCL13.out.turned ht14 (fun k hk _ e => by have := HNC.out; omega))
  have HB14 : Hid (Below w.heap.size w W14) := HB13.out.trans (ht14.below (fun x hx => by have := HBL.out; omega) HX13.out.2.2.2.2)
  have HGET14 : Hid (IntsAt W14 po [0, 1]) := fun i hi => by
    have hi2 : i < 2 := by simpa using hi
    obtain ⟨g, hg1, hg2, hg3⟩ := HGET.out i hi2
    refine ⟨g, 0, hg1, ?_⟩
    have hgb := (HROW.out g (by rw [hg1]; rfl)).1
    have h12 : W12.cell? ⟨g, i, none⟩ = some (.int .i64 ([0, 1] : List Int)[i]) := by
      rw [hg3]
      have : i = 0 ∨ i = 1 := by omega
      rcases this with rfl | rfl <;> rfl
    rw [Nat.zero_add]
    exact turned_cell ht14 (by have := HBL2.out; omega) (cell_past hb13 (cell_lt h12) h12)
  clear hl13 HX13 HB13 HCL13 HGET hb13 ht14 hs14
  refine (judge_any W14 64 (some ⟨W10.heap.size, 0, none⟩) 3 (alEvs 3) (evsAt_of hl14) (by decide) (al_evok W14 3) (fun g o e => by cases e; exact lt_of_block hl14)).mono ?_
  rintro e W15 ⟨hb15, n, er, rfl, hcase⟩
  obtain ⟨rfl, rfl⟩ : n = 1 ∧ er = 20 := by
    rcases hcase with ⟨h, _⟩ | ⟨_, ⟨h, _⟩ | ⟨_, ys, h1, h2, h3⟩⟩
    · omega
    · rw [al_t3] at h; cases h
    · obtain rfl := al_ys3 h1 h2
      rcases h3 with ⟨h3, _⟩ | ⟨_, h3⟩
      · rw [al_ok3] at h3; cases h3
      · rw [al_run3] at h3
        exact ⟨congrArg Prod.fst h3, congrArg Prod.snd h3⟩
  clear hcase
  have HX15 := Lib.hid (HX14.out.below hb15)
  have HB15 := Lib.hid (HB14.out.trans (hb15.mono HX14.out.2.2.2.2))
  have HCL15 := Lib.hid (HCL14.out.below hb15)
  have HI15 := Lib.hid (HGET14.out.below hb15)
  clear HX14 HB14 HCL14 HGET14 hb15 hl14
  go_wp2_with (fail)
  have heq := eql_blk
  refine (live_any HX15.out.1 HX15.out.2.1).mono ?_
  rintro e W16 ⟨lv, rfl, hlrow, hb16⟩
  obtain ⟨lp, lc, rfl, hlg⟩ := ownsRow_rows hlrow
  obtain ⟨lg, lcur, rfl, _, hlh, hlc⟩ := hlg (by decide)
  obtain ⟨q0, q1, q2⟩ := hlc 0 (by decide)
  have y0 : W16.cell? ⟨lg, 0, none⟩ = some (.int .i64 40) := by rw [cell_of_block hlh]; exact q0
  have y1 : W16.cell? ⟨lg, 1, none⟩ = some (.int .i64 24) := by rw [cell_of_block hlh]; exact q1
  have y2 : W16.cell? ⟨lg, 2, none⟩ = some (.int .i64 20) := by rw [cell_of_block hlh]; exact q2
  have HX16 := Lib.hid (HX15.out.below hb16)
  have HB16 := Lib.hid (HB15.out.trans (hb16.mono HX15.out.2.2.2.2))
  have HCL16 := Lib.hid (HCL15.out.below hb16)
  have HI16 := Lib.hid (HI15.out.below hb16)
  clear hlrow hlg hlh hlc q0 q1 q2 HX15 HB15 HCL15 HI15 hb16
  have hl1 : al5.blocks.length = 1 := rfl
  rw [hl1]
  have hcv : cv (some 7) = 7 := rfl
  have hl3 : al3.blocks.length = 1 := rfl
  go_wp2_with (first
    | (go_at_call 23; refine (sameInts_any (W16.alloc (.cells #[.int .i64 0, .int .i64 1] 3)) po (some ⟨W16.heap.size, 0, none⟩) co 2 [0, 1] [0, 1] (HI16.out.below ((Below.refl _ _).alloc (Nat.le_refl _) _)) (ints_new W16) (by decide)).mono ?_; rintro e W17 ⟨rfl, hb17⟩
       have hb16' : Below W16.heap.size W16 W17 := ((Below.refl W16.heap.size W16).alloc (Nat.le_refl _) _).trans (hb17.mono (by simp))
       have u0 := cell_past hb16' (cell_lt y0) y0
       have u1 := cell_past hb16' (cell_lt y1) y1
       have u2 := cell_past hb16' (cell_lt y2) y2
       have HX17 := Lib.hid (HX16.out.below hb16')
       have HB17 := Lib.hid (HB16.out.trans (hb16'.mono HX16.out.2.2.2.2))
       have HCL17 := Lib.hid (HCL16.out.below hb16')
       clear hb17 hb16')
    | (go_at_call 22; refine (live_any HCL17.out HI3.out).mono ?_; rintro e W18 ⟨lv2, rfl, hl2, hb18⟩
       obtain ⟨lp2, lc2, rfl, _⟩ := ownsRow_rows hl2
       have HX18 := Lib.hid (HX17.out.below hb18)
       have HB18 := Lib.hid (HB17.out.trans (hb18.mono HX17.out.2.2.2.2))
       clear hl2 hb18
       rw [hl3])
    | (go_at_call 10; refine (take_x HX18.out alBad (alX 0 0 []) (opOk_nil _ _ _ _ _ (by decide) (by decide)) (fun _ h => (by cases h)) none none 0 0 (bytesIn_nil _ _) (apart_none _) (bytesIn_nil _ _) (apart_none _) al_e6 rfl).mono ?_; rintro e W19 ⟨rfl, F19, _, _, _, hb19⟩
       have HB19 := Lib.hid (HB18.out.trans hb19)
       clear hb19))
  go_ret
  exact ⟨rfl, HB19.out⟩

end Go.Proofs.YtgcnbiccekaffaaGreat
