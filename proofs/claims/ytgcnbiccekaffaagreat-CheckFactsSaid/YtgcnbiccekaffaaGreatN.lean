/- May and Take. -/
import Derived.Test.YtgcnbiccekaffaaGreatM
namespace Go.Proofs.YtgcnbiccekaffaaGreat
open Go.RowKit Go.ChangeMaps

def TakePost (m : Nat) (A : AM) (F : Nat → Prop) (w : World) (o : OpA) (xa : AnsA) (e : Ending) (w' : World) : Prop :=
  e = .returned (.int .i64 (takeE A o xa)) ∧ Rep w' m (takeA A o xa) (fun k => F k ∨ w.heap.size ≤ k) ∧ Turned F w w'

set_option maxRecDepth 100000 in
set_option maxHeartbeats 4000000 in
theorem take_any {w : World} {m : Nat} {A : AM} {F : Nat → Prop} (h : Rep w m A F) (hI : Inv A) (hF : ∀ k, F k → k < w.heap.size) (o : OpA) (xa : AnsA) (ho : OpOk o) (p1 p2 : Option Addr) (q1 q2 : Nat)
    (hd1 : BytesIn w p1 o.data) (ha1 : Apart o.data p1 F) (hd2 : BytesIn w p2 xa.data) (ha2 : Apart xa.data p2 F) :
    Calls Tryz.prog 10 #[.pointer (some ⟨m, 0, none⟩), opV o p1 q1, ansV xa p2 q2] w (TakePost m A F w o xa) := by
  have R := Lib.hid h
  have hcall := Lib.hid (fun W (hb : Below w.heap.size w W) => legal_any (w := W) (h.below hb) hI (fun k hk => Nat.lt_of_lt_of_le (hF k hk) hb.size) o xa ho p1 p2 q1 q2 (hd1.below hb) ha1 (hd2.below hb) ha2)
  clear h hI hF ho hd1 ha1 hd2 ha2
  have key : ∀ r : Bool, rightB o.k o.data.length = r → ∀ l : Bool, (legalA A o xa).2 = l → Calls Tryz.prog 10 #[.pointer (some ⟨m, 0, none⟩), opV o p1 q1, ansV xa p2 q2] w (TakePost m A F w o xa) := by
    intro r hr l hl
    have HR := Lib.hid hr
    have HL := Lib.hid hl
    unfold opV ansV at *
    cases r
    · go_enter Tryz.func10, Tryz.ntmps10
      go_wp2_with (go_at_call 25; refine (right_any _ _ _ _ _ _ _ _ _ _).mono ?_; rintro e w1 ⟨rfl, hb⟩; obtain ⟨hc, hf⟩ := bcell hb; have hz := hb.size; (try simp at hz))
      go_ret
      refine ⟨by rw [takeE, rightA, HR.out]; rfl, ?_, Turned.of_below (B := w.heap.size) (by repeat (first | exact Below.refl _ _ | assumption | refine Below.alloc ?_ (by first | omega | (simp <;> omega)) _ | refine Below.drew ?_ | refine Below.setCell ?_ (by first | omega | (simp <;> omega)) _ | refine Below.via (by assumption) (by first | omega | (simp <;> omega)) ?_)) (Nat.le_refl _)⟩
      have e1 : takeA A o xa = A := by rw [takeA, rightA, HR.out]; rfl
      rw [e1]
      exact (R.out.below (by repeat (first | exact Below.refl _ _ | assumption | refine Below.alloc ?_ (by first | omega | (simp <;> omega)) _ | refine Below.drew ?_ | refine Below.setCell ?_ (by first | omega | (simp <;> omega)) _ | refine Below.via (by assumption) (by first | omega | (simp <;> omega)) ?_))).mono (fun _ hk _ => .inl hk)
    · cases l
      · go_enter Tryz.func10, Tryz.ntmps10
        go_wp2_with (first
          | (go_at_call 25; refine (right_any _ _ _ _ _ _ _ _ _ _).mono ?_; rintro e w1 ⟨rfl, hb⟩; obtain ⟨hc, hf⟩ := bcell hb; have hz := hb.size; (try simp at hz))
          | (go_at_call 24; refine (hcall.out _ (by repeat (first | exact Below.refl _ _ | assumption | refine Below.alloc ?_ (by first | omega | (simp <;> omega)) _ | refine Below.drew ?_ | refine Below.setCell ?_ (by first | omega | (simp <;> omega)) _ | refine Below.via (by assumption) (by first | omega | (simp <;> omega)) ?_))).mono ?_; rintro e w2 ⟨c, rfl, hb2, _⟩))
        go_ret
        have hbx : Below w.heap.size w w2 := (by repeat (first | exact Below.refl _ _ | assumption | refine Below.alloc ?_ (by first | omega | (simp <;> omega)) _ | refine Below.drew ?_ | refine Below.setCell ?_ (by first | omega | (simp <;> omega)) _ | refine Below.via (by assumption) (by first | omega | (simp <;> omega)) ?_))
        refine ⟨by rw [takeE, rightA, HR.out, HL.out]; rfl, ?_, Turned.of_below hbx (Nat.le_refl _)⟩
        have e1 : takeA A o xa = A := by rw [takeA, rightA, HR.out, HL.out]; rfl
        rw [e1]
        exact (R.out.below hbx).mono (fun _ hk _ => .inl hk)
      · go_enter Tryz.func10, Tryz.ntmps10
        go_wp2_with (first
          | (go_at_call 25; refine (right_any _ _ _ _ _ _ _ _ _ _).mono ?_; rintro e w1 ⟨rfl, hb⟩; obtain ⟨hc, hf⟩ := bcell hb; have hz := hb.size; (try simp at hz))
          | (go_at_call 24; refine (hcall.out _ (by repeat (first | exact Below.refl _ _ | assumption | refine Below.alloc ?_ (by first | omega | (simp <;> omega)) _ | refine Below.drew ?_ | refine Below.setCell ?_ (by first | omega | (simp <;> omega)) _ | refine Below.via (by assumption) (by first | omega | (simp <;> omega)) ?_))).mono ?_; rintro e w2 ⟨c, rfl, hb2, hd⟩; obtain ⟨f, caps, rfl, hen, hall⟩ := hd HL.out; have hbx : Below w.heap.size w w2 := (by repeat (first | exact Below.refl _ _ | assumption | refine Below.alloc ?_ (by first | omega | (simp <;> omega)) _ | refine Below.drew ?_ | refine Below.setCell ?_ (by first | omega | (simp <;> omega)) _ | refine Below.via (by assumption) (by first | omega | (simp <;> omega)) ?_)); have HALL := Lib.hid hall; clear hall hd)
          | (refine (HALL.out _ (by repeat (first | exact Below.refl _ _ | assumption | refine Below.alloc ?_ (by first | omega | (simp <;> omega)) _ | refine Below.drew ?_ | refine Below.setCell ?_ (by first | omega | (simp <;> omega)) _ | refine Below.via (by assumption) (by first | omega | (simp <;> omega)) ?_))).mono ?_; rintro e w3 ⟨rfl, h3, t3⟩))
        go_ret
        refine ⟨by rw [takeE, rightA, HR.out, HL.out]; rfl, ?_, (Turned.of_below hbx (Nat.le_refl _)).trans t3 (fun _ hk _ => hk)⟩
        have e1 : takeA A o xa = applyC A (legalA A o xa).1 := by rw [takeA, rightA, HR.out, HL.out]; rfl
        rw [e1]
        exact h3.mono (fun k hk _ => hk.imp id fun h => Nat.le_trans hbx.size h)
  exact key _ rfl _ rfl

def mayB (A : AM) (o : OpA) (xa : AnsA) : Bool := (legalA A o xa).2 && rightA o

set_option maxRecDepth 100000 in
set_option maxHeartbeats 4000000 in
theorem may_any {w : World} {m : Nat} {A : AM} {F : Nat → Prop} (h : Rep w m A F) (hI : Inv A) (hF : ∀ k, F k → k < w.heap.size) (o : OpA) (xa : AnsA) (ho : OpOk o) (p1 p2 : Option Addr) (q1 q2 : Nat)
    (hd1 : BytesIn w p1 o.data) (ha1 : Apart o.data p1 F) (hd2 : BytesIn w p2 xa.data) (ha2 : Apart xa.data p2 F) :
    Calls Tryz.prog 9 #[.pointer (some ⟨m, 0, none⟩), opV o p1 q1, ansV xa p2 q2] w (fun e w' => e = .returned (.bool (mayB A o xa)) ∧ Below w.heap.size w w') := by
  have hcall := Lib.hid (fun W (hb : Below w.heap.size w W) => legal_any (w := W) (h.below hb) hI (fun k hk => Nat.lt_of_lt_of_le (hF k hk) hb.size) o xa ho p1 p2 q1 q2 (hd1.below hb) ha1 (hd2.below hb) ha2)
  clear h hI hF ho hd1 ha1 hd2 ha2
  have key : ∀ l : Bool, (legalA A o xa).2 = l → Calls Tryz.prog 9 #[.pointer (some ⟨m, 0, none⟩), opV o p1 q1, ansV xa p2 q2] w (fun e w' => e = .returned (.bool (l && rightB o.k o.data.length)) ∧ Below w.heap.size w w') := by
    intro l hl
    unfold opV ansV at *
    cases l
    all_goals
      go_enter Tryz.func9, Tryz.ntmps9
      go_wp2_with (first
        | (go_at_call 25; refine (right_any _ _ _ _ _ _ _ _ _ _).mono ?_; rintro e w2 ⟨rfl, hb2⟩)
        | (go_at_call 24; refine (hcall.out _ (by repeat (first | exact Below.refl _ _ | assumption | refine Below.alloc ?_ (by first | omega | (simp <;> omega)) _ | refine Below.drew ?_ | refine Below.setCell ?_ (by first | omega | (simp <;> omega)) _ | refine Below.via (by assumption) (by first | omega | (simp <;> omega)) ?_))).mono ?_; rintro e w1 ⟨c, rfl, hb, _⟩; obtain ⟨hc, hf⟩ := bcell hb; have hz := hb.size; (try simp at hz)))
      go_ret
      exact ⟨rfl, (by repeat (first | exact Below.refl _ _ | assumption | refine Below.alloc ?_ (by first | omega | (simp <;> omega)) _ | refine Below.drew ?_ | refine Below.setCell ?_ (by first | omega | (simp <;> omega)) _ | refine Below.via (by assumption) (by first | omega | (simp <;> omega)) ?_))⟩
  exact key _ rfl

end Go.Proofs.YtgcnbiccekaffaaGreat
