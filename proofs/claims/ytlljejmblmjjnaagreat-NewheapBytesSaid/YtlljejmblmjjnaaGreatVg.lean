/- NewheapBytes: two heaps side by side, one of them written into. -/
import Derived.Test.YtlljejmblmjjnaaGreatVc
import Derived.Test.YtlljejmblmjjnaaGreatVf
import Derived.WalkKit
import Derived.WalkSpells
import Derived.WalkLawsBesides
import Derived.BigQuiet
import Derived.Lib.Hide
namespace Go.Proofs.YtlljejmblmjjnaaGreat
set_option linter.unusedVariables false
set_option linter.unusedSimpArgs false
open Go.RowKit Go.ChangeMaps

theorem SlabOk.fill {bs bs' : List Int} {S : SM} (h : SlabOk bs S) (hl : bs'.length = bs.length) (hb : ∀ s ∈ S.L, ∀ k, k < 8 → bs'.getD (S.base + s * szB S.cls + k) 0 = bs.getD (S.base + s * szB S.cls + k) 0) : SlabOk bs' S :=
  ⟨h.al, by rw [hl]; exact h.fits, h.cls, h.nodup, h.lt, h.free.congr fun s hs => wordN_congr fun k hk => hb s hs k hk⟩
/-- Two slots lie apart. -/
theorem HInv.apart8 {pages : Nat} {s : HP} (h : HInv pages s) {x y : PS} (hx : x ∈ s.A) (hy : y ∈ s.A) {i j : Nat} (hi : i < slB x.cls) (hj : j < slB y.cls) (hne : x.addr i ≠ y.addr j) : x.addr i + 8 ≤ y.addr j ∨ y.addr j + 8 ≤ x.addr i := by
  have p1 := szB_pos (h.each x hx).cls
  have p2 := szB_pos (h.each y hy).cls
  rcases Nat.lt_or_gt_of_ne hne with hlt | hlt
  · have := h.sep hx hy hi hj hlt
    omega
  · have := h.sep hy hx hj hi hlt
    omega
theorem Tkn.apart8 {pages : Nat} {s : HP} (h : HInv pages s) {a b : Nat} (ha : Tkn s.A a) (hb : Tkn s.A b) (hne : a ≠ b) : a + 8 ≤ b ∨ b + 8 ≤ a := by
  obtain ⟨x, hx, i, hi, -, e1⟩ := ha
  obtain ⟨y, hy, j, hj, -, e2⟩ := hb
  obtain rfl : a = x.addr i := by omega
  obtain rfl : b = y.addr j := by omega
  exact h.apart8 hx hy hi hj hne
theorem Tkn.nat {pages : Nat} {s : HP} (h : HInv pages s) {a : Int} (ha : Tkn s.A a) : ∃ b : Nat, a = b ∧ b + 8 ≤ 256 * pages := by
  obtain ⟨x, hx, i, hi, -, e1⟩ := ha
  have a1 := (h.each x hx).addr_in hi
  have a2 := (h.each x hx).fits
  have a3 := szB_pos (h.each x hx).cls
  exact ⟨_, e1, by omega⟩
/-- The heap, when one of its taken slots was filled. -/
theorem HeapAt.fill {w w' : World} {H : HL} {pages : Nat} {s : HP} (h : HeapAt w H pages s) {a : Nat} (ha : Tkn s.A a) {v : Int} (hc : CellsAt w' H.cl H.cb (putR H.bs a (List.replicate 8 v))) (t : Turned (fun j => j = H.cb) w w') :
    HeapAt w' { H with bs := putR H.bs a (List.replicate 8 v) } pages s := by
  obtain ⟨b, hb, hfit⟩ := ha.nat h.inv
  obtain rfl : a = b := by omega
  have hlen : a + 8 ≤ H.bs.length := by rw [h.blen]; exact hfit
  have hpl : (putR H.bs a (List.replicate 8 v)).length = H.bs.length := putR_length _ _ _ (by rw [List.length_replicate]; exact hlen)
  have hbg : ¬ H.p.F H.cb := h.offs.2.2.1
  have hcb := h.cells.bytes
  refine ⟨(t.block _ (lt_of_block h.obj) (block_ne h.obj hcb (by decide))).trans h.obj, h.ground.turned t (block_ne h.ground.obj hcb (by decide)) (fun k hk e => hbg (by rw [← e]; exact hk)), hc,
    (t.block _ (lt_of_block h.map) (fun e => block_ne_map hcb h.map e.symm)).trans h.map, h.off, fun y hy => ?_, h.xs, h.perm, h.inv, hpl.trans h.blen, h.ent, h.num, h.cnt⟩
  have hE := h.each y hy
  refine ⟨(t.block _ (lt_of_block hE.held) (block_ne hE.held hcb (by decide))).trans hE.held, hE.slab.turned t (block_ne (show w.heap[y.sb]? = some (.cells _ 131 (0, 0)) from hE.slab) hcb (by decide)), hE.ok.fill hpl fun k hk j hj => ?_⟩
  have hyA := h.mem' hy
  have hkl : k < slB y.x.cls := (h.inv.each _ hyA).lt k hk
  obtain ⟨z, hz, i, hi, hni, e1⟩ := ha
  obtain rfl : a = z.addr i := by omega
  have hne : y.x.addr k ≠ z.addr i := fun e => by
    obtain ⟨e1, e2⟩ := h.inv.tkn_uniq hyA hz hkl hi e
    exact hni (by rw [← e1, ← e2]; exact hk)
  exact put_far H.bs _ v hlen (y.x.addr k) (h.inv.apart8 hyA hz hkl hi hne) j hj

/-- What was written stands there. -/
def BytesOk (bs : List Int) (E : List ME) : Prop := ∀ x ∈ E, ∃ a : Nat, x.k = a ∧ ∀ j, j < 8 → bs.getD (a + j) 0 = x.v
theorem BytesOk.keep {s s' : HP} {bs bs' : List Int} {E E' : List ME} (h : BytesOk bs E) (hm : MapOk s E) (hk : KeepB s.A s'.A bs bs') (hs : ∀ x ∈ E', x ∈ E ∧ Tkn s'.A x.k) : BytesOk bs' E' := fun x hx => by
  obtain ⟨h1, h2⟩ := hs x hx
  obtain ⟨a, e, hb⟩ := h x h1
  refine ⟨a, e, fun j hj => ?_⟩
  have ht := (hm.mem x.k).1 ⟨x, h1, rfl⟩
  rw [e] at ht h2
  rw [hk.keep a ht h2 j hj, hb j hj]
theorem BytesOk.next {pages : Nat} {s : HP} {bs : List Int} {E : List ME} (h : BytesOk bs E) (hg : HInv pages s) (hl : bs.length = 256 * pages) {a : Nat} (ht : Tkn s.A a) (hE : ∀ x ∈ E, x.k ≠ a ∧ Tkn s.A x.k) (v : Int) (b : Nat) : BytesOk (putR bs a (List.replicate 8 v)) (E ++ [⟨a, v, b⟩]) := fun x hx => by
  obtain ⟨c, hc, hfit⟩ := ht.nat hg
  obtain rfl : a = c := by omega
  rcases List.mem_append.1 hx with hx | hx
  · obtain ⟨t, e, hb⟩ := h x hx
    obtain ⟨h1, h2⟩ := hE x hx
    refine ⟨t, e, fun j hj => ?_⟩
    rw [e] at h1 h2
    rw [put_far bs a v (by omega) t (Tkn.apart8 hg h2 ht (by omega)) j hj, hb j hj]
  · rw [List.mem_singleton.1 hx]
    exact ⟨a, rfl, fun j hj => put_near bs a v (by omega) j hj⟩
theorem BytesOk.at {bs : List Int} {E : List ME} (h : BytesOk bs E) (hn : (E.map (·.k)).Nodup) {a : Nat} (ha : ∃ x ∈ E, x.k = (a : Int)) {j : Nat} (hj : j < 8) : bs.getD (a + j) 0 = valE E a := by
  obtain ⟨x, hx, e⟩ := ha
  obtain ⟨c, e2, hb⟩ := h x hx
  obtain rfl : a = c := by omega
  rw [valE_in hn hx e, hb j hj]

/-- Two heaps of one state, and the law's own map beside them. -/
structure TwoI (w wr : World) (x : Nat) (Hx : HL) (y : Nat) (Hy : HL) (pages : Nat) (s : HP) (mb : Nat) (f : Int → Value) (E : List ME) : Prop where
  qx : QuietI w wr x Hx pages s
  qy : QuietI w wr y Hy pages s
  dis : ∀ k, Hx.F k → ¬ Hy.F k
  map : MapAt' wr mb f E
  offx : ¬ Hx.F mb
  offy : ¬ Hy.F mb
  nex : mb ≠ x
  ney : mb ≠ y
  low : w.heap.size ≤ mb
theorem TwoI.below' {w w1 w2 : World} {x : Nat} {Hx : HL} {y : Nat} {Hy : HL} {pages : Nat} {s : HP} {mb : Nat} {f : Int → Value} {E : List ME} (h : TwoI w w1 x Hx y Hy pages s mb f E) (hb : Below w1.heap.size w1 w2) : TwoI w w2 x Hx y Hy pages s mb f E :=
  ⟨h.qx.below' hb, h.qy.below' hb, h.dis, h.map.below hb, h.offx, h.offy, h.nex, h.ney, h.low⟩
theorem TwoI.start {w w1 : World} {x : Nat} {Hx : HL} {y : Nat} {Hy : HL} {pages : Nat} {s : HP} (hx : QuietI w w1 x Hx pages s) (hy : QuietI w w1 y Hy pages s) (hd : ∀ k, Hx.F k → ¬ Hy.F k) (f : Int → Value) : TwoI w (w1.alloc (.map #[] 0)) x Hx y Hy pages s w1.heap.size f [] := by
  have hb : Below w1.heap.size w1 (w1.alloc (.map #[] 0)) := Below.alloc (Below.refl _ _) (Nat.le_refl _) _
  refine ⟨hx.below' hb, hy.below' hb, hd, ⟨0, heap_alloc_new _ _⟩, fun hk => ?_, fun hk => ?_, ?_, ?_, hx.below.size⟩
  · have := hx.at_.heap.lt hk; omega
  · have := hy.at_.heap.lt hk; omega
  · have := lt_of_block hx.at_.obj; omega
  · have := lt_of_block hy.at_.obj; omega
/-- A state of both heaps, halfway: one is a call ahead. -/
structure HalfI (w wr : World) (x : Nat) (Hx : HL) (y : Nat) (Hy : HL) (pages : Nat) (s s' : HP) (mb : Nat) (f : Int → Value) (E : List ME) : Prop where
  qx : QuietI w wr x Hx pages s'
  qy : QuietI w wr y Hy pages s
  dis : ∀ k, Hx.F k → ¬ Hy.F k
  map : MapAt' wr mb f E
  offx : ¬ Hx.F mb
  offy : ¬ Hy.F mb
  nex : mb ≠ x
  ney : mb ≠ y
  low : w.heap.size ≤ mb
theorem TwoI.doX {w w1 w2 : World} {x : Nat} {Hx : HL} {y : Nat} {Hy : HL} {pages : Nat} {s s' : HP} {mb : Nat} {f : Int → Value} {E : List ME} {res : List Int} {err : Int} {e : Ending} (h : TwoI w w1 x Hx y Hy pages s mb f E) (hg : HGood pages s') (hp : DoPost w1 x Hx pages s s' res err e w2) :
    ∃ v Hx', e = .returned (.tuple #[v, .int .i64 err]) ∧ Ints w2 w1.heap.size v res ∧ HalfI w w2 x Hx' y Hy pages s s' mb f E ∧ Hx'.cb = Hx.cb ∧ KeepB s.A s'.A Hx.bs Hx'.bs ∧ Turned Hx.F w1 w2 := by
  obtain ⟨v, H', p1, p2, p3, p4, p5, p6⟩ := hp
  have hyx : ¬ Hx.F y := h.qx.at_.heap.offT h.qy.at_.obj (by decide)
  refine ⟨v, H', p1, p2, ⟨h.qx.next p3 hg p4 p5 p6, h.qy.turned p6 (fun k hk e => h.dis k e hk) hyx h.qx.foot, fun k hk hk2 => ?_, h.map.turned p6 h.offx, fun hk => ?_, h.offy, h.nex, h.ney, h.low⟩, p5.cb, p5.keep, p6⟩
  · rcases p5.foot k hk with e | e
    · exact h.dis k e hk2
    · have := h.qy.at_.heap.lt hk2; omega
  · rcases p5.foot _ hk with e | e
    · exact h.offx e
    · have := h.map.lt; omega
theorem HalfI.doY {w w1 w2 : World} {x : Nat} {Hx : HL} {y : Nat} {Hy : HL} {pages : Nat} {s s' : HP} {mb : Nat} {f : Int → Value} {E : List ME} {res : List Int} {err : Int} {e : Ending} (h : HalfI w w1 x Hx y Hy pages s s' mb f E) (hg : HGood pages s') (hp : DoPost w1 y Hy pages s s' res err e w2) :
    ∃ v Hy', e = .returned (.tuple #[v, .int .i64 err]) ∧ Ints w2 w1.heap.size v res ∧ TwoI w w2 x Hx y Hy' pages s' mb f E ∧ Turned Hy.F w1 w2 := by
  obtain ⟨v, H', p1, p2, p3, p4, p5, p6⟩ := hp
  have hxy : ¬ Hy.F x := h.qy.at_.heap.offT h.qx.at_.obj (by decide)
  refine ⟨v, H', p1, p2, ⟨h.qx.turned p6 (fun k hk e => h.dis k hk e) hxy h.qy.foot, h.qy.next p3 hg p4 p5 p6, fun k hk hk2 => ?_, h.map.turned p6 h.offy, h.offx, fun hk => ?_, h.nex, h.ney, h.low⟩, p6⟩
  · rcases p5.foot k hk2 with e | e
    · exact h.dis k hk e
    · have := h.qx.at_.heap.lt hk; omega
  · rcases p5.foot _ hk with e | e
    · exact h.offy e
    · have := h.map.lt; omega
theorem TwoI.wrote {w w1 : World} {x : Nat} {Hx : HL} {y : Nat} {Hy : HL} {pages : Nat} {s : HP} {mb : Nat} {f : Int → Value} {E E' : List ME} {blk : Obj} (h : TwoI w w1 x Hx y Hy pages s mb f E) (hm : MapAt' (setBlock w1 mb blk) mb f E') : TwoI w (setBlock w1 mb blk) x Hx y Hy pages s mb f E' := by
  have t : Turned (fun k => k = mb) w1 (setBlock w1 mb blk) := Turned.setBlock (F := fun k => k = mb) (Turned.refl _ _) (.inl rfl) _
  exact ⟨h.qx.turned t (fun k hk e => h.offx (e ▸ hk)) (fun e => h.nex e.symm) (fun k e => by have := h.low; omega), h.qy.turned t (fun k hk e => h.offy (e ▸ hk)) (fun e => h.ney e.symm) (fun k e => by have := h.low; omega), h.dis, hm, h.offx, h.offy, h.nex, h.ney, h.low⟩
/-- A fill of a taken slot of the first heap. -/
theorem TwoI.fill {w w1 w2 : World} {x : Nat} {Hx : HL} {y : Nat} {Hy : HL} {pages : Nat} {s : HP} {mb : Nat} {f : Int → Value} {E : List ME} (h : TwoI w w1 x Hx y Hy pages s mb f E) {a : Nat} (ha : Tkn s.A a) {v : Int} {e : Ending} (hd : StoreDone w1 Hx.cl Hx.cb (putR Hx.bs a (List.replicate 8 v)) e w2) :
    TwoI w w2 x { Hx with bs := putR Hx.bs a (List.replicate 8 v) } y Hy pages s mb f E ∧ Turned (fun k => k = Hx.cb) w1 w2 := by
  obtain ⟨-, hc, t⟩ := hd
  have hcF : Hx.F Hx.cb := .inr (.inr (.inr (.inr (.inl rfl))))
  have hxc : x ≠ Hx.cb := block_ne h.qx.at_.obj h.qx.at_.heap.cells.bytes (by decide)
  have hyc : y ≠ Hx.cb := block_ne h.qy.at_.obj h.qx.at_.heap.cells.bytes (by decide)
  have hlow := h.qx.foot _ hcF
  refine ⟨⟨⟨⟨(t.block _ (lt_of_block h.qx.at_.obj) hxc).trans h.qx.at_.obj, h.qx.at_.heap.fill ha hc t⟩, h.qx.good, h.qx.left, h.qx.foot, h.qx.x, h.qx.below.trans (t.below (B := w.heap.size) (fun k e => by rw [e]; exact hlow) h.qx.below.size)⟩,
    h.qy.turned t (fun k hk e => h.dis k (by rw [e]; exact hcF) hk) hyc (fun k e => by rw [e]; exact hlow), h.dis, h.map.turned t (fun e => h.offx (by rw [e]; exact hcF)), h.offx, h.offy, h.nex, h.ney, h.low⟩, t⟩
/-- The bytes that the law is given. -/
def FillAt (w : World) (fv : Option Addr) (fl : Nat) : Prop := ∀ i, i < fl → ∃ g o u, fv = some ⟨g, o, none⟩ ∧ 0 ≤ u ∧ u ≤ 255 ∧ w.cell? ⟨g, o + i, none⟩ = some (.int .u8 u)
theorem FillAt.below {w W : World} {fv : Option Addr} {fl : Nat} (h : FillAt w fv fl) (hb : Below w.heap.size w W) : FillAt W fv fl := fun i hi => by
  obtain ⟨g, o, u, e, h1, h2, hc⟩ := h i hi
  exact ⟨g, o, u, e, h1, h2, cell_past hb (cell_lt hc) hc⟩

end Go.Proofs.YtlljejmblmjjnaaGreat
