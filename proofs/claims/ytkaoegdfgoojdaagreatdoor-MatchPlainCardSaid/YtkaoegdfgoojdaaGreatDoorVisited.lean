/- machine.visited where it has not been: the walk (seat 2). -/
import Derived.Test.YtkaoegdfgoojdaaGreatDoorBeen
namespace Go.Proofs.YtkaoegdfgoojdaaGreatDoor
open Go Go.RowKit Go.ChangeMaps
set_option maxRecDepth 100000

/-- All but the blocks that X lets is as it was. -/
structure Bar (X : Nat → Prop) (w w' : World) : Prop where
  os : w'.os = w.os
  tape : w'.tape = w.tape
  output : w'.output = w.output
  size : w.heap.size ≤ w'.heap.size
  block : ∀ k, k < w.heap.size → ¬ X k → w'.heap[k]? = w.heap[k]?

theorem Bar.refl (X : Nat → Prop) (w : World) : Bar X w w := ⟨rfl, rfl, rfl, Nat.le_refl _, fun _ _ _ => rfl⟩
theorem Bar.trans {X : Nat → Prop} {a b c : World} (h : Bar X a b) (g : Bar X b c) : Bar X a c :=
  ⟨g.os.trans h.os, g.tape.trans h.tape, g.output.trans h.output, Nat.le_trans h.size g.size, fun k hk hX => (g.block k (Nat.lt_of_lt_of_le hk h.size) hX).trans (h.block k hk hX)⟩
theorem Bar.mono {X Y : Nat → Prop} {a b : World} (h : Bar X a b) (hXY : ∀ k, k < a.heap.size → X k → Y k) : Bar Y a b := ⟨h.os, h.tape, h.output, h.size, fun k hk hY => h.block k hk (fun hX => hY (hXY k hk hX))⟩
theorem Bar.of_below {X : Nat → Prop} {a b : World} (h : Below a.heap.size a b) : Bar X a b := ⟨h.os, h.tape, h.output, h.size, fun k hk _ => h.block k hk⟩
theorem Bar.set {X : Nat → Prop} {a b : World} (h : Bar X a b) (p : Addr) (u : Value) (hp : X p.block ∨ a.heap.size ≤ p.block) : Bar X a (b.setCell p u) := by
  refine ⟨h.os, h.tape, h.output, by simpa [World.setCell] using h.size, fun k hk hX => ?_⟩
  have hne : k ≠ p.block := by
    intro e
    rcases hp with hp | hp
    · exact hX (e ▸ hp)
    · omega
  exact (Below.heap_setCell _ _ _ _ hne).trans (h.block k hk hX)
theorem Bar.cell {X : Nat → Prop} {a b : World} (h : Bar X a b) {p : Addr} (hp : p.block < a.heap.size) (hX : ¬ X p.block) : b.cell? p = a.cell? p := World.cell?_of_block (h.block _ hp hX)
theorem Bar.alloc {X : Nat → Prop} {a b : World} (h : Bar X a b) (o : Obj) : Bar X a (b.alloc o) := h.trans (Bar.of_below ((Below.refl _ _).alloc (Nat.le_refl _) o))
theorem Bar.drew {X : Nat → Prop} {a b : World} (h : Bar X a b) : Bar X a b.drew := ⟨h.os, h.tape, h.output, h.size, h.block⟩

set_option maxHeartbeats 1600000 in
theorem visited_new (w : World) (M b : Nat) (log : List (Nat × Nat)) (pc at_ : Nat) (hp : pc ≤ 1048576) (ha : at_ ≤ 1048576) (hM : M < w.heap.size) (hne : M ≠ b)
    (h3 : w.cell? ⟨M, 3, none⟩ = some (.bool false)) (h6 : w.cell? ⟨M, 6, none⟩ = some (.slice none 0 0)) (h7 : w.cell? ⟨M, 7, none⟩ = some (.map (some b))) (hB : Been w b log) (hn : (pc, at_) ∉ log) :
    Calls Tryz.prog 31 #[.pointer (some ⟨M, 0, none⟩), .int .i64 pc, .int .i64 at_] w fun e w' => e = .returned (.bool false) ∧ Been w' b ((pc, at_) :: log) ∧ Bar (fun k => k = b) w w' := by
  have HB := Lib.hid hB
  have HN := Lib.hid hn
  clear hB hn
  go_enter Tryz.func31, Tryz.ntmps31
  go_wp2_with fail
  refine (numbers_nil _).mono ?_
  rintro e w2 ⟨rfl, hb⟩
  have c3 : w2.cell? ⟨M, 3, none⟩ = some (.bool false) := (hb.cell (p := ⟨M, 3, none⟩) hM).trans h3
  have c7 : w2.cell? ⟨M, 7, none⟩ = some (.map (some b)) := (hb.cell (p := ⟨M, 7, none⟩) hM).trans h7
  have HBL := Lib.hid hb
  have HB2 := Lib.hid (HB.out.kept (hb.block b HB.out.lt))
  have hM2 : M < w2.heap.size := Nat.lt_of_lt_of_le hM hb.size
  have hlt2 := Lib.hid HB2.out.lt
  have hA := (Below.refl w2.heap.size w2).alloc (Nat.le_refl _) (.cells #[.int .i64 pc, .int .i64 at_, .string ByteArray.empty] 126)
  have HA := Lib.hid hA
  have HB3 := Lib.hid (HB2.out.kept (hA.block b HB2.out.lt))
  obtain ⟨o1, o2, st, q1, q2, q3⟩ := HB3.out.visit pc at_ hp ha HN.out
  have Q1 := Lib.hid q1
  have Q2 := Lib.hid q2
  have Q3 := Lib.hid q3
  have k7 := (hA.cell (p := ⟨M, 7, none⟩) hM2).trans c7
  have r8 := heap_alloc_new w2 (.cells #[.int .i64 pc, .int .i64 at_, .string ByteArray.empty] 126)
  have hz3 : w2.heap.size < (w2.alloc (.cells #[.int .i64 pc, .int .i64 at_, .string ByteArray.empty] 126)).heap.size := by simp
  have HR8 := Lib.hid r8
  have HZ3 := Lib.hid hz3
  clear h3 h6 h7 hb q1 q2 q3 hA r8 hz3
  go_wp2_with fail
  generalize w2.alloc (.cells #[.int .i64 pc, .int .i64 at_, .string ByteArray.empty] 126) = W3 at *
  have r80 : W3.cell? ⟨w2.heap.size, 0, none⟩ = some (.int .i64 pc) := cell_of HR8.out (j := 0) rfl
  have r81 : W3.cell? ⟨w2.heap.size, 1, none⟩ = some (.int .i64 at_) := cell_of HR8.out (j := 1) rfl
  have r82 : W3.cell? ⟨w2.heap.size, 2, none⟩ = some (.string ByteArray.empty) := cell_of HR8.out (j := 2) rfl
  obtain ⟨es, clock, hbm, _⟩ := HB3.out
  obtain ⟨p1, p2, p3⟩ := Q1.out W3.drew rfl
  obtain ⟨s1, s2, s3⟩ := Q2.out (setBlock W3.drew b o1) p3
  have hoth : ∀ i, i ≠ b → (setBlock (setBlock W3.drew b o1) b o2).heap[i]? = W3.heap[i]? := fun i hi => by
    simp only [setBlock, Array.getElem?_setIfInBounds_ne (Ne.symm hi)]
    rfl
  have hsz : (setBlock (setBlock W3.drew b o1) b o2).heap.size = W3.heap.size := by simp [setBlock]
  have HBAR := Lib.hid (show Bar (fun k => k = b) w (setBlock (setBlock W3.drew b o1) b o2) from
    ((Bar.of_below HBL.out).trans (Bar.of_below HA.out)).trans ⟨rfl, rfl, rfl, by rw [hsz]; exact Nat.le_refl _, fun k _ hk => hoth k hk⟩)
  have HOTH := Lib.hid hoth
  have hM3 := Lib.hid (Nat.lt_of_lt_of_le hM2 HA.out.size)
  have hne2 : w2.heap.size ≠ b := by have := hlt2.out; omega
  obtain ⟨t1, t2⟩ := Q3.out ((setBlock (setBlock W3.drew b o1) b o2).drew) s3
  unfold stateV at p1 p2 s1 t1
  have HT2 := Lib.hid t2
  have hx7 := Lib.hid ((World.cell?_of_block (a := ⟨M, 7, none⟩) (hoth M hne)).trans k7)
  have hx0 := Lib.hid ((World.cell?_of_block (a := ⟨w2.heap.size, 0, none⟩) (hoth _ hne2)).trans r80)
  have hx1 := Lib.hid ((World.cell?_of_block (a := ⟨w2.heap.size, 1, none⟩) (hoth _ hne2)).trans r81)
  have hx2 := Lib.hid ((World.cell?_of_block (a := ⟨w2.heap.size, 2, none⟩) (hoth _ hne2)).trans r82)
  have HT1 := Lib.hid t1
  clear p3 s3 t1 t2 hoth hsz hbm hM2 hne2
  go_region
  all_goals
    generalize setBlock (setBlock W3.drew b o1) b o2 = W5 at *
    have t1 := HT1.out
    have x7 := hx7.out
    have x0 := hx0.out
    have x1 := hx1.out
    have x2 := hx2.out
    clear p1 p2 s1 s2 k7 r80 r81 r82
    go_wp2_with fail
    go_region
    all_goals
      go_wp2_with fail
      go_ret
      exact ⟨rfl, HT2.out.kept rfl, HBAR.out.drew⟩
end Go.Proofs.YtkaoegdfgoojdaaGreatDoor
