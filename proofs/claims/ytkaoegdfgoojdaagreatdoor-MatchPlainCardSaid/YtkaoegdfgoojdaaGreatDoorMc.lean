/- The deferred closure of machine.run: the walk (seat 2). -/
import Derived.Test.YtkaoegdfgoojdaaGreatDoorVisited
import Derived.Defers
namespace Go.Proofs.YtkaoegdfgoojdaaGreatDoor
open Go Go.RowKit
set_option maxRecDepth 100000

set_option maxHeartbeats 800000 in
theorem restore_any (u : FrameMode) (w : World) (M a b c : Nat) (sa : Option Addr) (sn sc : Nat) (o5 o6 : Value) (hM : M < w.heap.size) (hc : w.cell? ⟨c, 0, none⟩ = some (.pointer (some ⟨M, 0, none⟩))) (ha : w.cell? ⟨a, 0, none⟩ = some (.slice sa sn sc)) (hb : w.cell? ⟨b, 0, none⟩ = some (.slice none 0 0))
    (h5 : w.cell? ⟨M, 5, none⟩ = some o5) (f5 : w.frozen? ⟨M, 5, none⟩ = false) (h6 : w.cell? ⟨M, 6, none⟩ = some o6) (f6 : w.frozen? ⟨M, 6, none⟩ = false) :
    CallsD Tryz.prog 29 #[.pointer (some ⟨a, 0, none⟩), .pointer (some ⟨b, 0, none⟩), .pointer (some ⟨c, 0, none⟩)] u w fun e u' w' => u' = u ∧ (e = .returned (.tuple #[]) ∧ w' = (w.setCell ⟨M, 5, none⟩ (.slice sa sn sc)).setCell ⟨M, 6, none⟩ (.slice none 0 0)) := by
  go_enter_d Tryz.func29, Tryz.ntmps29
  go_wp2
  go_end0
  first | exact ⟨rfl, rfl⟩ | trace_state
end Go.Proofs.YtkaoegdfgoojdaaGreatDoor

/- The machine in memory (seat 2). -/
namespace Go.Proofs.YtkaoegdfgoojdaaGreatDoor
open Go Go.RowKit
set_option maxRecDepth 100000

/-- A slice of ints that is only read, in a block that is neither the machine's nor the map's. -/
def Sl (w : World) (M b : Nat) (l : List Int) (x : Value) : Prop :=
  ∃ g c, x = .slice (some ⟨g, 0, none⟩) l.length c ∧ g < w.heap.size ∧ g ≠ M ∧ g ≠ b ∧ l.length ≤ 1048576 ∧ ∀ j u, (l.map (Value.int .i64))[j]? = some u → w.cell? ⟨g, j, none⟩ = some u

theorem Sl.rdi {w : World} {M b : Nat} {l : List Int} {x : Value} (h : Sl w M b l x) : Rdi w w.heap.size l x := by
  obtain ⟨g, c, rfl, h1, _, _, h2, h3⟩ := h
  exact ⟨g, 0, c, rfl, h1, h2, fun j u hu => by rw [Nat.zero_add]; exact h3 j u hu⟩
def MbX (M b : Nat) : Nat → Prop := fun k => k = M ∨ k = b
theorem Sl.bar {w w' : World} {M b : Nat} {l : List Int} {x : Value} (h : Sl w M b l x) (hb : Bar (MbX M b) w w') : Sl w' M b l x := by
  obtain ⟨g, c, e, h1, h2, h3, h4, h5⟩ := h
  refine ⟨g, c, e, Nat.lt_of_lt_of_le h1 hb.size, h2, h3, h4, fun j u hu => ?_⟩
  rw [hb.cell (p := ⟨g, j, none⟩) h1 (fun e => e.elim h2 h3)]
  exact h5 j u hu
theorem Sl.of_own {w : World} {N M b g cap : Nat} {l : List Int} (hM : M < N) (hb : b < N) (hl : l.length ≤ 1048576) (ho : w.ownsRow N 3 1 (.slice (some ⟨g, 0, none⟩) l.length cap) l.length (l.map (Value.int .i64))) : Sl w M b l (.slice (some ⟨g, 0, none⟩) l.length cap) := by
  obtain ⟨h1, h2⟩ := ho.lt g rfl
  refine ⟨g, cap, rfl, h2, by omega, by omega, hl, fun j u hu => ?_⟩
  rw [ho.cellAt j (by have := (List.getElem?_eq_some_iff.1 hu).1; simpa using this)]
  exact hu

theorem flat_get : ∀ (p : List In) (pc : Nat) (i : In), p[pc]? = some i → ∀ j, j < 7 → (flat p)[pc * 7 + j]? = i.cells[j]?
  | [], pc, i, h, _, _ => by simp at h
  | a :: r, 0, i, h, j, hj => by
    simp only [List.getElem?_cons_zero, Option.some.injEq] at h
    subst h
    rw [Nat.zero_mul, Nat.zero_add]
    exact List.getElem?_append_left (by rw [In.cells_length]; exact hj)
  | a :: r, pc + 1, i, h, j, hj => by
    have := flat_get r pc i (by simpa using h) j hj
    rw [← this]
    have e : (pc + 1) * 7 + j = a.cells.length + (pc * 7 + j) := by rw [In.cells_length]; omega
    rw [e]
    exact List.getElem?_append_right (by omega) |>.trans (by simp [flat, List.flatMap])

/-- The machine in block M, its map in block b. -/
structure Mc (w : World) (M b gi icap : Nat) (p : List In) (G E : Int) (s : ByteArray) (sl : List Int) (slv bestv : Value) (m : MB) : Prop where
  blk : w.heap[M]? = some (.cells #[.slice (some ⟨gi, 0, none⟩) p.length icap, .int .i64 G, .int .i64 E, .bool false, .string s, slv, .slice none 0 0, .map (some b), bestv] 61 (0, 0))
  been : Been w b m.log
  ne : M ≠ b
  at_ : gi < w.heap.size ∧ gi ≠ M ∧ gi ≠ b
  ins : ∀ j u, (flat p)[j]? = some u → w.cell? ⟨gi, j, none⟩ = some u
  sl : Sl w M b sl slv
  best : (m.best = [] ∧ bestv = .slice none 0 0) ∨ (1 < m.best.length ∧ Sl w M b m.best bestv)

section
variable {w w' : World} {M b gi icap : Nat} {p : List In} {G E : Int} {s : ByteArray} {sl : List Int} {slv bestv : Value} {m : MB}
theorem Mc.lt (h : Mc w M b gi icap p G E s sl slv bestv m) : M < w.heap.size := (Array.getElem?_eq_some_iff.1 h.blk).1
theorem Mc.c0 (h : Mc w M b gi icap p G E s sl slv bestv m) : w.cell? ⟨M, 0, none⟩ = some (.slice (some ⟨gi, 0, none⟩) p.length icap) := cell_of h.blk (j := 0) rfl
theorem Mc.c3 (h : Mc w M b gi icap p G E s sl slv bestv m) : w.cell? ⟨M, 3, none⟩ = some (.bool false) := cell_of h.blk (j := 3) rfl
theorem Mc.c4 (h : Mc w M b gi icap p G E s sl slv bestv m) : w.cell? ⟨M, 4, none⟩ = some (.string s) := cell_of h.blk (j := 4) rfl
theorem Mc.c5 (h : Mc w M b gi icap p G E s sl slv bestv m) : w.cell? ⟨M, 5, none⟩ = some slv := cell_of h.blk (j := 5) rfl
theorem Mc.c6 (h : Mc w M b gi icap p G E s sl slv bestv m) : w.cell? ⟨M, 6, none⟩ = some (.slice none 0 0) := cell_of h.blk (j := 6) rfl
theorem Mc.c7 (h : Mc w M b gi icap p G E s sl slv bestv m) : w.cell? ⟨M, 7, none⟩ = some (.map (some b)) := cell_of h.blk (j := 7) rfl
theorem Mc.c8 (h : Mc w M b gi icap p G E s sl slv bestv m) : w.cell? ⟨M, 8, none⟩ = some bestv := cell_of h.blk (j := 8) rfl
theorem Mc.fz (h : Mc w M b gi icap p G E s sl slv bestv m) (i : Nat) : w.frozen? ⟨M, i, none⟩ = false := frozen_of_row w M i _ _ h.blk
theorem Mc.bar (h : Mc w M b gi icap p G E s sl slv bestv m) (hb : Bar (MbX M b) w w') (hM : w'.heap[M]? = w.heap[M]?) {m' : MB} (hbn : Been w' b m'.log) (he : m'.best = m.best) : Mc w' M b gi icap p G E s sl slv bestv m' := by
  refine ⟨hM.trans h.blk, hbn, h.ne, ⟨Nat.lt_of_lt_of_le h.at_.1 hb.size, h.at_.2⟩, fun j u hu => ?_, h.sl.bar hb, by rw [he]; exact h.best.imp_right fun ⟨h1, h2⟩ => ⟨h1, h2.bar hb⟩⟩
  rw [hb.cell (p := ⟨gi, j, none⟩) h.at_.1 (fun e => e.elim h.at_.2.1 h.at_.2.2)]
  exact h.ins j u hu
theorem Mc.below (h : Mc w M b gi icap p G E s sl slv bestv m) (hb : Below w.heap.size w w') : Mc w' M b gi icap p G E s sl slv bestv m :=
  h.bar (Bar.of_below hb) (hb.block M h.lt) (h.been.kept (hb.block b h.been.lt)) rfl
theorem Mc.seen (h : Mc w M b gi icap p G E s sl slv bestv m) (hb : Bar (fun k => k = b) w w') {log : List (Nat × Nat)} (hbn : Been w' b log) : Mc w' M b gi icap p G E s sl slv bestv { m with log := log } :=
  h.bar (hb.mono fun k _ e => .inr e) (hb.block M h.lt h.ne) hbn rfl

/-- A store into the machine's block. -/
theorem Mc.store (h : Mc w M b gi icap p G E s sl slv bestv m) (i : Nat) (u : Value) {slv' bestv' : Value} {sl' : List Int} {m' : MB}
    (hrow : #[.slice (some ⟨gi, 0, none⟩) p.length icap, .int .i64 G, .int .i64 E, .bool false, .string s, slv, .slice none 0 0, .map (some b), bestv].setIfInBounds i u = #[.slice (some ⟨gi, 0, none⟩) p.length icap, .int .i64 G, .int .i64 E, .bool false, .string s, slv', .slice none 0 0, .map (some b), bestv'])
    (hlog : m'.log = m.log) (hsl : Sl w M b sl' slv') (hbest : (m'.best = [] ∧ bestv' = .slice none 0 0) ∨ (1 < m'.best.length ∧ Sl w M b m'.best bestv')) : Mc (w.setCell ⟨M, i, none⟩ u) M b gi icap p G E s sl' slv' bestv' m' := by
  have hB : Bar (MbX M b) w (w.setCell ⟨M, i, none⟩ u) := (Bar.refl _ _).set ⟨M, i, none⟩ u (.inl (.inl rfl))
  refine ⟨?_, ?_, h.ne, ⟨Nat.lt_of_lt_of_le h.at_.1 hB.size, h.at_.2⟩, fun j u hu => ?_, hsl.bar hB, hbest.imp_right fun ⟨h1, h2⟩ => ⟨h1, h2.bar hB⟩⟩
  · rw [heap_setCell_same w M i _ _ _ h.blk, ← hrow]
  · rw [hlog]
    exact h.been.kept (Below.heap_setCell _ _ _ _ (fun e => h.ne e.symm))
  · rw [hB.cell (p := ⟨gi, j, none⟩) h.at_.1 (fun e => e.elim h.at_.2.1 h.at_.2.2)]
    exact h.ins j u hu
theorem Mc.setSlots (h : Mc w M b gi icap p G E s sl slv bestv m) {sl' : List Int} {slv' : Value} (hsl : Sl w M b sl' slv') : Mc (w.setCell ⟨M, 5, none⟩ slv') M b gi icap p G E s sl' slv' bestv m :=
  h.store 5 slv' rfl rfl hsl h.best
theorem Mc.setEntered (h : Mc w M b gi icap p G E s sl slv bestv m) : Mc (w.setCell ⟨M, 6, none⟩ (.slice none 0 0)) M b gi icap p G E s sl slv bestv m :=
  h.store 6 _ rfl rfl h.sl h.best
theorem Mc.setBest (h : Mc w M b gi icap p G E s sl slv bestv m) {l : List Int} {v : Value} (hl : 1 < l.length) (hs : Sl w M b l v) : Mc (w.setCell ⟨M, 8, none⟩ v) M b gi icap p G E s sl slv v { m with best := l } :=
  h.store 8 v rfl rfl h.sl (.inr ⟨hl, hs⟩)
/-- Behind the deferred closure. -/
theorem Mc.restored (h : Mc w M b gi icap p G E s sl slv bestv m) {sl' : List Int} {slv' : Value} (hsl : Sl w M b sl' slv') : Mc ((w.setCell ⟨M, 5, none⟩ slv').setCell ⟨M, 6, none⟩ (.slice none 0 0)) M b gi icap p G E s sl' slv' bestv m :=
  (h.setSlots hsl).setEntered
/-- A store into the slots' own row. -/
theorem Mc.saved (h : Mc w M b gi icap p G E s sl slv bestv m) {N g cap : Nat} (hM : M < N) (hbN : b < N) (hgi : gi < N) (hbest : ∀ gb c n, bestv = .slice (some ⟨gb, 0, none⟩) n c → gb < N) (hl : sl.length ≤ 1048576)
    (ho : w.ownsRow N 3 1 (.slice (some ⟨g, 0, none⟩) sl.length cap) sl.length (sl.map (Value.int .i64))) (x : Nat) (v : Int) (e : slv = .slice (some ⟨g, 0, none⟩) sl.length cap) :
    Mc (w.setCell ⟨g, x, none⟩ (.int .i64 v)) M b gi icap p G E s (sl.set x v) slv bestv m := by
  obtain ⟨h1, h2⟩ := ho.lt g rfl
  have hne : ∀ k, k < N → k ≠ g := fun k hk e => by omega
  have hblk : ∀ k, k < N → (w.setCell ⟨g, x, none⟩ (.int .i64 v)).heap[k]? = w.heap[k]? := fun k hk => Below.heap_setCell _ _ _ _ (hne k hk)
  have hsz : (w.setCell ⟨g, x, none⟩ (.int .i64 v)).heap.size = w.heap.size := by simp [World.setCell]
  have hst := (ho.stored x (.int .i64 v)).1
  refine ⟨(hblk M hM).trans h.blk, h.been.kept (hblk b hbN), h.ne, by rw [hsz]; exact h.at_, fun j u hu => ?_, ?_, h.best.imp_right fun ⟨h1, gb, c, e1, a1, a2, a3, a4, a5⟩ => ⟨h1, gb, c, e1, by rw [hsz]; exact a1, a2, a3, a4, fun j u hu => ?_⟩⟩
  · exact (World.cell?_of_block (a := ⟨gi, j, none⟩) (hblk gi hgi)).trans (h.ins j u hu)
  · have : sl.length = (sl.set x v).length := by simp
    rw [e]
    have hst' : (w.setCell ⟨g, x, none⟩ (.int .i64 v)).ownsRow N 3 1 (.slice (some ⟨g, 0, none⟩) (sl.set x v).length cap) (sl.set x v).length ((sl.set x v).map (Value.int .i64)) := by
      rw [← this, List.map_set]; exact hst
    rw [this]
    exact Sl.of_own hM hbN (by rw [← this]; exact hl) hst'
  · exact (World.cell?_of_block (a := ⟨gb, j, none⟩) (hblk gb (hbest gb c _ e1))).trans (a5 j u hu)
end

/-- machine.found, in all cases. -/
theorem found_any {w : World} {M b gi icap : Nat} {p : List In} {G E : Int} {s : ByteArray} {sl : List Int} {slv bestv : Value} {m : MB} (h : Mc w M b gi icap p G E s sl slv bestv m) (hsl : 1 < sl.length) (at_ : Nat) :
    Calls Tryz.prog 30 #[.pointer (some ⟨M, 0, none⟩), .int .i64 at_] w fun e w' => e = .returned (.tuple #[]) ∧ Bar (MbX M b) w w' ∧ ∃ best9, Mc w' M b gi icap p G E s sl slv best9 (bestS sl at_ m) := by
  have hb := h.been.lt
  have hl : sl.length ≤ 1048576 := by obtain ⟨_, _, _, _, _, _, hl, _⟩ := h.sl; exact hl
  have fin : ∀ (w' w1 : World) (g cap : Nat), Below w.heap.size w w1 → w1.ownsRow w.heap.size 3 1 (.slice (some ⟨g, 0, none⟩) sl.length cap) sl.length (sl.map (Value.int .i64)) → w' = w1.setCell ⟨M, 8, none⟩ (.slice (some ⟨g, 0, none⟩) sl.length cap) →
      Bar (MbX M b) w w' ∧ ∃ best9, Mc w' M b gi icap p G E s sl slv best9 { m with best := sl } := by
    rintro w' w1 g cap h1 h2 rfl
    exact ⟨(Bar.of_below h1).set _ _ (.inl (.inl rfl)), _, (h.below h1).setBest hsl (Sl.of_own h.lt hb hl h2)⟩
  rcases h.best with ⟨e1, e2⟩ | ⟨h1, g, c, e2, a1, a2, a3, a4, a5⟩
  · refine (found_first w M w.heap.size sl slv at_ (by omega) (Nat.le_refl _) h.lt h.c5 (by rw [h.c8, e2]) (h.fz 8) h.sl.rdi).mono ?_
    rintro e w' ⟨rfl, w1, g, cap, h1, h2, h3⟩
    have : bestS sl at_ m = { m with best := sl } := by simp [bestS, e1]
    rw [this]
    exact ⟨rfl, fin w' w1 g cap h1 h2 h3⟩
  · have hbe := a5 1 (.int .i64 (m.best.getD 1 0)) (by simp [List.getD, h1])
    have hne : m.best ≠ [] := by intro e; rw [e] at h1; simp at h1
    by_cases hlt : m.best.getD 1 0 < (at_ : Int)
    · refine (found_longer w M w.heap.size sl slv at_ g m.best.length c (by omega) (Nat.le_refl _) h.lt h.c5 (by rw [h.c8, e2]) h1 _ hbe hlt (h.fz 8) h.sl.rdi).mono ?_
      rintro e w' ⟨rfl, w1, g, cap, h1, h2, h3⟩
      have : bestS sl at_ m = { m with best := sl } := by unfold bestS; rw [if_pos (.inr hlt)]
      rw [this]
      exact ⟨rfl, fin w' w1 g cap h1 h2 h3⟩
    · refine (found_not w M w.heap.size sl slv at_ g m.best.length c (by omega) (Nat.le_refl _) h.lt h.c5 (by rw [h.c8, e2]) h1 _ hbe hlt (h.fz 8) h.sl.rdi).mono ?_
      rintro e w' ⟨rfl, rfl⟩
      have : bestS sl at_ m = m := by unfold bestS; rw [if_neg (by rintro (e | e); exact hne e; exact hlt e)]
      rw [this]
      exact ⟨rfl, Bar.refl _ _, _, h⟩
end Go.Proofs.YtkaoegdfgoojdaaGreatDoor
