/- What lies in memory: the builder, nodes; what a call leaves as it was. -/
import Derived.Test.YtkaoegdfgoojdaaGreatDoorPure
import Derived.WalkSpells
import Derived.WalkLawsBesides
import Derived.Deep.AppendLies
namespace Go.Proofs.YtkaoegdfgoojdaaGreatDoor
open Go Go.RowKit

/-- The builder lies in block B; v: its slice of instructions. -/
structure Bd (w : World) (base B : Nat) (v : Value) (s : BS) : Prop where
  blk : w.heap[B]? = some (.cells #[v, .int .i64 s.groups, .int .i64 s.loops, .bool s.backs, .bool s.full] 69 (0, 0))
  own : w.ownsRow base 74 7 v s.insts.length (flat s.insts)
  ne : v.ownBlock ≠ some B
  hB : base ≤ B
  short : s.insts.length ≤ 3000

/-- From w to w' nothing has turned but block B and v's own row; v' is v's row or a new one. -/
structure Mv (w w' : World) (B : Nat) (v v' : Value) : Prop where
  os : w'.os = w.os
  tape : w'.tape = w.tape
  output : w'.output = w.output
  size : w.heap.size ≤ w'.heap.size
  block : ∀ k, k < w.heap.size → k ≠ B → some k ≠ v.ownBlock → w'.heap[k]? = w.heap[k]?
  row : v'.ownBlock = v.ownBlock ∨ ∃ g, v'.ownBlock = some g ∧ w.heap.size ≤ g

theorem Mv.refl (w : World) (B : Nat) (v : Value) : Mv w w B v v := ⟨rfl, rfl, rfl, Nat.le_refl _, fun _ _ _ _ => rfl, .inl rfl⟩
theorem Mv.trans {a b c : World} {B : Nat} {v v' v'' : Value} (h : Mv a b B v v') (k : Mv b c B v' v'') : Mv a c B v v'' := by
  refine ⟨k.os.trans h.os, k.tape.trans h.tape, k.output.trans h.output, Nat.le_trans h.size k.size, ?_, ?_⟩
  · intro i hi hB hv
    refine (k.block i (Nat.lt_of_lt_of_le hi h.size) hB ?_).trans (h.block i hi hB hv)
    rcases h.row with e | ⟨g, e, hg⟩
    · rw [e]; exact hv
    · rw [e]; intro e2; injection e2 with e2; omega
  · rcases k.row with e | ⟨g, e, hg⟩
    · rw [e]; exact h.row
    · exact .inr ⟨g, e, Nat.le_trans h.size hg⟩
theorem Mv.below {a b : World} {B base : Nat} {v v' : Value} (h : Mv a b B v v') (hB : base ≤ B) (hv : ∀ k, v.ownBlock = some k → base ≤ k) (hs : base ≤ a.heap.size) : Below base a b :=
  ⟨h.os, h.tape, h.output, h.size, fun k hk => h.block k (by omega) (by omega) (fun e => by have := hv k e.symm; omega)⟩
/-- What only made new blocks. -/
theorem Mv.of_below {a b : World} {B : Nat} {v : Value} (h : Below a.heap.size a b) : Mv a b B v v :=
  ⟨h.os, h.tape, h.output, h.size, fun k hk _ _ => h.block k hk, .inl rfl⟩
theorem Mv.drew {a b : World} {B : Nat} {v v' : Value} (h : Mv a b B v v') : Mv a b.drew B v v' := ⟨h.os, h.tape, h.output, h.size, h.block, h.row⟩

section
variable {w : World} {base B : Nat} {v : Value} {s : BS}
theorem Bd.lt (h : Bd w base B v s) : B < w.heap.size := (Array.getElem?_eq_some_iff.1 h.blk).1
theorem Bd.c0 (h : Bd w base B v s) : w.cell? ⟨B, 0, none⟩ = some v := by rw [cell_of_row _ _ _ _ _ _ h.blk]; rfl
theorem Bd.c1 (h : Bd w base B v s) : w.cell? ⟨B, 1, none⟩ = some (.int .i64 s.groups) := by rw [cell_of_row _ _ _ _ _ _ h.blk]; rfl
theorem Bd.c2 (h : Bd w base B v s) : w.cell? ⟨B, 2, none⟩ = some (.int .i64 s.loops) := by rw [cell_of_row _ _ _ _ _ _ h.blk]; rfl
theorem Bd.c3 (h : Bd w base B v s) : w.cell? ⟨B, 3, none⟩ = some (.bool s.backs) := by rw [cell_of_row _ _ _ _ _ _ h.blk]; rfl
theorem Bd.c4 (h : Bd w base B v s) : w.cell? ⟨B, 4, none⟩ = some (.bool s.full) := by rw [cell_of_row _ _ _ _ _ _ h.blk]; rfl
theorem Bd.fz (h : Bd w base B v s) (i : Nat) : w.frozen? ⟨B, i, none⟩ = false := frozen_of_row _ _ _ _ _ h.blk
theorem Bd.ob (h : Bd w base B v s) : ∀ k, v.ownBlock = some k → base ≤ k ∧ k < w.heap.size := h.own.lt
theorem Bd.form (h : Bd w base B v s) : ∃ a c, v = .slice a s.insts.length c := by
  rcases h.own.2 with ⟨rfl, e⟩ | ⟨g, c, _, rfl, _⟩
  · exact ⟨none, 0, by rw [e]⟩
  · exact ⟨_, c, rfl⟩
theorem Bd.of_below {w' : World} (h : Bd w base B v s) (hb : Below w.heap.size w w') : Bd w' base B v s := by
  refine ⟨(hb.block B h.lt).trans h.blk, ?_, h.ne, h.hB, h.short⟩
  refine h.own.kept (row := none) ⟨hb.os, hb.tape, hb.output, hb.size, fun k hk _ => hb.block k hk⟩ ?_
  cases hv : v.ownBlock <;> simp
theorem Bd.alloc (h : Bd w base B v s) (o : Obj) : Bd (w.alloc o) base B v s := h.of_below ((Below.refl _ _).alloc (Nat.le_refl _) _)
theorem Bd.own_set (h : Bd w base B v s) (i : Nat) (u : Value) : (w.setCell ⟨B, i, none⟩ u).ownsRow base 74 7 v s.insts.length (flat s.insts) := by
  refine h.own.kept (row := some B) ⟨rfl, rfl, rfl, by simp [World.setCell], fun k _ hk => Below.heap_setCell _ _ _ _ (fun e => hk (by simp [e]))⟩ (.inr h.ne)
theorem Bd.setFull (h : Bd w base B v s) : Bd (w.setCell ⟨B, 4, none⟩ (.bool true)) base B v { s with full := true } :=
  ⟨(heap_setCell_same w B 4 _ _ _ h.blk).trans rfl, h.own_set _ _, h.ne, h.hB, h.short⟩
theorem Bd.setLoops (h : Bd w base B v s) (n : Int) : Bd (w.setCell ⟨B, 2, none⟩ (.int .i64 n)) base B v { s with loops := n } :=
  ⟨(heap_setCell_same w B 2 _ _ _ h.blk).trans rfl, h.own_set _ _, h.ne, h.hB, h.short⟩
theorem Bd.drew (h : Bd w base B v s) : Bd w.drew base B v s := ⟨h.blk, h.own.drew, h.ne, h.hB, h.short⟩
/-- Behind 'b.Insts = append(b.Insts, i)'. -/
theorem Bd.appended (h : Bd w base B v s) {w1 : World} {g cap : Nat} {i : In} (hn : s.insts.length < 3000)
    (ho : w1.ownsRow base 74 7 (.slice (some ⟨g, 0, none⟩) (s.insts.length + 1) cap) (s.insts.length + 1) (flat s.insts ++ i.cells))
    (hg : w.grownBy w1 v.ownBlock) (hat : v.ownBlock = some g ∨ g = w.heap.size) :
    w1.cell? ⟨B, 0, none⟩ = some v ∧ w1.frozen? ⟨B, 0, none⟩ = false ∧ B < w1.heap.size ∧
    Bd (w1.setCell ⟨B, 0, none⟩ (.slice (some ⟨g, 0, none⟩) (s.insts.length + 1) cap)) base B (.slice (some ⟨g, 0, none⟩) (s.insts.length + 1) cap) { s with insts := s.insts ++ [i] } ∧
    Mv w (w1.setCell ⟨B, 0, none⟩ (.slice (some ⟨g, 0, none⟩) (s.insts.length + 1) cap)) B v (.slice (some ⟨g, 0, none⟩) (s.insts.length + 1) cap) := by
  have hb := hg.block B h.lt (fun e => h.ne e.symm)
  have hb' := hb.trans h.blk
  have hgB : g ≠ B := by
    rcases hat with e | e
    · intro e2; rw [e2] at e; exact h.ne e
    · have := h.lt; omega
  refine ⟨(World.cell?_of_block (a := ⟨B, 0, none⟩) hb).trans h.c0, (World.frozen?_of_block (a := ⟨B, 0, none⟩) hb).trans (h.fz 0), Nat.lt_of_lt_of_le h.lt hg.size, ⟨(heap_setCell_same w1 B 0 _ _ _ hb').trans rfl, ?_, ?_, h.hB, ?_⟩, ?_⟩
  · have ho' := ho.kept (w' := w1.setCell ⟨B, 0, none⟩ (.slice (some ⟨g, 0, none⟩) (s.insts.length + 1) cap)) (row := some B) ⟨rfl, rfl, rfl, by simp [World.setCell], fun k _ hk => Below.heap_setCell _ _ _ _ (fun e => hk (by simp [e]))⟩ (.inr (by simpa [Value.ownBlock] using hgB))
    simpa [flat_snoc] using ho'
  · simpa [Value.ownBlock] using hgB
  · simp; omega
  · refine ⟨hg.os, hg.tape, hg.output, by simpa [World.setCell] using hg.size, fun k hk hB hv => (Below.heap_setCell _ _ _ _ hB).trans (hg.block k hk hv), ?_⟩
    rcases hat with e | e
    · left; rw [e]; rfl
    · right; exact ⟨g, rfl, Nat.le_of_eq e.symm⟩
/-- Two blocks made one behind the other: the second one's cells. -/
theorem news2 (w : World) (o : Obj) (cs : Array Value) (ty : TypeId) : ∀ j u, cs.toList[j]? = some u → ((w.alloc o).alloc (.cells cs ty)).drew.cell? ((⟨w.heap.size + 1, 0, none⟩ : Addr).add j) = some u := by
  refine World.news_of_block (t := ty) (fr := (0, 0)) ?_
  have h := heap_alloc_new (w.alloc o) (.cells cs ty)
  have e : (w.alloc o).heap.size = w.heap.size + 1 := Array.size_push _
  rw [e] at h
  exact h
theorem news1 (w : World) (cs : Array Value) (ty : TypeId) : ∀ j u, cs.toList[j]? = some u → (w.alloc (.cells cs ty)).cell? ((⟨w.heap.size, 0, none⟩ : Addr).add j) = some u :=
  World.news_of_block (t := ty) (fr := (0, 0)) (heap_alloc_new w _)
theorem news1d (w : World) (cs : Array Value) (ty : TypeId) : ∀ j u, cs.toList[j]? = some u → (w.alloc (.cells cs ty)).drew.cell? ((⟨w.heap.size, 0, none⟩ : Addr).add j) = some u :=
  World.news_of_block (t := ty) (fr := (0, 0)) (heap_alloc_new w _)
theorem In.one (i : In) : ∀ u ∈ i.cells, u.oneCell' = true := by
  intro u hu
  simp only [In.cells, List.mem_cons, List.not_mem_nil, or_false] at hu
  rcases hu with rfl | rfl | rfl | rfl | rfl | rfl | rfl <;> rfl
theorem Mv.setB {w : World} {B : Nat} {v : Value} (i : Nat) (u : Value) : Mv w (w.setCell ⟨B, i, none⟩ u) B v v :=
  ⟨rfl, rfl, rfl, by simp [World.setCell], fun k _ hB _ => Below.heap_setCell _ _ _ _ hB, .inl rfl⟩
theorem Mv.alloc {w : World} {B : Nat} {v : Value} (o : Obj) : Mv w (w.alloc o) B v v := Mv.of_below ((Below.refl _ _).alloc (Nat.le_refl _) _)
end
end Go.Proofs.YtkaoegdfgoojdaaGreatDoor
