/- Stores into the builder's instructions; a slice of ints of the call's own. -/
import Derived.Test.YtkaoegdfgoojdaaGreatDoorHeap
namespace Go.Proofs.YtkaoegdfgoojdaaGreatDoor
open Go Go.RowKit

theorem modify_length {α : Type} (l : List α) (j : Nat) (f : α → α) : (l.modify j f).length = l.length := by simp

theorem flat_setY (l : List In) (j : Nat) (v : Int) (hj : j < l.length) : flat (l.modify j fun x => { x with y := v }) = (flat l).set (j * 7 + 6) (.int .i64 v) := by
  induction l generalizing j with
  | nil => simp at hj
  | cons a l ih =>
    cases j with
    | zero => simp [flat, In.cells]
    | succ j =>
      have h := ih j (by simpa using hj)
      have e : (j + 1) * 7 + 6 = a.cells.length + (j * 7 + 6) := by rw [In.cells_length]; omega
      simp only [flat, List.modify_succ_cons, List.flatMap_cons] at h ⊢
      rw [e, List.set_append_right _ _ (by omega), h]
      congr 2
      omega
theorem flat_setX (l : List In) (j : Nat) (v : Int) (hj : j < l.length) : flat (l.modify j fun x => { x with x := v }) = (flat l).set (j * 7 + 5) (.int .i64 v) := by
  induction l generalizing j with
  | nil => simp at hj
  | cons a l ih =>
    cases j with
    | zero => simp [flat, In.cells]
    | succ j =>
      have h := ih j (by simpa using hj)
      have e : (j + 1) * 7 + 5 = a.cells.length + (j * 7 + 5) := by rw [In.cells_length]; omega
      simp only [flat, List.modify_succ_cons, List.flatMap_cons] at h ⊢
      rw [e, List.set_append_right _ _ (by omega), h]
      congr 2
      omega

section
variable {w : World} {base B g cap : Nat} {s : BS}
theorem Bd.cellAt (h : Bd w base B (.slice (some ⟨g, 0, none⟩) s.insts.length cap) s) (j d : Nat) (hj : j < s.insts.length) (hd : d < 7) :
    ∃ u, w.cell? ⟨g, j * 7 + d, none⟩ = some u := by
  have hlt : j * 7 + d < (flat s.insts).length := by rw [flat_length]; omega
  refine ⟨(flat s.insts)[j * 7 + d], ?_⟩
  rw [h.own.cellAt (j * 7 + d) (by omega)]
  exact List.getElem?_eq_getElem hlt
theorem Bd.frozenAt (h : Bd w base B (.slice (some ⟨g, 0, none⟩) s.insts.length cap) s) (j : Nat) : w.frozen? ⟨g, j, none⟩ = false := h.own.frozenAt j
theorem Bd.stored (h : Bd w base B (.slice (some ⟨g, 0, none⟩) s.insts.length cap) s) (p : Nat) (u : Value) (l : List In) (hl : l.length = s.insts.length) (hf : flat l = (flat s.insts).set p u) :
    Bd (w.setCell ⟨g, p, none⟩ u) base B (.slice (some ⟨g, 0, none⟩) s.insts.length cap) { s with insts := l } ∧
    Mv w (w.setCell ⟨g, p, none⟩ u) B (.slice (some ⟨g, 0, none⟩) s.insts.length cap) (.slice (some ⟨g, 0, none⟩) s.insts.length cap) := by
  have hs := h.own.stored p u
  have hne : B ≠ g := fun e => h.ne (by simp [Value.ownBlock, e])
  refine ⟨⟨(Below.heap_setCell _ _ _ _ hne).trans h.blk, ?_, h.ne, h.hB, by simpa [hl] using h.short⟩, ⟨rfl, rfl, rfl, by simp [World.setCell], fun k _ _ hk => Below.heap_setCell _ _ _ _ (fun e => hk (by simp [Value.ownBlock, e])), .inl rfl⟩⟩
  rw [← hf] at hs
  simpa [hl] using hs.1
theorem Bd.storedY (h : Bd w base B (.slice (some ⟨g, 0, none⟩) s.insts.length cap) s) (j : Nat) (n : Int) (hj : j < s.insts.length) :
    Bd (w.setCell ⟨g, j * 7 + 6, none⟩ (.int .i64 n)) base B (.slice (some ⟨g, 0, none⟩) s.insts.length cap) (setY s j n) ∧
    Mv w (w.setCell ⟨g, j * 7 + 6, none⟩ (.int .i64 n)) B (.slice (some ⟨g, 0, none⟩) s.insts.length cap) (.slice (some ⟨g, 0, none⟩) s.insts.length cap) :=
  h.stored _ _ _ (by simp) (flat_setY _ _ _ hj)
theorem Bd.storedX (h : Bd w base B (.slice (some ⟨g, 0, none⟩) s.insts.length cap) s) (j : Nat) (n : Int) (hj : j < s.insts.length) :
    Bd (w.setCell ⟨g, j * 7 + 5, none⟩ (.int .i64 n)) base B (.slice (some ⟨g, 0, none⟩) s.insts.length cap) (setX s j n) ∧
    Mv w (w.setCell ⟨g, j * 7 + 5, none⟩ (.int .i64 n)) B (.slice (some ⟨g, 0, none⟩) s.insts.length cap) (.slice (some ⟨g, 0, none⟩) s.insts.length cap) :=
  h.stored _ _ _ (by simp) (flat_setX _ _ _ hj)
theorem Bd.some_form {v : Value} (h : Bd w base B v s) (hn : 0 < s.insts.length) : ∃ g cap, v = .slice (some ⟨g, 0, none⟩) s.insts.length cap ∧ s.insts.length ≤ cap ∧ cap ≤ 9223372036854775807 := by
  rcases h.own.2 with ⟨_, e⟩ | ⟨g, c, _, rfl, _, _, h1, h2, _⟩
  · omega
  · exact ⟨g, c, rfl, h1, by unfold maxLen at h2; omega⟩
end

/-- A block that was made behind the builder is as it was. -/
theorem Mv.kept {w W0 wr : World} {base B : Nat} {v v1 : Value} {s : BS} (H : Bd w base B v s) (hz : w.heap.size < W0.heap.size) (hm : Mv W0 wr B v v1) : wr.heap[w.heap.size]? = W0.heap[w.heap.size]? :=
  hm.block w.heap.size hz (by have := H.lt; omega) (fun e => by have := (H.ob _ e.symm).2; omega)
theorem cell_of {w : World} {b j : Nat} {cs : Array Value} {t : TypeId} {fr : Nat × Nat} {u : Value} (h : w.heap[b]? = some (.cells cs t fr)) (hu : cs[j]? = some u) : w.cell? ⟨b, j, none⟩ = some u := by
  rw [cell_of_row _ _ _ _ _ _ h]; exact hu

/-- A slice of ints that the call made: the jumps, the splits. -/
structure Ints (w : World) (N : Nat) (J : Value) (l : List Nat) (B : Nat) (v : Value) : Prop where
  own : w.ownsRow N 3 1 J l.length (l.map fun (n : Nat) => Value.int .i64 n)
  neB : J.ownBlock ≠ some B
  neV : J.ownBlock = none ∨ J.ownBlock ≠ v.ownBlock

theorem Ints.nil (w : World) (N B : Nat) (v : Value) : Ints w N (.slice none 0 0) [] B v := ⟨World.ownsRow_nil _ _ _ _, by simp [Value.ownBlock], .inl rfl⟩
theorem Ints.lt {w : World} {N : Nat} {J : Value} {l : List Nat} {B : Nat} {v : Value} (h : Ints w N J l B v) : ∀ k, J.ownBlock = some k → k < w.heap.size := fun k hk => (h.own.lt k hk).2
theorem Ints.move {w w' : World} {N : Nat} {J : Value} {l : List Nat} {B : Nat} {v v' : Value} (h : Ints w N J l B v) (hm : Mv w w' B v v') : Ints w' N J l B v' := by
  have hn : J.ownBlock = none ∨ ∃ k, J.ownBlock = some k := by cases J.ownBlock with
    | none => exact .inl rfl
    | some k => exact .inr ⟨k, rfl⟩
  have hne : J.ownBlock = none ∨ J.ownBlock ≠ v'.ownBlock := by
    rcases hn with hn | ⟨k, hk⟩
    · exact .inl hn
    · right
      have hlt := h.lt k hk
      rcases hm.row with e | ⟨g, e, hg⟩
      · rw [e]
        rcases h.neV with x | x
        · rw [x] at hk; cases hk
        · exact x
      · rw [e, hk]
        intro x; injection x with x; omega
  refine ⟨⟨h.own.1, ?_⟩, h.neB, hne⟩
  rcases h.own.2 with hnil | ⟨g, c, cur, rfl, hb, hg, rest⟩
  · exact .inl hnil
  · refine .inr ⟨g, c, cur, rfl, hb, ?_, rest⟩
    rw [hm.block g (Array.getElem?_eq_some_iff.1 hg).1 (fun e => h.neB (by simp [Value.ownBlock, e])) (by
      rcases h.neV with x | x
      · simp [Value.ownBlock] at x
      · simpa [Value.ownBlock] using x)]
    exact hg
theorem Ints.form {w : World} {N : Nat} {J : Value} {l : List Nat} {B : Nat} {v : Value} (h : Ints w N J l B v) : ∃ a c, J = .slice a l.length c ∧ l.length ≤ 9223372036854775807 := by
  rcases h.own.2 with ⟨rfl, e⟩ | ⟨g, c, _, rfl, _, _, h1, h2, _⟩
  · exact ⟨none, 0, by rw [e], by omega⟩
  · exact ⟨_, c, rfl, by unfold maxLen at h2; omega⟩
/-- An element. -/
theorem Ints.at {w : World} {N : Nat} {l : List Nat} {B : Nat} {v : Value} {a : Option Addr} {c : Nat} (h : Ints w N (.slice a l.length c) l B v) (j : Nat) (hj : j < l.length) :
    ∃ g, a = some ⟨g, 0, none⟩ ∧ w.cell? ⟨g, j, none⟩ = some (.int .i64 (l[j] : Nat)) := by
  rcases h.own.2 with ⟨_, e⟩ | ⟨g, c', cur, hv, _, hg, _⟩
  · omega
  · simp only [Value.slice.injEq] at hv
    obtain ⟨rfl, _, rfl⟩ := hv
    refine ⟨g, rfl, ?_⟩
    rw [h.own.cellAt j (by omega)]
    simp [hj]
/-- Behind 'jumps = append(jumps, n)'. -/
theorem Ints.appended {w0 w w1 : World} {N : Nat} {J : Value} {l : List Nat} {base B : Nat} {v0 v : Value} {s : BS} {g cap : Nat} {n : Nat} (h : Ints w N J l B v) (hB : Bd w base B v s) (hm : Mv w0 w B v0 v) (hN : N = w0.heap.size)
    (ho : w1.ownsRow N 3 1 (.slice (some ⟨g, 0, none⟩) (l.length + 1) cap) (l.length + 1) ((l.map fun (n : Nat) => Value.int .i64 n) ++ [Value.int .i64 n]))
    (hg : w.grownBy w1 J.ownBlock) (hat : J.ownBlock = some g ∨ g = w.heap.size) :
    Ints w1 N (.slice (some ⟨g, 0, none⟩) (l.length + 1) cap) (l ++ [n]) B v ∧ Bd w1 base B v s ∧ Mv w0 w1 B v0 v := by
  have hlt := hB.lt
  have hneV : v.ownBlock = none ∨ v.ownBlock ≠ J.ownBlock := by
    rcases h.neV with x | x
    · rw [x]; cases v.ownBlock <;> simp
    · exact .inr (fun e => x e.symm)
  refine ⟨⟨by simpa using ho, ?_, ?_⟩, ⟨(hg.block B hlt (fun e => h.neB e.symm)).trans hB.blk, hB.own.kept hg hneV, hB.ne, hB.hB, hB.short⟩, ?_⟩
  · rcases hat with e | e
    · simp only [Value.ownBlock]; rw [← e]; exact h.neB
    · simp only [Value.ownBlock]; intro x; injection x with x; omega
  · right
    rcases hat with e | e
    · simp only [Value.ownBlock]; rw [← e]
      rcases h.neV with x | x
      · rw [x] at e; cases e
      · exact x
    · simp only [Value.ownBlock]
      intro x
      have := (hB.ob g x.symm).2
      omega
  · refine ⟨hg.os.trans hm.os, hg.tape.trans hm.tape, hg.output.trans hm.output, Nat.le_trans hm.size hg.size, ?_, hm.row⟩
    intro k hk hkB hkv
    refine (hg.block k (Nat.lt_of_lt_of_le hk hm.size) ?_).trans (hm.block k hk hkB hkv)
    intro e
    have := (h.own.lt k e.symm).1
    omega
end Go.Proofs.YtkaoegdfgoojdaaGreatDoor
