/- Nodes of the reference that were made so far; Byte: the walk (seat 2). -/
import Derived.Test.YtkaoegdfgoojdaaGreatDoorSpan
namespace Go.Proofs.YtkaoegdfgoojdaaGreatDoor
open Go Go.RowKit
set_option maxRecDepth 100000

mutual
theorem Rd.keep {w w' : World} {N : Nat} (hb : ∀ b o v, b < N → w.cell? ⟨b, o, none⟩ = some v → w'.cell? ⟨b, o, none⟩ = some v) : ∀ (t : RT) (cs : List Value), Rd w N t cs → Rd w' N t cs
  | .mk _ _ _ _ _ ps _ _ _, _, ⟨a, c, e, hl, h⟩ => ⟨a, c, e, hl, h.imp_right fun ⟨b, off, ea, hlt, h1, h2, h3⟩ => ⟨b, off, ea, hlt, h1, h2, RdAt.keep hb b hlt ps off h3⟩⟩
theorem RdAt.keep {w w' : World} {N : Nat} (hb : ∀ b o v, b < N → w.cell? ⟨b, o, none⟩ = some v → w'.cell? ⟨b, o, none⟩ = some v) (b : Nat) (hlt : b < N) : ∀ (ps : List RT) (off : Nat), RdAt w N b off ps → RdAt w' N b off ps
  | [], _, _ => trivial
  | t :: r, off, ⟨⟨cs, hc, hv⟩, h⟩ => ⟨⟨cs, fun j hj => by
      have hl : cs.length = 9 := by obtain ⟨k, s0, s1, s2, s3, a, n, c, mn, mx, num, rfl⟩ := hv.form; rfl
      have h1 := hc j hj
      have h2 : cs[j]? = some (cs[j]'(by omega)) := List.getElem?_eq_getElem (by omega)
      rw [h2] at h1 ⊢
      exact hb b (off + j) _ hlt h1, Rd.keep hb t cs hv⟩, RdAt.keep hb b hlt r (off + 9) h⟩
end
theorem keep_masked {p p' : Nat → Bool} {w w' : World} {N : Nat} (h : ∀ b, b < N → p b = true → p' b = true ∧ w'.heap[b]? = w.heap[b]?) : ∀ b o v, b < N → (mask p w).cell? ⟨b, o, none⟩ = some v → (mask p' w').cell? ⟨b, o, none⟩ = some v := by
  intro b o v hb hc
  rw [mask_cell] at hc ⊢
  cases hp : p b with
  | false => rw [hp] at hc; simp at hc
  | true =>
    rw [hp] at hc
    obtain ⟨h1, h2⟩ := h b hb hp
    rw [h1]
    simp only [if_true] at hc ⊢
    exact (World.cell?_of_block (a := ⟨b, o, none⟩) h2).trans hc
theorem keep_unmask {p : Nat → Bool} {w : World} {N : Nat} : ∀ b o v, b < N → (mask p w).cell? ⟨b, o, none⟩ = some v → w.cell? ⟨b, o, none⟩ = some v := by
  intro b o v _ hc
  rw [mask_cell] at hc
  split at hc
  · exact hc
  · cases hc
theorem Rd.masked {p p' : Nat → Bool} {w w' : World} {N : Nat} (h : ∀ b, b < N → p b = true → p' b = true ∧ w'.heap[b]? = w.heap[b]?) {t : RT} {cs : List Value} (hn : Rd (mask p w) N t cs) : Rd (mask p' w') N t cs := Rd.keep (keep_masked h) t cs hn
theorem Rd.unmask {p : Nat → Bool} {w : World} {N : Nat} {t : RT} {cs : List Value} (hn : Rd (mask p w) N t cs) : Rd w N t cs := Rd.keep keep_unmask t cs hn
theorem RSl.unmask {p : Nat → Bool} {w : World} {N : Nat} {ps : List RT} {x : Value} (h : RSl (mask p w) N ps x) : RSl w N ps x := by
  obtain ⟨a, c, e, hl, h⟩ := h
  exact ⟨a, c, e, hl, h.imp_right fun ⟨b, off, ea, hlt, h1, h2, h3⟩ => ⟨b, off, ea, hlt, h1, h2, RdAt.keep keep_unmask b hlt ps off h3⟩⟩
theorem RSl.masked {p p' : Nat → Bool} {w w' : World} {N : Nat} (h : ∀ b, b < N → p b = true → p' b = true ∧ w'.heap[b]? = w.heap[b]?) {ps : List RT} {x : Value} (hn : RSl (mask p w) N ps x) : RSl (mask p' w') N ps x := by
  obtain ⟨a, c, e, hl, hn⟩ := hn
  exact ⟨a, c, e, hl, hn.imp_right fun ⟨b, off, ea, hlt, h1, h2, h3⟩ => ⟨b, off, ea, hlt, h1, h2, RdAt.keep (keep_masked h) b hlt ps off h3⟩⟩

def butQ (q : Nat → Bool) (r : Option Nat) : Nat → Bool := fun b => q b && decide (some b ≠ r)
/-- The nodes that were made so far, in a row of the call's own (at M or behind); what they lead to lies where q lets it, not in the row. -/
def PartsR (q : Nat → Bool) (M : Nat) (w : World) (v : Value) (ts : List RT) : Prop :=
  ∃ css : List (List Value), css.length = ts.length ∧ (∀ cs ∈ css, cs.length = 9) ∧ w.ownsRow M 28 9 v ts.length css.flatten ∧
    ∀ i, i < ts.length → ∃ cs, css[i]? = some cs ∧ Rd (mask (butQ q v.ownBlock) w) w.heap.size (ts.getD i .zero) cs

theorem PartsR.nil (q : Nat → Bool) (M : Nat) (w : World) : PartsR q M w (.slice none 0 0) [] := ⟨[], rfl, by simp, World.ownsRow_nil _ _ _ _, fun i hi => by simp at hi⟩
theorem PartsR.below {q : Nat → Bool} {M : Nat} {w w' : World} {v : Value} {ts : List RT} (h : PartsR q M w v ts) (hb : Below w.heap.size w w') : PartsR q M w' v ts := by
  obtain ⟨css, hl, h9, ho, hn⟩ := h
  refine ⟨css, hl, h9, ho.kept (row := none) ⟨hb.os, hb.tape, hb.output, hb.size, fun k hk _ => hb.block k hk⟩ (by cases v.ownBlock <;> simp), fun i hi => ?_⟩
  obtain ⟨x, h1, h2⟩ := hn i hi
  exact ⟨x, h1, Rd.mono hb.size _ _ (Rd.masked (fun b hb' hp => ⟨hp, hb.block b hb'⟩) h2)⟩
theorem PartsR.lt {q : Nat → Bool} {M : Nat} {w : World} {v : Value} {ts : List RT} (h : PartsR q M w v ts) : ∀ k, v.ownBlock = some k → M ≤ k ∧ k < w.heap.size := by
  obtain ⟨_, _, _, ho, _⟩ := h
  exact ho.lt
theorem PartsR.form {q : Nat → Bool} {M : Nat} {w : World} {v : Value} {ts : List RT} (h : PartsR q M w v ts) : ∃ a c, v = .slice a ts.length c ∧ ts.length ≤ 9223372036854775807 := by
  obtain ⟨_, _, _, ho, _⟩ := h
  rcases ho.2 with ⟨rfl, e⟩ | ⟨g, c, cur, rfl, _, _, h1, h2, _⟩
  · exact ⟨none, 0, by rw [e], by omega⟩
  · exact ⟨_, c, rfl, by unfold maxLen at h2; omega⟩
theorem getD_snoc {α : Type} (l : List α) (x d : α) (i : Nat) : (l ++ [x]).getD i d = if i < l.length then l.getD i d else if i = l.length then x else d := by
  simp only [List.getD]
  by_cases h : i < l.length
  · simp [h, List.getElem?_append_left h]
  · rw [if_neg h]
    by_cases h2 : i = l.length
    · subst h2; simp
    · rw [if_neg h2, List.getElem?_append_right (by omega)]
      have : [x][i - l.length]? = none := by apply List.getElem?_eq_none; simp; omega
      rw [this]; rfl
/-- Behind 'parts = append(parts, t)'. -/
theorem PartsR.appended {q : Nat → Bool} {M : Nat} {w w1 : World} {v : Value} {ts : List RT} {g cap : Nat} {t : RT} {cs : List Value} {css : List (List Value)} (hl : css.length = ts.length) (h9 : ∀ cs ∈ css, cs.length = 9) (hc9 : cs.length = 9)
    (hn : ∀ i, i < ts.length → ∃ cs, css[i]? = some cs ∧ Rd (mask (butQ q v.ownBlock) w) w.heap.size (ts.getD i .zero) cs)
    (hx : Rd (mask (butQ q v.ownBlock) w) w.heap.size t cs)
    (ho : w1.ownsRow M 28 9 (.slice (some ⟨g, 0, none⟩) (ts.length + 1) cap) (ts.length + 1) (css.flatten ++ cs))
    (hg : w.grownBy w1 v.ownBlock) (hat : v.ownBlock = some g ∨ g = w.heap.size) : PartsR q M w1 (.slice (some ⟨g, 0, none⟩) (ts.length + 1) cap) (ts ++ [t]) := by
  have keep : ∀ {t : RT} {x : List Value}, Rd (mask (butQ q v.ownBlock) w) w.heap.size t x → Rd (mask (butQ q (some g)) w1) w1.heap.size t x := by
    intro t x hx
    refine Rd.mono hg.size _ _ (Rd.masked (fun b hb hp => ?_) hx)
    simp only [butQ, Bool.and_eq_true, decide_eq_true_eq] at hp ⊢
    refine ⟨⟨hp.1, ?_⟩, hg.block b hb hp.2⟩
    rcases hat with e | e
    · rw [← e]; exact hp.2
    · intro e2; injection e2 with e2; omega
  refine ⟨css ++ [cs], by simp [hl], fun x hx => ?_, by simpa using ho, fun i hi => ?_⟩
  · rcases List.mem_append.1 hx with h | h
    · exact h9 x h
    · rw [List.mem_singleton.1 h]; exact hc9
  · simp only [List.length_append, List.length_singleton] at hi
    rw [getD_snoc]
    by_cases hlt : i < ts.length
    · obtain ⟨y, h1, h2⟩ := hn i hlt
      exact ⟨y, by rw [List.getElem?_append_left (by omega)]; exact h1, by rw [if_pos hlt]; exact keep h2⟩
    · obtain rfl : i = ts.length := by omega
      exact ⟨cs, by rw [← hl]; simp, by rw [if_neg (by omega), if_pos rfl]; exact keep hx⟩
theorem flatten_at : ∀ (css : List (List Value)), (∀ cs ∈ css, cs.length = 9) → ∀ i cs, css[i]? = some cs → ∀ j, j < 9 → css.flatten[i * 9 + j]? = cs[j]?
  | [], _, i, cs, h, _, _ => by simp at h
  | c :: r, h9, 0, cs, h, j, hj => by
      simp only [List.getElem?_cons_zero, Option.some.injEq] at h
      subst h
      rw [List.flatten_cons, Nat.zero_mul, Nat.zero_add, List.getElem?_append_left (by rw [h9 c (by simp)]; exact hj)]
  | c :: r, h9, i + 1, cs, h, j, hj => by
      have := flatten_at r (fun x hx => h9 x (by simp [hx])) i cs (by simpa using h) j hj
      rw [List.flatten_cons, List.getElem?_append_right (by rw [h9 c (by simp)]; omega), ← this, h9 c (by simp)]
      congr 1
      omega
/-- The row, read only. -/
theorem PartsR.rsl {q : Nat → Bool} {M : Nat} {w : World} {v : Value} {ts : List RT} (h : PartsR q M w v ts) (hq : ∀ b, M ≤ b → q b = true) : RSl (mask q w) w.heap.size ts v := by
  obtain ⟨css, hl, h9, ho, hn⟩ := h
  rcases ho.2 with ⟨hv, e⟩ | ⟨g, c, cur, hv, hbg, hg, h1, h2, _⟩
  · obtain rfl := List.eq_nil_of_length_eq_zero e
    exact ⟨none, 0, hv, by simp, .inl rfl⟩
  · refine ⟨some ⟨g, 0, none⟩, c, hv, by unfold maxLen at h2; omega, .inr ⟨g, 0, rfl, (Array.getElem?_eq_some_iff.1 hg).1, h1, by unfold maxLen at h2; omega, ?_⟩⟩
    have key : ∀ (l : List RT) (k : Nat), (∀ i, i < l.length → ∃ cs, (∀ j, j < 9 → (mask q w).cell? ⟨g, k + i * 9 + j, none⟩ = cs[j]?) ∧ Rd (mask q w) w.heap.size (l.getD i .zero) cs) → RdAt (mask q w) w.heap.size g k l := by
      intro l
      induction l with
      | nil => intro _ _; trivial
      | cons t r ih =>
        intro k hk
        refine ⟨?_, ih (k + 9) fun i hi => ?_⟩
        · obtain ⟨x, h1, h2⟩ := hk 0 (by simp)
          exact ⟨x, fun j hj => by rw [← h1 j hj]; simp, h2⟩
        · obtain ⟨x, h1, h2⟩ := hk (i + 1) (by simpa using hi)
          exact ⟨x, fun j hj => by rw [← h1 j hj]; congr 2; omega, h2⟩
    refine key ts 0 fun i hi => ?_
    obtain ⟨x, h3, h4⟩ := hn i hi
    subst hv
    refine ⟨x, fun j hj => ?_, Rd.masked (fun b _ hp => ⟨?_, rfl⟩) h4⟩
    · rw [mask_cell, if_pos (hq g hbg), Nat.zero_add, ho.cellAt (i * 9 + j) (by omega), flatten_at css h9 i x h3 j hj]
    · simp only [butQ, Bool.and_eq_true, decide_eq_true_eq] at hp
      exact hp.1
/-- A node that was made behind the row's last block. -/
theorem PartsR.fresh {q : Nat → Bool} {M : Nat} {w w4 : World} {v : Value} {ts : List RT} (h : PartsR q M w v ts) {L : Nat} (hL : w.heap.size ≤ L) (hq : ∀ b, L ≤ b → q b = true) {t : RT} {cs : List Value} (hn : Rd (mask (above L) w4) w4.heap.size t cs) :
    Rd (mask (butQ q v.ownBlock) w4) w4.heap.size t cs := by
  refine Rd.masked (fun b hb hp => ?_) hn
  simp only [above, butQ, Bool.and_eq_true, decide_eq_true_eq] at hp ⊢
  refine ⟨⟨hq b hp, fun e => ?_⟩, trivial⟩
  have := (h.lt b e.symm).2
  omega
theorem Rd.len {w : World} {N : Nat} {t : RT} {cs : List Value} (h : Rd w N t cs) : cs.length = 9 := by obtain ⟨k, s0, s1, s2, s3, a, n, c, mn, mx, num, rfl⟩ := h.form; rfl

/-- A One of one byte. -/
def byteR (c : Nat) : RT := .mk 1 (byteI c).s0 (byteI c).s1 (byteI c).s2 (byteI c).s3 [] 0 0 0
def byteCells (c : Nat) : List Value := [.int .i64 1, .int .u64 (byteI c).s0, .int .u64 (byteI c).s1, .int .u64 (byteI c).s2, .int .u64 (byteI c).s3, .slice none 0 0, .int .i64 0, .int .i64 0, .int .i64 0]
theorem rd_byte (w : World) (N c : Nat) : Rd w N (byteR c) (byteCells c) := ⟨none, 0, rfl, by simp, .inl rfl⟩

set_option maxHeartbeats 1600000 in
theorem byte_any (w : World) (c : Nat) (hc : c < 256) : Calls Tryz.prog 5 #[.int .u8 (c : Int)] w (Says w (.agg (byteCells c).toArray)) := by
  have hb0 : Below w.heap.size w (w.alloc (.cells #[.int .i64 0, .int .u64 0, .int .u64 0, .int .u64 0, .int .u64 0, .slice none 0 0, .int .i64 0, .int .i64 0, .int .i64 0] 28)) := (Below.refl _ _).alloc (Nat.le_refl _) _
  have HB0 := Lib.hid hb0
  have HR := Lib.hid (heap_alloc_new w (.cells #[.int .i64 0, .int .u64 0, .int .u64 0, .int .u64 0, .int .u64 0, .slice none 0 0, .int .i64 0, .int .i64 0, .int .i64 0] 28))
  have HZ := Lib.hid (show w.heap.size < (w.alloc (.cells #[.int .i64 0, .int .u64 0, .int .u64 0, .int .u64 0, .int .u64 0, .slice none 0 0, .int .i64 0, .int .i64 0, .int .i64 0] 28)).heap.size by simp)
  clear hb0
  go_enter Tryz.func5, Tryz.ntmps5
  go_wp2_with fail
  refine (span_any _ c hc).mono ?_
  rintro e w2 ⟨rfl, hb2⟩
  have hr2 := (hb2.block _ HZ.out).trans HR.out
  have HB2 := Lib.hid (HB0.out.trans (hb2.mono HB0.out.size))
  have p0 : w2.cell? ⟨w.heap.size, 0, none⟩ = some (.int .i64 0) := cell_of hr2 (j := 0) rfl
  have p1 : w2.cell? ⟨w.heap.size, 1, none⟩ = some (.int .u64 0) := cell_of hr2 (j := 1) rfl
  have p2 : w2.cell? ⟨w.heap.size, 2, none⟩ = some (.int .u64 0) := cell_of hr2 (j := 2) rfl
  have p3 : w2.cell? ⟨w.heap.size, 3, none⟩ = some (.int .u64 0) := cell_of hr2 (j := 3) rfl
  have p4 : w2.cell? ⟨w.heap.size, 4, none⟩ = some (.int .u64 0) := cell_of hr2 (j := 4) rfl
  have p5 : w2.cell? ⟨w.heap.size, 5, none⟩ = some (.slice none 0 0) := cell_of hr2 (j := 5) rfl
  have p6 : w2.cell? ⟨w.heap.size, 6, none⟩ = some (.int .i64 0) := cell_of hr2 (j := 6) rfl
  have p7 : w2.cell? ⟨w.heap.size, 7, none⟩ = some (.int .i64 0) := cell_of hr2 (j := 7) rfl
  have p8 : w2.cell? ⟨w.heap.size, 8, none⟩ = some (.int .i64 0) := cell_of hr2 (j := 8) rfl
  have f0 := frozen_of_row w2 w.heap.size 0 _ _ hr2
  have f1 := frozen_of_row w2 w.heap.size 1 _ _ hr2
  have f2 := frozen_of_row w2 w.heap.size 2 _ _ hr2
  have f3 := frozen_of_row w2 w.heap.size 3 _ _ hr2
  have f4 := frozen_of_row w2 w.heap.size 4 _ _ hr2
  have f5 := frozen_of_row w2 w.heap.size 5 _ _ hr2
  have f6 := frozen_of_row w2 w.heap.size 6 _ _ hr2
  have f7 := frozen_of_row w2 w.heap.size 7 _ _ hr2
  have f8 := frozen_of_row w2 w.heap.size 8 _ _ hr2
  clear hb2 hr2
  unfold byteS
  go_wp2_with fail
  refine bodyPost_ret (v := .agg (byteCells c).toArray) (by simp [byteCells, results, Tryz.results5, go_sem, p0, p1, p2, p3, p4, p5, p6, p7, p8]) rfl ⟨rfl, ?_⟩
  have hle := Nat.le_refl w.heap.size
  exact ((((((((HB2.out.setCell hle _).setCell hle _).setCell hle _).setCell hle _).setCell hle _).setCell hle _).setCell hle _).setCell hle _).setCell hle _
end Go.Proofs.YtkaoegdfgoojdaaGreatDoor
