/- Real: the reference's node as the program's: the walk. -/
import Derived.Test.YtkaoegdfgoojdaaGreatDoorKids
import Derived.Deep.DeepCutAuto
import Derived.Deep.CutBlock
namespace Go.Proofs.YtkaoegdfgoojdaaGreatDoor
open Go Go.RowKit

mutual
def realT : RT → Tr
  | .mk k s0 s1 s2 s3 ps mn mx num =>
    if k = 1 then .one s0 s1 s2 s3 else if k = 2 then .cat (realL ps) else if k = 3 then .alt (realL ps) else if k = 4 then .rep ((realL ps).getD 0 .empty) mn mx
    else if k = 5 then .group num ((realL ps).getD 0 .empty) else if k = 6 then .back num else if k = 7 then .start else if k = 8 then .endd else .empty
def realL : List RT → List Tr
  | [] => []
  | t :: r => realT t :: realL r
end
theorem realL_map (ps : List RT) : realL ps = ps.map realT := by
  induction ps with
  | nil => rfl
  | cons t r ih => rw [realL, ih]; rfl

/-- The world of which only the blocks that p lets are seen. -/
def mask (p : Nat → Bool) (w : World) : World := { w with heap := w.heap.mapIdx fun i o => if p i then o else .cells #[] 0 }
theorem mask_cell (p : Nat → Bool) (w : World) (b o : Nat) : (mask p w).cell? ⟨b, o, none⟩ = if p b then w.cell? ⟨b, o, none⟩ else none := by
  simp only [World.cell?, mask, Array.getElem?_mapIdx]
  cases h : w.heap[b]? with
  | none => simp
  | some x =>
    simp only [Option.map_some]
    cases hp : p b with
    | true => simp
    | false => simp

mutual
theorem Nd.keep {w w' : World} {N : Nat} (hb : ∀ b o v, b < N → w.cell? ⟨b, o, none⟩ = some v → w'.cell? ⟨b, o, none⟩ = some v) : ∀ (t : Tr) (v : Value), Nd w N t v → Nd w' N t v
  | .empty, _, h => h
  | .one .., _, h => h
  | .cat ps, _, ⟨x, e, h⟩ => ⟨x, e, h.imp_right fun ⟨b, off, c, e, hlt, h1, h2, h3⟩ => ⟨b, off, c, e, hlt, h1, h2, NdCells.keep hb b hlt ps off h3⟩⟩
  | .alt ps, _, ⟨x, e, h⟩ => ⟨x, e, h.imp_right fun ⟨b, off, c, e, hlt, h1, h2, h3⟩ => ⟨b, off, c, e, hlt, h1, h2, NdCells.keep hb b hlt ps off h3⟩⟩
  | .rep t _ _, _, ⟨x, e, h⟩ => ⟨x, e, Nd.keep hb t x h⟩
  | .group _ t, _, ⟨x, e, h⟩ => ⟨x, e, Nd.keep hb t x h⟩
  | .back _, _, h => h
  | .start, _, h => h
  | .endd, _, h => h
theorem NdCells.keep {w w' : World} {N : Nat} (hb : ∀ b o v, b < N → w.cell? ⟨b, o, none⟩ = some v → w'.cell? ⟨b, o, none⟩ = some v) (b : Nat) (hlt : b < N) : ∀ (ps : List Tr) (off : Nat), NdCells w N b off ps → NdCells w' N b off ps
  | [], _, _ => trivial
  | t :: r, off, ⟨⟨v, hc, hv⟩, h⟩ => ⟨⟨v, hb b off v hlt hc, Nd.keep hb t v hv⟩, NdCells.keep hb b hlt r (off + 1) h⟩
end
/-- What is seen through p is seen through p' in w', if p' lets it and the blocks are the same. -/
theorem Nd.masked {p p' : Nat → Bool} {w w' : World} {N : Nat} (h : ∀ b, b < N → p b = true → p' b = true ∧ w'.heap[b]? = w.heap[b]?) {t : Tr} {v : Value} (hn : Nd (mask p w) N t v) : Nd (mask p' w') N t v := by
  refine Nd.keep (fun b o v hb hc => ?_) t v hn
  rw [mask_cell] at hc ⊢
  cases hp : p b with
  | false => rw [hp] at hc; simp at hc
  | true =>
    rw [hp] at hc
    obtain ⟨h1, h2⟩ := h b hb hp
    rw [h1]
    simp only [if_true] at hc ⊢
    exact (World.cell?_of_block (a := ⟨b, o, none⟩) h2).trans hc
theorem Nd.unmask {p : Nat → Bool} {w : World} {N : Nat} {t : Tr} {v : Value} (hn : Nd (mask p w) N t v) : Nd w N t v := by
  refine Nd.keep (fun b o v _ hc => ?_) t v hn
  rw [mask_cell] at hc
  split at hc
  · exact hc
  · cases hc

def above (M : Nat) : Nat → Bool := fun b => decide (M ≤ b)
def aboveBut (M : Nat) (r : Option Nat) : Nat → Bool := fun b => decide (M ≤ b) && decide (some b ≠ r)

/-- What Real leaves: the node, in new blocks alone. -/
def RealPost (w : World) (t : Tr) (e : Ending) (w' : World) : Prop := ∃ v, e = .returned v ∧ Below w.heap.size w w' ∧ Nd (mask (above w.heap.size) w') w'.heap.size t v

/-- The nodes that were made so far. -/
def Made (M : Nat) (w : World) (v : Value) (ts : List Tr) : Prop :=
  ∃ xs : List Value, xs.length = ts.length ∧ w.ownsRow M 52 1 v ts.length xs ∧ ∀ i, i < ts.length → ∃ x, xs[i]? = some x ∧ Nd (mask (aboveBut M v.ownBlock) w) w.heap.size (ts.getD i .empty) x

def RlRel (w : World) (M : Nat) (ps : List RT) (v i : Value) (wr : World) : Prop :=
  ∃ k, k ≤ ps.length ∧ i = .int .i64 (k : Nat) ∧ Made M wr v ((ps.take k).map realT) ∧ Below w.heap.size w wr ∧ M ≤ wr.heap.size

theorem Made.below {M : Nat} {w w' : World} {v : Value} {ts : List Tr} (h : Made M w v ts) (hb : Below w.heap.size w w') : Made M w' v ts := by
  obtain ⟨xs, hl, ho, hn⟩ := h
  refine ⟨xs, hl, ho.kept (row := none) ⟨hb.os, hb.tape, hb.output, hb.size, fun k hk _ => hb.block k hk⟩ (by cases v.ownBlock <;> simp), fun i hi => ?_⟩
  obtain ⟨x, h1, h2⟩ := hn i hi
  exact ⟨x, h1, Nd.mono hb.size _ _ (Nd.masked (fun b hb' hp => ⟨hp, hb.block b hb'⟩) h2)⟩
/-- Behind 'parts = append(parts, x)'. -/
theorem Made.appended {M : Nat} {w w1 : World} {v : Value} {ts : List Tr} {g cap : Nat} {t : Tr} {x : Value} {xs : List Value} (hl : xs.length = ts.length) (hn : ∀ i, i < ts.length → ∃ x, xs[i]? = some x ∧ Nd (mask (aboveBut M v.ownBlock) w) w.heap.size (ts.getD i .empty) x)
    (hx : Nd (mask (aboveBut M v.ownBlock) w) w.heap.size t x)
    (ho : w1.ownsRow M 52 1 (.slice (some ⟨g, 0, none⟩) (ts.length + 1) cap) (ts.length + 1) (xs ++ [x]))
    (hg : w.grownBy w1 v.ownBlock) (hat : v.ownBlock = some g ∨ g = w.heap.size) : Made M w1 (.slice (some ⟨g, 0, none⟩) (ts.length + 1) cap) (ts ++ [t]) := by
  have keep : ∀ {t : Tr} {x : Value}, Nd (mask (aboveBut M v.ownBlock) w) w.heap.size t x → Nd (mask (aboveBut M (some g)) w1) w1.heap.size t x := by
    intro t x hx
    refine Nd.mono hg.size _ _ (Nd.masked (fun b hb hp => ?_) hx)
    simp only [aboveBut, Bool.and_eq_true, decide_eq_true_eq] at hp ⊢
    refine ⟨⟨hp.1, ?_⟩, hg.block b hb hp.2⟩
    rcases hat with e | e
    · rw [← e]; exact hp.2
    · intro e2; injection e2 with e2; omega
  refine ⟨xs ++ [x], by simp [hl], by simpa using ho, fun i hi => ?_⟩
  simp only [List.length_append, List.length_singleton] at hi
  by_cases hlt : i < ts.length
  · obtain ⟨y, h1, h2⟩ := hn i hlt
    refine ⟨y, by rw [List.getElem?_append_left (by omega)]; exact h1, ?_⟩
    have e : (ts ++ [t]).getD i .empty = ts.getD i .empty := by simp [List.getD, List.getElem?_append_left hlt]
    rw [e]
    exact keep h2
  · obtain rfl : i = ts.length := by omega
    refine ⟨x, by rw [← hl]; simp, ?_⟩
    have e : (ts ++ [t]).getD ts.length .empty = t := by simp [List.getD]
    rw [e]
    exact keep hx
theorem Made.lt {M : Nat} {w : World} {v : Value} {ts : List Tr} (h : Made M w v ts) : ∀ k, v.ownBlock = some k → k < w.heap.size := by
  obtain ⟨xs, _, ho, _⟩ := h
  exact fun k hk => (ho.lt k hk).2
/-- A node that was made behind the slice's last block. -/
theorem Made.fresh {M : Nat} {w w4 : World} {v : Value} {ts : List Tr} (h : Made M w v ts) (hM : M ≤ w.heap.size) {L : Nat} (hL : w.heap.size ≤ L) (o : Obj) {t : Tr} {x : Value} (hn : Nd (mask (above L) w4) w4.heap.size t x) :
    Nd (mask (aboveBut M v.ownBlock) (w4.alloc o)) (w4.alloc o).heap.size t x := by
  have hz : (w4.alloc o).heap.size = w4.heap.size + 1 := Array.size_push _
  refine Nd.mono (by omega) _ _ (Nd.masked (fun b hb hp => ?_) hn)
  simp only [above, aboveBut, Bool.and_eq_true, decide_eq_true_eq] at hp ⊢
  refine ⟨⟨by omega, fun e => ?_⟩, Below.heap_alloc _ _ _ hb⟩
  have := h.lt b e.symm
  omega
/-- The slice as a node's parts. -/
theorem Made.nds {M0 M : Nat} {w : World} {v : Value} {ts : List Tr} (h : Made M w v ts) (hM : M0 ≤ M) :
    (ts = [] ∧ v = .slice none 0 0) ∨ ∃ b off c, v = .slice (some ⟨b, off, none⟩) ts.length c ∧ b < w.heap.size ∧ ts.length ≤ c ∧ c ≤ 9223372036854775807 ∧ NdCells (mask (above M0) w) w.heap.size b off ts := by
  obtain ⟨xs, hl, ho, hn⟩ := h
  rcases ho.2 with ⟨hv, e⟩ | ⟨g, c, cur, hv, hbg, hg, h1, h2, _⟩
  · exact .inl ⟨List.eq_nil_of_length_eq_zero e, hv⟩
  · refine .inr ⟨g, 0, c, hv, (Array.getElem?_eq_some_iff.1 hg).1, h1, by unfold maxLen at h2; omega, ?_⟩
    have key : ∀ (l : List Tr) (k : Nat), (∀ i, i < l.length → ∃ x, w.cell? ⟨g, k + i, none⟩ = some x ∧ Nd (mask (above M0) w) w.heap.size (l.getD i .empty) x) → NdCells (mask (above M0) w) w.heap.size g k l := by
      intro l
      induction l with
      | nil => intro _ _; trivial
      | cons t r ih =>
        intro k hk
        refine ⟨?_, ih (k + 1) fun i hi => ?_⟩
        · obtain ⟨x, h1, h2⟩ := hk 0 (by simp)
          refine ⟨x, ?_, h2⟩
          rw [mask_cell, above, if_pos (by simp; omega)]
          exact h1
        · obtain ⟨x, h1, h2⟩ := hk (i + 1) (by simpa using hi)
          exact ⟨x, by rw [← h1]; congr 2; omega, h2⟩
    refine key ts 0 fun i hi => ?_
    obtain ⟨x, h3, h4⟩ := hn i hi
    subst hv
    refine ⟨x, ?_, Nd.masked (fun b _ hp => ⟨?_, rfl⟩) h4⟩
    · rw [Nat.zero_add, ho.cellAt i (by omega), h3]
    · simp only [aboveBut, above, Bool.and_eq_true, decide_eq_true_eq] at hp ⊢
      omega
theorem Made.form {M : Nat} {w : World} {v : Value} {ts : List Tr} (h : Made M w v ts) : ∃ a n c, v = .slice a n c := by
  obtain ⟨xs, _, ho, _⟩ := h
  rcases ho.2 with ⟨rfl, _⟩ | ⟨g, c, cur, rfl, _⟩
  · exact ⟨none, 0, 0, rfl⟩
  · exact ⟨_, _, c, rfl⟩
theorem Made.single {M0 M : Nat} {w : World} {v : Value} {t : RT} (h : Made M w v ([t].map realT)) (hM : M0 ≤ M) :
    ∃ g cap x, v = .slice (some ⟨g, 0, none⟩) 1 cap ∧ w.cell? ⟨g, 0, none⟩ = some x ∧ Nd (mask (above M0) w) w.heap.size (realT t) x := by
  obtain ⟨xs, hl, ho, hn⟩ := h
  obtain ⟨g, cap, rfl, hg, _⟩ := ho.form (by simp)
  obtain ⟨x, h1, h2⟩ := hn 0 (by simp)
  refine ⟨g, cap, x, rfl, ?_, Nd.masked (fun b _ hp => ⟨?_, rfl⟩) h2⟩
  · rw [ho.cellAt 0 (by simp), h1]
  · simp only [aboveBut, above, Bool.and_eq_true, decide_eq_true_eq] at hp ⊢
    omega
theorem _root_.Go.RowKit.Below.drewN {B : Nat} {a w : World} (h : Below B a w) (n : Nat) : Below B a (w.drewN n) := ⟨h.os, h.tape, h.output, h.size, h.block⟩
end Go.Proofs.YtkaoegdfgoojdaaGreatDoor
