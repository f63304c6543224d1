/- The reference's right: what it answers, in plain Lean. -/
import Derived.Test.YtkaoegdfgoojdaaSLawP
namespace Go.Proofs.Ytkaoegdfgoojdaa
open Go Go.RowKit

theorem known_kind (u : RT) (h : knownR u = true) : 0 ≤ u.kind ∧ u.kind ≤ 8 := by
  match u with
  | .mk k _ _ _ _ ps _ _ _ =>
    simp only [knownR, Bool.and_eq_true, decide_eq_true_eq] at h
    exact h.1
theorem knownL_at (ps : List RT) (h : knownL ps = true) : ∀ j, j < ps.length → knownR (ps.getD j .zero) = true := by
  induction ps with
  | nil => intro j hj; exact absurd hj (by simp)
  | cons t r ih =>
    simp only [knownL, Bool.and_eq_true] at h
    intro j hj
    cases j with
    | zero => exact h.1
    | succ j => simpa using ih h.2 j (by simpa using hj)
theorem known_kids (t : RT) (h : knownR t = true) (j : Nat) (hj : j < (kidsR t).length) : knownR ((kidsR t).getD j .zero) = true := by
  match t with
  | .mk k s0 s1 s2 s3 ps mn mx num =>
    simp only [knownR, Bool.and_eq_true, decide_eq_true_eq] at h
    unfold kidsR at hj ⊢
    split
    · rename_i hc; rw [if_pos hc] at hj; exact knownL_at ps h.2 j hj
    · rename_i hc
      rw [if_neg hc] at hj
      split
      · rename_i hd
        rw [if_pos hd] at hj
        obtain rfl : j = 0 := by simp at hj; omega
        cases ps with
        | nil => rfl
        | cons p r => exact knownL_at (p :: r) h.2 0 (by simp)
      · rename_i hd; rw [if_neg hd] at hj; simp at hj
theorem nine_kinds {k : Int} (h : 0 ≤ k ∧ k ≤ 8) : k = 0 ∨ k = 1 ∨ k = 2 ∨ k = 3 ∨ k = 4 ∨ k = 5 ∨ k = 6 ∨ k = 7 ∨ k = 8 := by omega
theorem kind_plain (u : RT) (h : knownR u = true) : plainT (realT u) = !(u.kind == 0 || u.kind == 2 || u.kind == 3) := by
  have hk := known_kind u h
  match u with
  | .mk k s0 s1 s2 s3 ps mn mx num =>
    rcases nine_kinds hk with hk | hk | hk | hk | hk | hk | hk | hk | hk <;> (simp only [RT.kind] at hk; subst hk; simp [realT, RT.kind, plainT])
theorem kind_alt (u : RT) (h : knownR u = true) : altT (realT u) = (u.kind == 3) := by
  have hk := known_kind u h
  match u with
  | .mk k s0 s1 s2 s3 ps mn mx num =>
    rcases nine_kinds hk with hk | hk | hk | hk | hk | hk | hk | hk | hk <;> (simp only [RT.kind] at hk; subst hk; simp [realT, RT.kind, altT])
theorem kind_atom (u : RT) (h : knownR u = true) : atomT (realT u) = !(u.kind == 0 || u.kind == 2 || u.kind == 3 || u.kind == 7 || u.kind == 8) := by
  have hk := known_kind u h
  match u with
  | .mk k s0 s1 s2 s3 ps mn mx num =>
    rcases nine_kinds hk with hk | hk | hk | hk | hk | hk | hk | hk | hk <;> (simp only [RT.kind] at hk; subst hk; simp [realT, RT.kind, atomT, plainT])
theorem kidsT_real (t : RT) (h : knownR t = true) : kidsT (realT t) = (kidsR t).map realT := by
  have hk := known_kind t h
  match t with
  | .mk k s0 s1 s2 s3 ps mn mx num =>
    rcases nine_kinds hk with hk | hk | hk | hk | hk | hk | hk | hk | hk <;> (simp only [RT.kind] at hk; subst hk; simp [realT, RT.kind, RT.parts, kidsT, kidsR, realL_map, ofR]; try (cases ps <;> simp [realT, RT.zero]))

/-- The closed groups: a slice of ints; none of them: nil. -/
def CI (w : World) (N : Nat) (l : List Int) (x : Value) : Prop := IntsAt w N l x ∧ (l = [] → x = .slice none 0 0)
theorem CI.below {w w' : World} {N : Nat} (hb : Below N w w') {l : List Int} {x : Value} (h : CI w N l x) : CI w' N l x :=
  ⟨h.1.imp_right fun ⟨b, off, c, e, hlt, h1, h2, h3⟩ => ⟨b, off, c, e, hlt, h1, h2, fun j hj => (hb.cell (p := ⟨b, off + j, none⟩) hlt).trans (h3 j hj)⟩, h.2⟩
theorem CI.mono {w : World} {N N' : Nat} (hN : N ≤ N') {l : List Int} {x : Value} (h : CI w N l x) : CI w N' l x :=
  ⟨h.1.imp_right fun ⟨b, off, c, e, hlt, h1, h2, h3⟩ => ⟨b, off, c, e, Nat.lt_of_lt_of_le hlt hN, h1, h2, h3⟩, h.2⟩
def RrPost (w : World) (r : Option St) (e : Ending) (w' : World) : Prop :=
  Below w.heap.size w w' ∧ match r with
  | none => e = .returned (.tuple #[.bool false, .int .i64 0, .slice none 0 0])
  | some s => ∃ x, e = .returned (.tuple #[.bool true, .int .i64 s.1, x]) ∧ CI w' w'.heap.size s.2 x
theorem RrPost.bad {w w' : World} {r : Option St} (hb : Below w.heap.size w w') (hr : r = none) : RrPost w r (.returned (.tuple #[.bool false, .int .i64 0, .slice none 0 0])) w' := by
  subst hr; exact ⟨hb, rfl⟩

/-- What holds at the head of the loop over the parts' kinds. -/
def ShpRel (w2 : World) (K : List RT) (good : RT → Bool) (i : Value) (wr : World) : Prop :=
  ∃ j, j ≤ K.length ∧ i = .int .i64 (j : Nat) ∧ (K.take j).all good = true ∧ w2 = wr
/-- .. of the loop over what is closed. -/
def BkRel (w2 : World) (n : Int) (l : List Int) (f i : Value) (wr : World) : Prop :=
  ∃ j, j ≤ l.length ∧ i = .int .i64 (j : Nat) ∧ f = .bool ((l.take j).any fun x => n == x) ∧ Below w2.heap.size w2 wr
/-- .. of the loop over the parts. -/
def PtRel (w2 : World) (K : List RT) (s1 : St) (o c i : Value) (wr : World) : Prop :=
  ∃ j sj x, j ≤ K.length ∧ i = .int .i64 (j : Nat) ∧ rightL ((K.map realT).take j) s1 = some sj ∧ o = .int .i64 sj.1 ∧ x = c ∧ CI wr wr.heap.size sj.2 x ∧ Below w2.heap.size w2 wr
theorem all_take {α : Type} (p : α → Bool) (l : List α) (d : α) (j : Nat) (hj : j < l.length) : (l.take (j + 1)).all p = ((l.take j).all p && p (l.getD j d)) := by
  rw [List.take_succ_eq_append_getElem hj, List.all_append]; simp [List.getD, hj]
theorem any_take {α : Type} (p : α → Bool) (l : List α) (d : α) (j : Nat) (hj : j < l.length) : (l.take (j + 1)).any p = ((l.take j).any p || p (l.getD j d)) := by
  rw [List.take_succ_eq_append_getElem hj, List.any_append]; simp [List.getD, hj]
theorem all_stop {α : Type} (p : α → Bool) (l : List α) (d : α) (j : Nat) (hj : j < l.length) (h : p (l.getD j d) = false) : l.all p = false := by
  rw [← Bool.not_eq_true, List.all_eq_true]
  intro ha
  have := ha l[j] (List.getElem_mem hj)
  simp [List.getD, hj] at h
  rw [h] at this; cases this

/-! ### 'append(append([]int{}, closed...), number)' -/
theorem own_new (w : World) (base : Nat) (e : TypeId) (h : base ≤ w.heap.size) : (w.alloc (.cells #[] e)).ownsRow base e 1 (.slice (some ⟨w.heap.size, 0, none⟩) 0 0) 0 [] :=
  ⟨rfl, .inr ⟨w.heap.size, 0, #[], rfl, h, heap_alloc_new w _, Nat.le_refl _, Nat.zero_le _, rfl, rfl⟩⟩
theorem news_ci {w W : World} {l : List Int} {b off c : Nat} (h : CI w w.heap.size l (.slice (some ⟨b, off, none⟩) l.length c)) (hb : Below w.heap.size w W) :
    ∀ j u, (l.map (Value.int .i64))[j]? = some u → W.cell? ((⟨b, off, none⟩ : Addr).add j) = some u := by
  intro j u hu
  rw [List.getElem?_map] at hu
  obtain ⟨m, hm, rfl⟩ := Option.map_eq_some_iff.1 hu
  obtain ⟨hj, hm⟩ := List.getElem?_eq_some_iff.1 hm
  obtain ⟨b', off', e, q⟩ := h.1.at j hj
  cases e
  rw [WideShapes.add_plain, (hb.cell (p := ⟨b, off + j, none⟩) (World.block_lt_of_cell? w _ q)), q]
  simp [List.getD, hj, hm]
theorem newsB (w : World) (v : Value) (ty : TypeId) (o : Obj) : ∀ j u, ([v] : List Value)[j]? = some u → ((w.alloc (.cells #[v] ty)).alloc o).drew.cell? ((⟨w.heap.size, 0, none⟩ : Addr).add j) = some u := by
  intro j u hu
  have hb : Below (w.alloc (.cells #[v] ty)).heap.size (w.alloc (.cells #[v] ty)) ((w.alloc (.cells #[v] ty)).alloc o).drew := ((Below.refl _ _).alloc (Nat.le_refl _) _).drew
  have e : (w.alloc (.cells #[v] ty)).heap.size = w.heap.size + 1 := Array.size_push _
  cases j with
  | zero =>
    cases hu
    have e : ((⟨w.heap.size, 0, none⟩ : Addr).add 0) = ⟨w.heap.size, 0, none⟩ := rfl
    rw [e, hb.cell (p := ⟨w.heap.size, 0, none⟩) (by show w.heap.size < _; omega)]
    exact cell_of (heap_alloc_new w _) rfl
  | succ j => simp at hu
theorem news_one {w : World} {b : Nat} {v : Value} (h : w.cell? ⟨b, 0, none⟩ = some v) : ∀ j u, ([v] : List Value)[j]? = some u → w.cell? ((⟨b, 0, none⟩ : Addr).add j) = some u := by
  intro j u hu
  cases j with
  | zero => cases hu; exact h
  | succ j => simp at hu
theorem ci_own {w : World} {base g n cap : Nat} {xs : List Value} (l : List Int) (h : w.ownsRow base 3 1 (.slice (some ⟨g, 0, none⟩) n cap) n xs) (hx : xs = l.map (Value.int .i64)) (hl : l ≠ []) : CI w w.heap.size l (.slice (some ⟨g, 0, none⟩) n cap) := by
  have hn : n = l.length := by have := h.1; rw [hx] at this; simpa using this.symm
  have hlt : g < w.heap.size := (h.lt g rfl).2
  refine ⟨.inr ⟨g, 0, cap, by rw [hn], hlt, ?_, ?_, fun j hj => ?_⟩, fun e => absurd e hl⟩
  · rcases h.2 with ⟨e, _⟩ | ⟨_, _, _, e, _, _, h1, _⟩
    · cases e
    · cases e; omega
  · rcases h.2 with ⟨e, _⟩ | ⟨_, _, _, e, _, _, _, h2, _⟩
    · cases e
    · cases e; unfold maxLen at h2; omega
  · rw [Nat.zero_add, h.cellAt j (by omega), hx]
    simp [List.getD, hj]
theorem one_int (l : List Int) : ∀ u ∈ l.map (Value.int .i64), u.oneCell' = true := by
  intro u hu
  obtain ⟨m, _, rfl⟩ := List.mem_map.1 hu
  rfl
end Go.Proofs.Ytkaoegdfgoojdaa
