/- Backs; the looker: the walks. -/
import Derived.Test.YtkaoegdfgoojdaaGreatDoorTreeC
import Derived.Deep.RegionLaw
namespace Go.Proofs.YtkaoegdfgoojdaaGreatDoor
open Go Go.RowKit

set_option maxRecDepth 100000 in
set_option maxHeartbeats 800000 in
theorem backs_any (n : Nat) : ∀ (t : Tr), sizeT t ≤ n → ∀ (w : World) (N : Nat) (v : Value), N ≤ w.heap.size → Nd w N t v →
    Calls Tryz.prog 23 #[v] w (Says w (.bool (backsT t))) := by
  induction n with
  | zero => intro t ht; exact absurd ht (by cases t <;> simp [sizeT])
  | succ n ih =>
    intro t ht w N v hN h
    have IH : ∀ k, k < (kidsT t).length → ∀ (w : World) (N : Nat) (v : Value), N ≤ w.heap.size → Nd w N ((kidsT t).getD k .empty) v → Calls Tryz.prog 23 #[v] w (Says w (.bool (backsT ((kidsT t).getD k .empty)))) :=
      fun k hk => ih _ (by have := kid_size t k hk; omega)
    have HIH := Lib.hid IH
    clear ih IH
    have H := Lib.hid h
    have HG := Lib.hid (backsT_kids t)
    cases hg : backT t with
    | true =>
      cases t with
      | back m =>
        obtain rfl := h
        clear hg
        go_enter Tryz.func23, Tryz.ntmps23
        go_wp2_with fail
        go_ret
        exact ⟨rfl, (Below.refl _ _).alloc (Nat.le_refl _) _⟩
      | _ => cases hg
    | false =>
      obtain ⟨T, x, rfl, hT⟩ := h.noback hg
      have hno := no_back T hT
      clear h hT
      go_enter Tryz.func23, Tryz.ntmps23
      go_wp2_with fail
      clear hno
      refine (kids_any _ N (by simp; omega) t _ (Nd.below ((Below.refl _ _).alloc hN _) t _ H.out)).mono ?_
      rintro e w2 ⟨x2, rfl, hb, hx⟩
      have HB := Lib.hid (((Below.refl _ _).alloc (Nat.le_refl _) _).trans (hb.mono (by simp)))
      have HX := Lib.hid hx
      clear hb hx
      go_wp2_with fail
      refine (containsFunc_any w2 _ (Nat.le_refl _) (kidsT t) x2 HX.out _ enters_backs backsT (fun j hj v w' hb hnd => HIH.out j hj w' _ v hb.size hnd)).mono ?_
      rintro e w3 ⟨rfl, hb⟩
      have HB3 := Lib.hid hb
      clear hb
      go_wp2_with fail
      go_ret
      exact ⟨by rw [HG.out, hg]; rfl, HB.out.trans (HB3.out.mono HB.out.size)⟩

/-- What was opened, what is closed. -/
abbrev St := Int × List Int

mutual
/-- tree.Right's looker at a tree: what was opened and is closed behind it; none: it is not right. -/
def rightT : Tr → St → Option St
  | .cat ps, s => if 1 < ps.length ∧ ps.all plainT = true then rightL ps s else none
  | .alt ps, s => if 1 < ps.length ∧ ps.all (fun t => !altT t) = true then rightL ps s else none
  | .rep t min max, s => if atomT t = true ∧ 0 ≤ min ∧ min ≤ 255 ∧ (max = -1 ∨ (min ≤ max ∧ max ≤ 255)) then rightT t s else none
  | .group n t, s => if n = wrap64 (s.1 + 1) then (rightT t (wrap64 (s.1 + 1), s.2)).map (fun s' => (s'.1, s'.2 ++ [n])) else none
  | .back n, s => if s.2.any (fun x => n == x) = true then some s else none
  | _, s => some s
def rightL : List Tr → St → Option St
  | [], s => some s
  | t :: r, s => (rightT t s).bind (rightL r)
end
/-- shaped: the state behind it; none: it is not. -/
def shapedT : Tr → St → Option St
  | .cat ps, s => if 1 < ps.length ∧ ps.all plainT = true then some s else none
  | .alt ps, s => if 1 < ps.length ∧ ps.all (fun t => !altT t) = true then some s else none
  | .rep t min max, s => if atomT t = true ∧ 0 ≤ min ∧ min ≤ 255 ∧ (max = -1 ∨ (min ≤ max ∧ max ≤ 255)) then some s else none
  | .group n _, s => if n = wrap64 (s.1 + 1) then some (wrap64 (s.1 + 1), s.2) else none
  | .back n, s => if s.2.any (fun x => n == x) = true then some s else none
  | _, s => some s
def closeT : Tr → St → St
  | .group n _, s => (s.1, s.2 ++ [n])
  | _, s => s
theorem rightT_kids (t : Tr) (s : St) : rightT t s = ((shapedT t s).bind (rightL (kidsT t))).map (closeT t) := by
  cases t with
  | cat ps => simp only [rightT, shapedT, kidsT]; split <;> simp [closeT]; cases rightL ps s <;> rfl
  | alt ps => simp only [rightT, shapedT, kidsT]; split <;> simp [closeT]; cases rightL ps s <;> rfl
  | rep t a b => simp only [rightT, shapedT, kidsT]; split <;> simp [closeT, rightL]; cases rightT t s <;> rfl
  | group n t => simp only [rightT, shapedT, kidsT]; split <;> simp [rightL]; cases rightT t _ <;> rfl
  | back n => simp only [rightT, shapedT, kidsT]; split <;> simp [closeT, rightL]
  | _ => rfl
theorem rightL_take (ps : List Tr) (k : Nat) (h : k < ps.length) : ∀ s, rightL (ps.take (k + 1)) s = (rightL (ps.take k) s).bind (rightT (ps.getD k .empty)) := by
  induction ps generalizing k with
  | nil => simp at h
  | cons t r ih =>
    intro s
    cases k with
    | zero => simp [rightL]
    | succ k =>
      simp only [List.take_succ_cons, rightL, List.getD_cons_succ, Option.bind_assoc]
      congr 1
      funext s1
      exact ih k (by simpa using h) s1
theorem rightL_stop (ps : List Tr) (k : Nat) : ∀ s, rightL (ps.take k) s = none → rightL ps s = none := by
  induction ps generalizing k with
  | nil => intro s h; simpa using h
  | cons t r ih =>
    intro s h
    cases k with
    | zero => simp [rightL] at h
    | succ k =>
      simp only [List.take_succ_cons, rightL] at h ⊢
      cases ht : rightT t s with
      | none => rfl
      | some s1 => rw [ht] at h; exact ih k s1 h

mutual
theorem rightT_closed : ∀ (t : Tr) (s s' : St), rightT t s = some s' → s'.2.length = s.2.length + groupsN t
  | .cat ps, s, s', h => by
      simp only [rightT] at h
      split at h
      · exact rightL_closed ps s s' h
      · cases h
  | .alt ps, s, s', h => by
      simp only [rightT] at h
      split at h
      · exact rightL_closed ps s s' h
      · cases h
  | .rep t _ _, s, s', h => by
      simp only [rightT] at h
      split at h
      · exact rightT_closed t s s' h
      · cases h
  | .group n t, s, s', h => by
      simp only [rightT] at h
      split at h
      · obtain ⟨s1, h1, rfl⟩ := Option.map_eq_some_iff.1 h
        have := rightT_closed t _ s1 h1
        simp only [List.length_append, List.length_singleton, groupsN, this]
        omega
      · cases h
  | .back n, s, s', h => by
      simp only [rightT] at h
      split at h
      · cases h; rfl
      · cases h
  | .one .., s, s', h => by cases h; rfl
  | .empty, s, s', h => by cases h; rfl
  | .start, s, s', h => by cases h; rfl
  | .endd, s, s', h => by cases h; rfl
theorem rightL_closed : ∀ (ps : List Tr) (s s' : St), rightL ps s = some s' → s'.2.length = s.2.length + groupsL ps
  | [], s, s', h => by cases h; rfl
  | t :: r, s, s', h => by
      simp only [rightL] at h
      obtain ⟨s1, h1, h2⟩ := Option.bind_eq_some_iff.1 h
      have e1 := rightT_closed t s s1 h1
      have e2 := rightL_closed r s1 s' h2
      simp only [groupsL, e2, e1]
      omega
end
theorem shapedT_closed (t : Tr) (s s' : St) (h : shapedT t s = some s') : s'.2 = s.2 := by
  cases t <;> simp only [shapedT] at h <;> first | (split at h <;> cases h <;> rfl) | (cases h; rfl)

/-- The looker lies in block L; x: its slice of closed groups. -/
structure Lk (w : World) (base L : Nat) (x : Value) (s : St) : Prop where
  blk : w.heap[L]? = some (.cells #[.int .i64 s.1, x] 110 (0, 0))
  own : w.ownsRow base 3 1 x s.2.length (s.2.map fun (n : Int) => Value.int .i64 n)
  ne : x.ownBlock ≠ some L
  hL : base ≤ L
section
variable {w : World} {base L : Nat} {x : Value} {s : St}
theorem Lk.lt (h : Lk w base L x s) : L < w.heap.size := (Array.getElem?_eq_some_iff.1 h.blk).1
theorem Lk.c0 (h : Lk w base L x s) : w.cell? ⟨L, 0, none⟩ = some (.int .i64 s.1) := cell_of h.blk rfl
theorem Lk.c1 (h : Lk w base L x s) : w.cell? ⟨L, 1, none⟩ = some x := cell_of h.blk rfl
theorem Lk.fz (h : Lk w base L x s) (i : Nat) : w.frozen? ⟨L, i, none⟩ = false := frozen_of_row _ _ _ _ _ h.blk
theorem Lk.ob (h : Lk w base L x s) : ∀ k, x.ownBlock = some k → base ≤ k ∧ k < w.heap.size := h.own.lt
theorem Lk.form (h : Lk w base L x s) : ∃ a c, x = .slice a s.2.length c := by
  rcases h.own.2 with ⟨rfl, e⟩ | ⟨g, c, _, rfl, _⟩
  · exact ⟨none, 0, by rw [e]⟩
  · exact ⟨_, c, rfl⟩
theorem Lk.of_below {w' : World} (h : Lk w base L x s) (hb : Below w.heap.size w w') : Lk w' base L x s := by
  refine ⟨(hb.block L h.lt).trans h.blk, ?_, h.ne, h.hL⟩
  refine h.own.kept (row := none) ⟨hb.os, hb.tape, hb.output, hb.size, fun k hk _ => hb.block k hk⟩ ?_
  cases hv : x.ownBlock <;> simp
theorem Lk.alloc (h : Lk w base L x s) (o : Obj) : Lk (w.alloc o) base L x s := h.of_below ((Below.refl _ _).alloc (Nat.le_refl _) _)
theorem Lk.drew (h : Lk w base L x s) : Lk w.drew base L x s := ⟨h.blk, h.own.drew, h.ne, h.hL⟩
theorem Lk.below_of {w1 : World} {x1 : Value} (h : Lk w base L x s) (hm : Mv w w1 L x x1) : Below base w w1 :=
  hm.below h.hL (fun k hk => (h.ob k hk).1) (by have := h.lt; have := h.hL; omega)
theorem Lk.ints (h : Lk w base L x s) : IntsAt w w.heap.size s.2 x := by
  rcases h.own.2 with ⟨rfl, e⟩ | ⟨g, c, cur, rfl, _, hg, h1, h2, _⟩
  · exact .inl ⟨List.eq_nil_of_length_eq_zero e, rfl⟩
  · refine .inr ⟨g, 0, c, rfl, (Array.getElem?_eq_some_iff.1 hg).1, h1, by unfold maxLen at h2; omega, fun j hj => ?_⟩
    rw [Nat.zero_add, h.own.cellAt j (by omega)]
    simp [hj, List.getD]
theorem Lk.setOpened (h : Lk w base L x s) (n : Int) : Lk (w.setCell ⟨L, 0, none⟩ (.int .i64 n)) base L x (n, s.2) := by
  refine ⟨(heap_setCell_same w L 0 _ _ _ h.blk).trans rfl, ?_, h.ne, h.hL⟩
  exact h.own.kept (row := some L) ⟨rfl, rfl, rfl, by simp [World.setCell], fun k _ hk => Below.heap_setCell _ _ _ _ (fun e => hk (by simp [e]))⟩ (.inr h.ne)
/-- Behind 'l.closed = append(l.closed, n)'. -/
theorem Lk.appended (h : Lk w base L x s) {w1 : World} {g cap : Nat} {n : Int}
    (ho : w1.ownsRow base 3 1 (.slice (some ⟨g, 0, none⟩) (s.2.length + 1) cap) (s.2.length + 1) ((s.2.map fun (n : Int) => Value.int .i64 n) ++ [.int .i64 n]))
    (hg : w.grownBy w1 x.ownBlock) (hat : x.ownBlock = some g ∨ g = w.heap.size) :
    w1.cell? ⟨L, 1, none⟩ = some x ∧ w1.frozen? ⟨L, 1, none⟩ = false ∧ L < w1.heap.size ∧
    Lk (w1.setCell ⟨L, 1, none⟩ (.slice (some ⟨g, 0, none⟩) (s.2.length + 1) cap)) base L (.slice (some ⟨g, 0, none⟩) (s.2.length + 1) cap) (s.1, s.2 ++ [n]) ∧
    Mv w (w1.setCell ⟨L, 1, none⟩ (.slice (some ⟨g, 0, none⟩) (s.2.length + 1) cap)) L x (.slice (some ⟨g, 0, none⟩) (s.2.length + 1) cap) := by
  have hb := hg.block L h.lt (fun e => h.ne e.symm)
  have hb' := hb.trans h.blk
  have hgL : g ≠ L := by
    rcases hat with e | e
    · intro e2; rw [e2] at e; exact h.ne e
    · have := h.lt; omega
  refine ⟨(World.cell?_of_block (a := ⟨L, 1, none⟩) hb).trans h.c1, (World.frozen?_of_block (a := ⟨L, 1, none⟩) hb).trans (h.fz 1), Nat.lt_of_lt_of_le h.lt hg.size, ⟨(heap_setCell_same w1 L 1 _ _ _ hb').trans rfl, ?_, ?_, h.hL⟩, ?_⟩
  · have ho' := ho.kept (w' := w1.setCell ⟨L, 1, none⟩ (.slice (some ⟨g, 0, none⟩) (s.2.length + 1) cap)) (row := some L) ⟨rfl, rfl, rfl, by simp [World.setCell], fun k _ hk => Below.heap_setCell _ _ _ _ (fun e => hk (by simp [e]))⟩ (.inr (by simpa [Value.ownBlock] using hgL))
    simpa using ho'
  · simpa [Value.ownBlock] using hgL
  · refine ⟨hg.os, hg.tape, hg.output, by simpa [World.setCell] using hg.size, fun k hk hB hv => (Below.heap_setCell _ _ _ _ hB).trans (hg.block k hk hv), ?_⟩
    rcases hat with e | e
    · left; rw [e]; rfl
    · right; exact ⟨g, rfl, Nat.le_of_eq e.symm⟩
end

/-- A call of the looker that answers whether there is a state, and leaves it. -/
def LPost (w : World) (base L : Nat) (x : Value) (r : Option St) (e : Ending) (w' : World) : Prop :=
  ∃ x', e = .returned (.bool r.isSome) ∧ Mv w w' L x x' ∧ ∀ s', r = some s' → Lk w' base L x' s'
end Go.Proofs.YtkaoegdfgoojdaaGreatDoor
