/- tree.Right, Compile: the walks. -/
import Derived.Test.YtkaoegdfgoojdaaGreatDoorRight
namespace Go.Proofs.YtkaoegdfgoojdaaGreatDoor
open Go Go.RowKit

mutual
theorem groupsN_size : ∀ t, groupsN t ≤ sizeT t
  | .cat ps => by have := groupsL_size ps; simp only [groupsN, sizeT]; omega
  | .alt ps => by have := groupsL_size ps; simp only [groupsN, sizeT]; omega
  | .rep t _ _ => by have := groupsN_size t; simp only [groupsN, sizeT]; omega
  | .group _ t => by have := groupsN_size t; simp only [groupsN, sizeT]; omega
  | .back _ => by simp [groupsN]
  | .one .. => by simp [groupsN]
  | .empty => by simp [groupsN]
  | .start => by simp [groupsN]
  | .endd => by simp [groupsN]
theorem groupsL_size : ∀ ps, groupsL ps ≤ sizeL ps
  | [] => Nat.le_refl _
  | t :: r => by have := groupsN_size t; have := groupsL_size r; simp only [groupsL, sizeL]; omega
end
theorem sizeT_pos (t : Tr) : 0 < sizeT t := by cases t <;> simp [sizeT]
theorem length_sizeL (ps : List Tr) : ps.length ≤ sizeL ps := by
  induction ps with
  | nil => exact Nat.le_refl _
  | cons t r ih => have := sizeT_pos t; simp only [List.length_cons, sizeL]; omega
mutual
theorem right_ok : ∀ (t : Tr) (s s' : St), rightT t s = some s' → sizeT t ≤ 1048576 → Ok t
  | .cat ps, s, s', h, hs => by
      simp only [rightT] at h
      simp only [sizeT] at hs
      split at h
      · exact rightL_ok ps s s' h (by omega)
      · cases h
  | .alt ps, s, s', h, hs => by
      simp only [rightT] at h
      simp only [sizeT] at hs
      split at h
      · rename_i hc
        refine ⟨fun e => ?_, ?_, rightL_ok ps s s' h (by omega)⟩
        · rw [e] at hc; simp at hc
        · have := length_sizeL ps; omega
      · cases h
  | .rep t min max, s, s', h, hs => by
      simp only [rightT] at h
      simp only [sizeT] at hs
      split at h
      · rename_i hc
        exact ⟨hc.2.1, by omega, by omega, right_ok t s s' h (by omega)⟩
      · cases h
  | .group n t, s, s', h, hs => by
      simp only [rightT] at h
      simp only [sizeT] at hs
      split at h
      · obtain ⟨s1, h1, _⟩ := Option.map_eq_some_iff.1 h
        exact right_ok t _ s1 h1 (by omega)
      · cases h
  | .back _, _, _, _, _ => trivial
  | .one .., _, _, _, _ => trivial
  | .empty, _, _, _, _ => trivial
  | .start, _, _, _, _ => trivial
  | .endd, _, _, _, _ => trivial
theorem rightL_ok : ∀ (ps : List Tr) (s s' : St), rightL ps s = some s' → sizeL ps ≤ 1048576 → Oks ps
  | [], _, _, _, _ => trivial
  | t :: r, s, s', h, hs => by
      simp only [rightL] at h
      simp only [sizeL] at hs
      obtain ⟨s1, h1, h2⟩ := Option.bind_eq_some_iff.1 h
      exact ⟨right_ok t s s1 h1 (by omega), rightL_ok r s1 s' h2 (by omega)⟩
end

def rightB (t : Tr) : Bool := (rightT t (0, [])).isSome

set_option maxRecDepth 100000 in
set_option maxHeartbeats 400000 in
theorem Right_any (w : World) (N : Nat) (hN : N ≤ w.heap.size) (t : Tr) (v : Value) (hv : Nd w N t v) (hs : sizeT t ≤ 1048576) :
    Calls Tryz.prog 21 #[v] w (Says w (.bool (rightB t))) := by
  have HV := Lib.hid hv
  clear hv
  go_enter Tryz.func21, Tryz.ntmps21
  go_wp2_with fail
  have hb : Below w.heap.size w (w.alloc (.cells #[.int .i64 0, .slice none 0 0] 110)) := (Below.refl _ _).alloc (Nat.le_refl _) _
  have hl : Lk (w.alloc (.cells #[.int .i64 0, .slice none 0 0] 110)) w.heap.size w.heap.size (.slice none 0 0) (0, []) :=
    ⟨heap_alloc_new w _, World.ownsRow_nil _ _ _ _, by simp [Value.ownBlock], Nat.le_refl _⟩
  refine (right_any w.heap.size w.heap.size (sizeT t) t (Nat.le_refl _) _ N v _ _ hN hl (Nd.below (hb.mono hN) t v HV.out) (by have := groupsN_size t; simp; omega)).mono ?_
  rintro e w2 ⟨x, rfl, hm, _⟩
  have HB := Lib.hid (hb.trans (hl.below_of hm))
  clear hm hb hl
  go_wp2_with fail
  go_ret
  exact ⟨rfl, HB.out⟩

def startB (t : Tr) : BS := ⟨[], groupsN t, 0, backsT t, false⟩
def finalB (t : Tr) : BS := putS (putS (nodeS t (putS (startB t) (inst 3 0))) (inst 3 1)) (inst 9 0)

theorem ownsRow_mono {w : World} {base base' : Nat} {e : TypeId} {size : Nat} {v : Value} {n : Nat} {xs : List Value} (h : w.ownsRow base e size v n xs) (hb : base' ≤ base) : w.ownsRow base' e size v n xs :=
  ⟨h.1, h.2.imp_right fun ⟨g, cap, cur, hv, hg, r⟩ => ⟨g, cap, cur, hv, Nat.le_trans hb hg, r⟩⟩

/-- What Compile answers. -/
def CompPost (w : World) (t : Tr) (e : Ending) (w' : World) : Prop :=
  Below w.heap.size w w' ∧
  if rightB t then
    if (finalB t).full then e = .returned (.tuple #[.agg #[.slice none 0 0, .int .i64 0, .int .i64 0, .bool false], .int .i64 3])
    else ∃ x, e = .returned (.tuple #[.agg #[x, .int .i64 (finalB t).groups, .int .i64 (finalB t).loops, .bool (finalB t).backs], .int .i64 0]) ∧
      w'.ownsRow w.heap.size 74 7 x (finalB t).insts.length (flat (finalB t).insts) ∧ (finalB t).insts.length ≤ 3000
  else e = .returned (.tuple #[.agg #[.slice none 0 0, .int .i64 0, .int .i64 0, .bool false], .int .i64 2])

set_option maxRecDepth 100000 in
set_option maxHeartbeats 800000 in
theorem Compile_any (w : World) (N : Nat) (hN : N ≤ w.heap.size) (t : Tr) (v : Value) (hv : Nd w N t v) (hs : sizeT t ≤ 1048576) :
    Calls Tryz.prog 14 #[v] w (CompPost w t) := by
  have HV := Lib.hid hv
  clear hv
  go_enter Tryz.func14, Tryz.ntmps14
  go_wp2_with fail
  have hb0 : Below w.heap.size w (w.alloc (.cells #[.slice none 0 0, .int .i64 0, .int .i64 0, .bool false] 47)) := (Below.refl _ _).alloc (Nat.le_refl _) _
  have HR := Lib.hid (heap_alloc_new w (.cells #[.slice none 0 0, .int .i64 0, .int .i64 0, .bool false] 47))
  have HB0 := Lib.hid hb0
  have HZ0 := Lib.hid (show (w.alloc (.cells #[.slice none 0 0, .int .i64 0, .int .i64 0, .bool false] 47)).heap.size = w.heap.size + 1 from Array.size_push _)
  clear hb0
  generalize w.alloc (.cells #[.slice none 0 0, .int .i64 0, .int .i64 0, .bool false] 47) = W0 at *
  refine (Right_any W0 N (by rw [HZ0.out]; omega) t v (Nd.below (HB0.out.mono hN) t v HV.out) hs).mono ?_
  rintro e w2 ⟨rfl, hb⟩
  have HB2 := Lib.hid hb
  have HR2 := Lib.hid ((hb.block w.heap.size (by rw [HZ0.out]; omega)).trans HR.out)
  have HZ2 := Lib.hid (show w.heap.size < w2.heap.size by have := hb.size; rw [HZ0.out] at this; omega)
  clear hb
  cases hr : rightB t with
  | false =>
    have c0 := cell_of HR2.out (j := 0) (u := .slice none 0 0) rfl
    have c1 := cell_of HR2.out (j := 1) (u := .int .i64 0) rfl
    have c2 := cell_of HR2.out (j := 2) (u := .int .i64 0) rfl
    have c3 := cell_of HR2.out (j := 3) (u := .bool false) rfl
    have f0 := frozen_of_row w2 w.heap.size 0 _ _ HR2.out
    have f1 := frozen_of_row w2 w.heap.size 1 _ _ HR2.out
    have f2 := frozen_of_row w2 w.heap.size 2 _ _ HR2.out
    have f3 := frozen_of_row w2 w.heap.size 3 _ _ HR2.out
    have HRB := Lib.hid hr
    clear hr
    have hz := HZ2.out
    go_wp2_with fail
    refine bodyPost_ret (v := .tuple #[.agg #[.slice none 0 0, .int .i64 0, .int .i64 0, .bool false], .int .i64 2]) (by simp [results, Tryz.results14, go_sem, c0, c1, c2, c3]) rfl ⟨?_, ?_⟩
    · exact ((((HB0.out.trans (HB2.out.mono (by rw [HZ0.out]; omega))).setCell (Nat.le_refl _) _).setCell (Nat.le_refl _) _).setCell (Nat.le_refl _) _).setCell (Nat.le_refl _) _
    · rw [HRB.out]; rfl
  | true =>
    have HRB := Lib.hid hr
    clear hr
    have HNd2 := Lib.hid (Nd.below ((HB0.out.trans (HB2.out.mono (by rw [HZ0.out]; omega))).mono hN) t v HV.out)
    have hg := groupsN_size t
    go_wp2_with fail
    refine (groups_any (sizeT t) t (Nat.le_refl _) w2 N v (by have := HZ2.out; omega) HNd2.out (by omega)).mono ?_
    rintro e w3 ⟨rfl, hb⟩
    have HB3 := Lib.hid hb
    clear hb
    go_wp2_with fail
    refine (backs_any (sizeT t) t (Nat.le_refl _) w3 N v (by have := HZ2.out; have := HB3.out.size; omega) (Nd.below (HB3.out.mono (by have := HZ2.out; omega)) t v HNd2.out)).mono ?_
    rintro e w4 ⟨rfl, hb⟩
    have HB4 := Lib.hid (HB3.out.trans (hb.mono HB3.out.size))
    clear hb
    go_wp2_with fail
    have hbd : Bd (w4.alloc (.cells #[.slice none 0 0, .int .i64 (groupsN t : Nat), .int .i64 0, .bool (backsT t), .bool false] 69)) w4.heap.size w4.heap.size (.slice none 0 0) (startB t) :=
      ⟨heap_alloc_new w4 _, World.ownsRow_nil _ _ _ _, by simp [Value.ownBlock], Nat.le_refl _, by simp [startB]⟩
    have HBD := Lib.hid hbd
    have HB5 := Lib.hid (show Below w4.heap.size w4 (w4.alloc (.cells #[.slice none 0 0, .int .i64 (groupsN t : Nat), .int .i64 0, .bool (backsT t), .bool false] 69)) from (Below.refl _ _).alloc (Nat.le_refl _) _)
    clear hbd
    generalize w4.alloc (.cells #[.slice none 0 0, .int .i64 (groupsN t : Nat), .int .i64 0, .bool (backsT t), .bool false] 69) = W5 at *
    refine (put_raw W5 w4.heap.size w4.heap.size _ _ _ _ _ _ _ _ _ HBD.out).mono ?_
    rintro e w6 ⟨v6, rfl, hb6, hm6⟩
    have HBD6 := Lib.hid hb6
    have HM6 := Lib.hid hm6
    clear hb6 hm6
    go_wp2_with fail
    have hok : Ok t := by
      have h := HRB.out
      unfold rightB at h
      obtain ⟨s', h⟩ := Option.isSome_iff_exists.1 h
      exact right_ok t _ s' h hs
    refine (node_any w4 w4.heap.size w4.heap.size t v hok (Nd.mono (by have := HZ2.out; have := HB4.out.size; omega) t v (Nd.below (HB4.out.mono (by have := HZ2.out; omega)) t v HNd2.out)) w6 v6 _ (HB5.out.trans (HBD.out.below_of HM6.out)) HBD6.out).mono ?_
    rintro e w7 ⟨v7, rfl, hb7, hm7⟩
    have HBD7 := Lib.hid hb7
    have HM7 := Lib.hid hm7
    clear hb7 hm7
    go_wp2_with fail
    refine (put_raw w7 w4.heap.size w4.heap.size _ _ _ _ _ _ _ _ _ HBD7.out).mono ?_
    rintro e w8 ⟨v8, rfl, hb8, hm8⟩
    have HBD8 := Lib.hid hb8
    have HM8 := Lib.hid hm8
    clear hb8 hm8
    go_wp2_with fail
    refine (put_raw w8 w4.heap.size w4.heap.size _ _ _ _ _ _ _ _ _ HBD8.out).mono ?_
    rintro e w9 ⟨v9, rfl, hb9, hm9⟩
    have HM9 := Lib.hid (((HM6.out.trans HM7.out).trans HM8.out).trans hm9)
    have HBD9 := Lib.hid (show Bd w9 w4.heap.size w4.heap.size v9 (finalB t) from hb9)
    clear hb9 hm9
    have HBl := Lib.hid (show Below w4.heap.size w4 w9 from HB5.out.trans (HBD.out.below_of HM9.out))
    have HBa := Lib.hid (show Below w.heap.size w w9 from ((HB0.out.trans (HB2.out.mono (by rw [HZ0.out]; omega))).trans (HB4.out.mono (by have := HZ2.out; omega))).trans (HBl.out.mono (by have := HZ2.out; have := HB4.out.size; omega)))
    have HR9 := Lib.hid (((HBl.out.block w.heap.size (by have := HZ2.out; have := HB4.out.size; omega)).trans (HB4.out.block w.heap.size HZ2.out)).trans HR2.out)
    have r0 := cell_of HR9.out (j := 0) (u := .slice none 0 0) rfl
    have r1 := cell_of HR9.out (j := 1) (u := .int .i64 0) rfl
    have r2 := cell_of HR9.out (j := 2) (u := .int .i64 0) rfl
    have r3 := cell_of HR9.out (j := 3) (u := .bool false) rfl
    have f0 := frozen_of_row w9 w.heap.size 0 _ _ HR9.out
    have f1 := frozen_of_row w9 w.heap.size 1 _ _ HR9.out
    have f2 := frozen_of_row w9 w.heap.size 2 _ _ HR9.out
    have f3 := frozen_of_row w9 w.heap.size 3 _ _ HR9.out
    have c4 := HBD9.out.c4
    cases hfu : (finalB t).full with
    | true =>
      rw [hfu] at c4
      have HFU := Lib.hid hfu
      clear hfu
      go_wp2_with fail
      refine bodyPost_ret (v := .tuple #[.agg #[.slice none 0 0, .int .i64 0, .int .i64 0, .bool false], .int .i64 3]) (by simp [results, Tryz.results14, go_sem, r0, r1, r2, r3]) rfl ⟨?_, ?_⟩
      · exact (((HBa.out.setCell (Nat.le_refl _) _).setCell (Nat.le_refl _) _).setCell (Nat.le_refl _) _).setCell (Nat.le_refl _) _
      · rw [HRB.out, HFU.out]; rfl
    | false =>
      rw [hfu] at c4
      have HFU := Lib.hid hfu
      clear hfu
      have c0 := HBD9.out.c0
      have c1 := HBD9.out.c1
      have c2 := HBD9.out.c2
      have c3 := HBD9.out.c3
      obtain ⟨S9, hS9⟩ : ∃ S9, finalB t = S9 := ⟨_, rfl⟩
      rw [hS9] at HBD9 HFU c1 c2 c3
      obtain ⟨a9, k9, hv9⟩ := HBD9.out.form
      rw [hv9] at c0
      have HS9 := Lib.hid hS9
      have HV9 := Lib.hid hv9
      clear hS9 hv9
      go_wp2_with fail
      refine bodyPost_ret (v := .tuple #[.agg #[.slice a9 S9.insts.length k9, .int .i64 S9.groups, .int .i64 S9.loops, .bool S9.backs], .int .i64 0]) (by simp [results, Tryz.results14, go_sem, r0, r1, r2, r3]) rfl ⟨?_, ?_⟩
      · exact (((HBa.out.setCell (Nat.le_refl _) _).setCell (Nat.le_refl _) _).setCell (Nat.le_refl _) _).setCell (Nat.le_refl _) _
      · rw [HRB.out, HS9.out, HFU.out]
        refine ⟨_, rfl, ?_, HBD9.out.short⟩
        have ho := HBD9.out.own
        rw [HV9.out] at ho
        have hlt : w.heap.size < w4.heap.size := by have := HZ2.out; have := HB4.out.size; omega
        exact ownsRow_mono (ownsRow_setCell_below (ownsRow_setCell_below (ownsRow_setCell_below (ownsRow_setCell_below ho hlt _) hlt _) hlt _) hlt _) (Nat.le_of_lt hlt)
end Go.Proofs.YtkaoegdfgoojdaaGreatDoor
