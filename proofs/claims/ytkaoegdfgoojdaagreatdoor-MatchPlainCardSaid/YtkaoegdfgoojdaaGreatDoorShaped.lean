/- shaped: the walk. -/
import Derived.Test.YtkaoegdfgoojdaaGreatDoorTreeD
namespace Go.Proofs.YtkaoegdfgoojdaaGreatDoor
open Go Go.RowKit

theorem Mv.drewN {a b : World} {B : Nat} {v v' : Value} (h : Mv a b B v v') (n : Nat) : Mv a (b.drewN n) B v v' := ⟨h.os, h.tape, h.output, h.size, h.block, h.row⟩
theorem Lk.drewN {w : World} {base L : Nat} {x : Value} {s : St} (h : Lk w base L x s) (n : Nat) : Lk (w.drewN n) base L x s := ⟨h.blk, h.own, h.ne, h.hL⟩
theorem any_not (ps : List Tr) (p : Tr → Bool) : (!ps.any fun t => !p t) = ps.all p := by
  induction ps with
  | nil => rfl
  | cons t r ih => simp only [List.any_cons, List.all_cons, Bool.not_or, Bool.not_not, ih]
theorem any_not' (ps : List Tr) (p : Tr → Bool) : (!ps.any p) = ps.all fun t => !p t := by
  induction ps with
  | nil => rfl
  | cons t r ih => simp only [List.any_cons, List.all_cons, Bool.not_or, ih]

theorem LPost.same {w w' : World} {base L : Nat} {x : Value} {s : St} (H : Lk w base L x s) (hb : Below w.heap.size w w') {r : Option St} {b : Bool} (hr : r = if b then some s else none) : LPost w base L x r (.returned (.bool b)) w' := by
  refine ⟨x, ?_, Mv.of_below hb, fun s' h => ?_⟩
  · cases b <;> rw [hr] <;> rfl
  · cases b with
    | true => rw [hr] at h; cases h; exact H.of_below hb
    | false => rw [hr] at h; cases h

set_option maxRecDepth 100000 in
set_option maxHeartbeats 800000 in
theorem shaped_cat (w : World) (base L N : Nat) (hN : N ≤ w.heap.size) (x : Value) (s : St) (ps : List Tr) (v : Value) (h : Lk w base L x s) (hv : Nd w N (.cat ps) v) :
    Calls Tryz.prog 57 #[.pointer (some ⟨L, 0, none⟩), v] w (LPost w base L x (shapedT (.cat ps) s)) := by
  have H := Lib.hid h
  obtain ⟨y, rfl, hx⟩ := hv
  obtain ⟨a, c, rfl, hlen⟩ := Nds.form hx
  have HX := Lib.hid (show Nds w N ps _ from hx)
  have hL := h.lt
  clear h hx
  by_cases hl : 1 < ps.length
  · have hl' : (1 : Int) < ps.length := by omega
    go_enter Tryz.func57, Tryz.ntmps57
    go_wp2_with fail
    have hb := Below.alloc (Below.refl w.heap.size w) (Nat.le_refl _) (.cells #[.slice a ps.length c] 81)
    have HB := Lib.hid hb
    refine (containsFunc_any _ N (Nat.le_trans hN hb.size) ps _ (HX.out.below (hb.mono hN)) _ enters_plain (fun t => !plainT t) ?tells).mono ?_
    case tells =>
      intro j hj v w' hb hnd
      refine (shaped1_any w' w' N _ v hnd).mono ?_
      rintro e w2 ⟨rfl, rfl⟩
      exact ⟨rfl, Below.refl _ _⟩
    clear hb
    rintro e w3 ⟨rfl, hb⟩
    have HB3 := Lib.hid hb
    clear hb
    go_wp2_with fail
    go_ret
    refine LPost.same H.out (HB.out.trans (HB3.out.mono HB.out.size)) ?_
    simp only [shapedT, hl, true_and, ← any_not]
  · have hl' : ¬ (1 : Int) < ps.length := by omega
    go_enter Tryz.func57, Tryz.ntmps57
    go_wp2_with fail
    go_ret
    refine LPost.same H.out ((Below.refl _ _).alloc (Nat.le_refl _) _) ?_
    simp [shapedT, hl]

set_option maxRecDepth 100000 in
set_option maxHeartbeats 800000 in
theorem shaped_alt (w : World) (base L N : Nat) (hN : N ≤ w.heap.size) (x : Value) (s : St) (ps : List Tr) (v : Value) (h : Lk w base L x s) (hv : Nd w N (.alt ps) v) :
    Calls Tryz.prog 57 #[.pointer (some ⟨L, 0, none⟩), v] w (LPost w base L x (shapedT (.alt ps) s)) := by
  have H := Lib.hid h
  obtain ⟨y, rfl, hx⟩ := hv
  obtain ⟨a, c, rfl, hlen⟩ := Nds.form hx
  have HX := Lib.hid (show Nds w N ps _ from hx)
  have hL := h.lt
  clear h hx
  by_cases hl : 1 < ps.length
  · have hl' : (1 : Int) < ps.length := by omega
    go_enter Tryz.func57, Tryz.ntmps57
    go_wp2_with fail
    have hb := Below.alloc (Below.refl w.heap.size w) (Nat.le_refl _) (.cells #[.slice a ps.length c] 82)
    have HB := Lib.hid hb
    refine (containsFunc_any _ N (Nat.le_trans hN hb.size) ps _ (HX.out.below (hb.mono hN)) _ enters_alt altT ?tells).mono ?_
    case tells =>
      intro j hj v w' hb hnd
      exact alt_is w' w' N _ v hnd
    clear hb
    rintro e w3 ⟨rfl, hb⟩
    have HB3 := Lib.hid hb
    clear hb
    go_wp2_with fail
    go_ret
    refine LPost.same H.out (HB.out.trans (HB3.out.mono HB.out.size)) ?_
    simp only [shapedT, hl, true_and, ← any_not']
  · have hl' : ¬ (1 : Int) < ps.length := by omega
    go_enter Tryz.func57, Tryz.ntmps57
    go_wp2_with fail
    go_ret
    refine LPost.same H.out ((Below.refl _ _).alloc (Nat.le_refl _) _) ?_
    simp [shapedT, hl]

set_option maxRecDepth 100000 in
set_option maxHeartbeats 800000 in
theorem shaped_rep (w : World) (base L N : Nat) (x : Value) (s : St) (t : Tr) (min max : Int) (v : Value) (h : Lk w base L x s) (hv : Nd w N (.rep t min max) v) :
    Calls Tryz.prog 57 #[.pointer (some ⟨L, 0, none⟩), v] w (LPost w base L x (shapedT (.rep t min max) s)) := by
  have H := Lib.hid h
  obtain ⟨y, rfl, hx⟩ := hv
  have HX := Lib.hid hx
  obtain ⟨T, z, rfl⟩ := hx.form
  have hL := h.lt
  clear h hx
  have fin : ∀ (b : Bool) (o : Obj), (b = true ↔ (atomT t = true ∧ 0 ≤ min ∧ min ≤ 255 ∧ (max = -1 ∨ (min ≤ max ∧ max ≤ 255)))) → LPost w base L x (shapedT (.rep t min max) s) (.returned (.bool b)) (w.alloc o) := by
    intro b o hb
    refine LPost.same H.out ((Below.refl _ _).alloc (Nat.le_refl _) _) ?_
    simp only [shapedT, hb]
  have FIN := Lib.hid fin
  clear fin
  cases ha : atomT t with
  | false =>
    have HA := Lib.hid ha
    clear ha
    go_enter Tryz.func57, Tryz.ntmps57
    go_wp2_with fail
    refine (atom_any _ w N t _ HX.out).mono ?_
    rintro e w2 ⟨rfl, rfl⟩
    rw [HA.out]
    go_wp2_with fail
    go_ret
    exact FIN.out _ _ (by simp [HA.out])
  | true =>
    have HA := Lib.hid ha
    clear ha
    by_cases h0 : 0 ≤ min
    · by_cases h1 : min ≤ 255
      · by_cases h2 : max = -1
        · have h2' : (max == -1) = true := by simp [h2]
          have H2 := Lib.hid h2
          clear h2
          go_enter Tryz.func57, Tryz.ntmps57
          go_wp2_with fail
          refine (atom_any _ w N t _ HX.out).mono ?_
          rintro e w2 ⟨rfl, rfl⟩
          rw [HA.out]
          go_wp2_with fail
          go_ret
          exact FIN.out _ _ (by simp [HA.out, H2.out, h0, h1])
        · have h2' : (max == -1) = false := by simp [h2]
          have H2 := Lib.hid h2
          clear h2
          by_cases h3 : min ≤ max
          · by_cases h4 : max ≤ 255
            · go_enter Tryz.func57, Tryz.ntmps57
              go_wp2_with fail
              refine (atom_any _ w N t _ HX.out).mono ?_
              rintro e w2 ⟨rfl, rfl⟩
              rw [HA.out]
              go_wp2_with fail
              go_ret
              exact FIN.out _ _ (by simp [HA.out, H2.out, h0, h1, h3, h4])
            · go_enter Tryz.func57, Tryz.ntmps57
              go_wp2_with fail
              refine (atom_any _ w N t _ HX.out).mono ?_
              rintro e w2 ⟨rfl, rfl⟩
              rw [HA.out]
              go_wp2_with fail
              go_ret
              exact FIN.out _ _ (by simp [H2.out]; omega)
          · go_enter Tryz.func57, Tryz.ntmps57
            go_wp2_with fail
            refine (atom_any _ w N t _ HX.out).mono ?_
            rintro e w2 ⟨rfl, rfl⟩
            rw [HA.out]
            go_wp2_with fail
            go_ret
            exact FIN.out _ _ (by simp [H2.out]; omega)
      · go_enter Tryz.func57, Tryz.ntmps57
        go_wp2_with fail
        refine (atom_any _ w N t _ HX.out).mono ?_
        rintro e w2 ⟨rfl, rfl⟩
        rw [HA.out]
        go_wp2_with fail
        go_ret
        exact FIN.out _ _ (by simp; omega)
    · go_enter Tryz.func57, Tryz.ntmps57
      go_wp2_with fail
      refine (atom_any _ w N t _ HX.out).mono ?_
      rintro e w2 ⟨rfl, rfl⟩
      rw [HA.out]
      go_wp2_with fail
      go_ret
      exact FIN.out _ _ (by simp; omega)

set_option maxRecDepth 100000 in
set_option maxHeartbeats 800000 in
theorem shaped_group (w : World) (base L N : Nat) (x : Value) (s : St) (n : Int) (t : Tr) (v : Value) (h : Lk w base L x s) (hv : Nd w N (.group n t) v) :
    Calls Tryz.prog 57 #[.pointer (some ⟨L, 0, none⟩), v] w (LPost w base L x (shapedT (.group n t) s)) := by
  have H := Lib.hid h
  obtain ⟨y, rfl, hx⟩ := hv
  obtain ⟨T, z, rfl⟩ := hx.form
  have hL := h.lt
  have c0 := h.c0
  have f0 := h.fz 0
  clear h hx
  have HE := Lib.hid (show shapedT (.group n t) s = if n = wrap64 (s.1 + 1) then some (wrap64 (s.1 + 1), s.2) else none from rfl)
  go_enter Tryz.func57, Tryz.ntmps57
  go_wp2_with fail
  obtain ⟨o, ho⟩ : ∃ o, wrap64 (s.1 + 1) = o := ⟨_, rfl⟩
  rw [ho] at HE ⊢
  have HO := Lib.hid ho
  clear ho
  go_quiet (fail)
  go_wp2_with fail
  go_ret
  refine ⟨x, ?_, ((Mv.setB 0 _).trans (Mv.alloc _)).drewN _, fun s' hs => ?_⟩
  · rw [HE.out]
    by_cases hn : n = o
    · simp [hn]
    · simp [hn]
  · rw [HE.out] at hs
    split at hs
    · cases hs; exact ((H.out.setOpened o).alloc _).drewN _
    · cases hs

set_option maxRecDepth 100000 in
set_option maxHeartbeats 800000 in
theorem shaped_back (w : World) (base L N : Nat) (x : Value) (s : St) (n : Int) (v : Value) (h : Lk w base L x s) (hv : Nd w N (.back n) v) :
    Calls Tryz.prog 57 #[.pointer (some ⟨L, 0, none⟩), v] w (LPost w base L x (shapedT (.back n) s)) := by
  have H := Lib.hid h
  obtain rfl := hv
  have hL := h.lt
  have c1 := h.c1
  have f0 := h.fz 0
  clear h
  go_enter Tryz.func57, Tryz.ntmps57
  go_wp2_with fail
  go_quiet ((go_at_call 33; refine Calls.quiet_of_same ((containsInts_any _ _ s.2 n x ((H.out.alloc _).drewN _).ints).mono (fun _ _ h => ⟨h.1, h.2.symm⟩))))
  go_wp2_with fail
  go_ret
  refine ⟨x, ?_, (Mv.alloc _).drewN _, fun s' hs => ?_⟩
  · simp only [shapedT]
    cases hb : s.2.any (fun x => n == x) <;> simp
  · simp only [shapedT] at hs
    split at hs
    · cases hs; exact (H.out.alloc _).drewN _
    · cases hs

theorem shaped_other (w : World) (base L N : Nat) (x : Value) (s : St) (t : Tr) (v : Value) (h : Lk w base L x s) (hv : Nd w N t v) (ht : match t with | .cat _ => False | .alt _ => False | .rep .. => False | .group .. => False | .back _ => False | _ => True) :
    Calls Tryz.prog 57 #[.pointer (some ⟨L, 0, none⟩), v] w (LPost w base L x (shapedT t s)) := by
  have H := Lib.hid h
  cases t with
  | cat ps => exact ht.elim
  | alt ps => exact ht.elim
  | rep t a b => exact ht.elim
  | group n t => exact ht.elim
  | back n => exact ht.elim
  | _ =>
    obtain rfl := hv
    clear h ht
    go_enter Tryz.func57, Tryz.ntmps57
    go_wp2_with fail
    go_ret
    exact LPost.same H.out (Below.refl _ _) rfl

theorem shaped_any (w : World) (base L N : Nat) (hN : N ≤ w.heap.size) (x : Value) (s : St) (t : Tr) (v : Value) (h : Lk w base L x s) (hv : Nd w N t v) :
    Calls Tryz.prog 57 #[.pointer (some ⟨L, 0, none⟩), v] w (LPost w base L x (shapedT t s)) := by
  cases t with
  | cat ps => exact shaped_cat w base L N hN x s ps v h hv
  | alt ps => exact shaped_alt w base L N hN x s ps v h hv
  | rep t a b => exact shaped_rep w base L N x s t a b v h hv
  | group n t => exact shaped_group w base L N x s n t v h hv
  | back n => exact shaped_back w base L N x s n v h hv
  | _ => exact shaped_other w base L N x s _ v h hv trivial
end Go.Proofs.YtkaoegdfgoojdaaGreatDoor
