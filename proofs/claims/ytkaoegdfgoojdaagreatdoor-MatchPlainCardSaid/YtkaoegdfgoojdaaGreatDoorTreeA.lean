/- told, plain, alt, atom, kids: the walks. -/
import Derived.Test.YtkaoegdfgoojdaaGreatDoorNodes
namespace Go.Proofs.YtkaoegdfgoojdaaGreatDoor
open Go Go.RowKit

mutual
theorem Nd.mono {w : World} {N N' : Nat} (hN : N ≤ N') : ∀ (t : Tr) (v : Value), Nd w N t v → Nd w N' t v
  | .empty, _, h => h
  | .one .., _, h => h
  | .cat ps, _, ⟨x, e, h⟩ => ⟨x, e, h.imp_right fun ⟨b, off, c, e, hlt, h1, h2, h3⟩ => ⟨b, off, c, e, Nat.lt_of_lt_of_le hlt hN, h1, h2, NdCells.mono hN b ps off h3⟩⟩
  | .alt ps, _, ⟨x, e, h⟩ => ⟨x, e, h.imp_right fun ⟨b, off, c, e, hlt, h1, h2, h3⟩ => ⟨b, off, c, e, Nat.lt_of_lt_of_le hlt hN, h1, h2, NdCells.mono hN b ps off h3⟩⟩
  | .rep t _ _, _, ⟨x, e, h⟩ => ⟨x, e, Nd.mono hN t x h⟩
  | .group _ t, _, ⟨x, e, h⟩ => ⟨x, e, Nd.mono hN t x h⟩
  | .back _, _, h => h
  | .start, _, h => h
  | .endd, _, h => h
theorem NdCells.mono {w : World} {N N' : Nat} (hN : N ≤ N') (b : Nat) : ∀ (ps : List Tr) (off : Nat), NdCells w N b off ps → NdCells w N' b off ps
  | [], _, _ => trivial
  | t :: r, off, ⟨⟨v, hc, hv⟩, h⟩ => ⟨⟨v, hc, Nd.mono hN t v hv⟩, NdCells.mono hN b r (off + 1) h⟩
end
theorem Nds.mono {w : World} {N N' : Nat} (hN : N ≤ N') {ps : List Tr} {x : Value} (h : Nds w N ps x) : Nds w N' ps x :=
  h.imp_right fun ⟨b, off, c, e, hlt, h1, h2, h3⟩ => ⟨b, off, c, e, Nat.lt_of_lt_of_le hlt hN, h1, h2, NdCells.mono hN b ps off h3⟩
theorem Nds.below {w w' : World} {N : Nat} (hb : Below N w w') {ps : List Tr} {x : Value} (h : Nds w N ps x) : Nds w' N ps x :=
  h.imp_right fun ⟨b, off, c, e, hlt, h1, h2, h3⟩ => ⟨b, off, c, e, hlt, h1, h2, NdCells.below hb b hlt ps off h3⟩
/-- What a slice of nodes looks like. -/
theorem Nds.form {w : World} {N : Nat} {ps : List Tr} {x : Value} (h : Nds w N ps x) : ∃ a c, x = .slice a ps.length c ∧ ps.length ≤ 9223372036854775807 := by
  rcases h with ⟨rfl, rfl⟩ | ⟨b, off, c, rfl, _, h1, h2, _⟩
  · exact ⟨none, 0, rfl, by simp⟩
  · exact ⟨_, c, rfl, by omega⟩
theorem Nds.at {w : World} {N : Nat} {ps : List Tr} {a : Option Addr} {c : Nat} (h : Nds w N ps (.slice a ps.length c)) (j : Nat) (hj : j < ps.length) :
    ∃ b off v, a = some ⟨b, off, none⟩ ∧ b < N ∧ w.cell? ⟨b, off + j, none⟩ = some v ∧ Nd w N (ps.getD j .empty) v := by
  rcases h with ⟨rfl, _⟩ | ⟨b, off, c', e, hlt, _, _, h3⟩
  · simp at hj
  · injection e with e1 _ _
    obtain ⟨v, h4, h5⟩ := NdCells.at ps off h3 j hj
    exact ⟨b, off, v, e1, hlt, h4, h5⟩

def kidsT : Tr → List Tr
  | .cat ps => ps
  | .alt ps => ps
  | .rep t _ _ => [t]
  | .group _ t => [t]
  | _ => []
def plainT : Tr → Bool
  | .empty => false
  | .cat _ => false
  | .alt _ => false
  | _ => true
def altT : Tr → Bool
  | .alt _ => true
  | _ => false
def backT : Tr → Bool
  | .back _ => true
  | _ => false
def atomT : Tr → Bool
  | .start => false
  | .endd => false
  | t => plainT t

/-- A call that answers v and only makes memory. -/
def Says (w : World) (v : Value) (e : Ending) (w' : World) : Prop := e = .returned v ∧ Below w.heap.size w w'

set_option maxRecDepth 100000 in
set_option maxHeartbeats 400000 in
theorem told_any (w : World) (T : TypeId) (x : Value) :
    Calls Tryz.prog 99 #[.iface T x] w fun e w' => e = .returned (.iface T x) ∧ w = w' := by
  go_enter Tryz.func99, Tryz.ntmps99
  go_wp2_with fail
  go_ret
  exact ⟨rfl, rfl⟩

set_option maxRecDepth 100000 in
set_option maxHeartbeats 800000 in
theorem plain_any (w w1 : World) (N : Nat) (t : Tr) (v : Value) (h : Nd w1 N t v) :
    Calls Tryz.prog 83 #[v] w fun e w' => e = .returned (.bool (plainT t)) ∧ w = w' := by
  cases t with
  | cat ps => obtain ⟨y, rfl, _⟩ := h; go_enter Tryz.func83, Tryz.ntmps83; go_wp2_with (go_at_call 99; refine (told_any _ _ _).mono ?_; rintro e w' ⟨rfl, rfl⟩); go_ret; exact ⟨rfl, rfl⟩
  | alt ps => obtain ⟨y, rfl, _⟩ := h; go_enter Tryz.func83, Tryz.ntmps83; go_wp2_with (go_at_call 99; refine (told_any _ _ _).mono ?_; rintro e w' ⟨rfl, rfl⟩); go_ret; exact ⟨rfl, rfl⟩
  | rep ps => obtain ⟨y, rfl, _⟩ := h; go_enter Tryz.func83, Tryz.ntmps83; go_wp2_with (go_at_call 99; refine (told_any _ _ _).mono ?_; rintro e w' ⟨rfl, rfl⟩); go_ret; exact ⟨rfl, rfl⟩
  | group ps => obtain ⟨y, rfl, _⟩ := h; go_enter Tryz.func83, Tryz.ntmps83; go_wp2_with (go_at_call 99; refine (told_any _ _ _).mono ?_; rintro e w' ⟨rfl, rfl⟩); go_ret; exact ⟨rfl, rfl⟩
  | _ => obtain rfl := h; go_enter Tryz.func83, Tryz.ntmps83; go_wp2_with (go_at_call 99; refine (told_any _ _ _).mono ?_; rintro e w' ⟨rfl, rfl⟩); go_ret; exact ⟨rfl, rfl⟩

set_option maxRecDepth 100000 in
set_option maxHeartbeats 400000 in
theorem shaped1_any (w w1 : World) (N : Nat) (t : Tr) (v : Value) (h : Nd w1 N t v) :
    Calls Tryz.prog 82 #[v] w fun e w' => e = .returned (.bool (!plainT t)) ∧ w = w' := by
  have H := Lib.hid h
  clear h
  go_enter Tryz.func82, Tryz.ntmps82
  go_wp2_with fail
  refine (plain_any _ _ _ t _ H.out).mono ?_
  rintro e w' ⟨rfl, rfl⟩
  go_wp2_with fail
  go_ret
  exact ⟨rfl, rfl⟩

set_option maxRecDepth 100000 in
set_option maxHeartbeats 800000 in
theorem alt_is (w w1 : World) (N : Nat) (t : Tr) (v : Value) (h : Nd w1 N t v) :
    Calls Tryz.prog 84 #[v] w (Says w (.bool (altT t))) := by
  cases t with
  | cat ps => obtain ⟨y, rfl, hx⟩ := h; obtain ⟨a, c, rfl, _⟩ := Nds.form hx; go_enter Tryz.func84, Tryz.ntmps84; go_wp2_with fail; go_ret; exact ⟨rfl, (Below.refl _ _).alloc (Nat.le_refl _) _⟩
  | alt ps => obtain ⟨y, rfl, hx⟩ := h; obtain ⟨a, c, rfl, _⟩ := Nds.form hx; go_enter Tryz.func84, Tryz.ntmps84; go_wp2_with fail; go_ret; exact ⟨rfl, (Below.refl _ _).alloc (Nat.le_refl _) _⟩
  | rep ps => obtain ⟨y, rfl, hx⟩ := h; go_enter Tryz.func84, Tryz.ntmps84; go_wp2_with fail; go_ret; exact ⟨rfl, (Below.refl _ _).alloc (Nat.le_refl _) _⟩
  | group ps => obtain ⟨y, rfl, hx⟩ := h; go_enter Tryz.func84, Tryz.ntmps84; go_wp2_with fail; go_ret; exact ⟨rfl, (Below.refl _ _).alloc (Nat.le_refl _) _⟩
  | _ => obtain rfl := h; go_enter Tryz.func84, Tryz.ntmps84; go_wp2_with fail; go_ret; exact ⟨rfl, (Below.refl _ _).alloc (Nat.le_refl _) _⟩

set_option maxRecDepth 100000 in
set_option maxHeartbeats 800000 in
theorem atom_any (w w1 : World) (N : Nat) (t : Tr) (v : Value) (h : Nd w1 N t v) :
    Calls Tryz.prog 85 #[v] w fun e w' => e = .returned (.bool (atomT t)) ∧ w = w' := by
  have H := Lib.hid h
  cases t with
  | cat ps => obtain ⟨y, rfl, _⟩ := h; go_enter Tryz.func85, Tryz.ntmps85; go_wp2_with (go_at_call 83; refine (plain_any _ _ _ _ _ H.out).mono ?_; rintro e w' ⟨rfl, rfl⟩); go_ret; exact ⟨rfl, rfl⟩
  | alt ps => obtain ⟨y, rfl, _⟩ := h; go_enter Tryz.func85, Tryz.ntmps85; go_wp2_with (go_at_call 83; refine (plain_any _ _ _ _ _ H.out).mono ?_; rintro e w' ⟨rfl, rfl⟩); go_ret; exact ⟨rfl, rfl⟩
  | rep ps => obtain ⟨y, rfl, _⟩ := h; go_enter Tryz.func85, Tryz.ntmps85; go_wp2_with (go_at_call 83; refine (plain_any _ _ _ _ _ H.out).mono ?_; rintro e w' ⟨rfl, rfl⟩); go_ret; exact ⟨rfl, rfl⟩
  | group ps => obtain ⟨y, rfl, _⟩ := h; go_enter Tryz.func85, Tryz.ntmps85; go_wp2_with (go_at_call 83; refine (plain_any _ _ _ _ _ H.out).mono ?_; rintro e w' ⟨rfl, rfl⟩); go_ret; exact ⟨rfl, rfl⟩
  | _ => obtain rfl := h; go_enter Tryz.func85, Tryz.ntmps85; go_wp2_with (go_at_call 83; refine (plain_any _ _ _ _ _ H.out).mono ?_; rintro e w' ⟨rfl, rfl⟩); go_ret; exact ⟨rfl, rfl⟩

/-- What kids leaves. -/
def KidsPost (w : World) (N : Nat) (ps : List Tr) (e : Ending) (w' : World) : Prop := ∃ x, e = .returned x ∧ Below w.heap.size w w' ∧ Nds w' w'.heap.size ps x

theorem one_kid {w : World} {N : Nat} (hN : N ≤ w.heap.size) {t : Tr} {v : Value} (h : Nd w N t v) (o : Obj) (ty : TypeId) :
    Below w.heap.size w ((w.alloc o).alloc (.cells #[v] ty)) ∧ Nds ((w.alloc o).alloc (.cells #[v] ty)) ((w.alloc o).alloc (.cells #[v] ty)).heap.size [t] (.slice (some ⟨w.heap.size + 1, 0, none⟩) 1 1) := by
  have hb : Below w.heap.size w ((w.alloc o).alloc (.cells #[v] ty)) := ((Below.refl _ _).alloc (Nat.le_refl _) _).alloc (by rw [show (w.alloc o).heap.size = w.heap.size + 1 from Array.size_push _]; omega) _
  have hs : ((w.alloc o).alloc (.cells #[v] ty)).heap.size = w.heap.size + 2 := by
    rw [show ((w.alloc o).alloc (.cells #[v] ty)).heap.size = (w.alloc o).heap.size + 1 from Array.size_push _, show (w.alloc o).heap.size = w.heap.size + 1 from Array.size_push _]
  refine ⟨hb, .inr ⟨w.heap.size + 1, 0, 1, rfl, by omega, Nat.le_refl _, by omega, ⟨⟨v, ?_, Nd.mono (by omega) t v (Nd.below (hb.mono hN) t v h)⟩, trivial⟩⟩⟩
  have h1 := heap_alloc_new (w.alloc o) (.cells #[v] ty)
  rw [show (w.alloc o).heap.size = w.heap.size + 1 from Array.size_push _] at h1
  exact cell_of h1 rfl

set_option maxRecDepth 100000 in
set_option maxHeartbeats 800000 in
theorem kids_any (w : World) (N : Nat) (hN : N ≤ w.heap.size) (t : Tr) (v : Value) (h : Nd w N t v) :
    Calls Tryz.prog 38 #[v] w (KidsPost w N (kidsT t)) := by
  cases t with
  | cat ps =>
    obtain ⟨y, rfl, hx⟩ := h
    have H := Lib.hid (show Nds w N ps y from hx)
    obtain ⟨a, c, rfl, _⟩ := Nds.form hx
    clear hx
    go_enter Tryz.func38, Tryz.ntmps38
    go_wp2_with fail
    go_ret
    have hb : Below w.heap.size w (w.alloc (.cells #[.slice a ps.length c] 81)) := (Below.refl _ _).alloc (Nat.le_refl _) _
    exact ⟨_, rfl, hb, (H.out.below (hb.mono hN)).mono (Nat.le_trans hN hb.size)⟩
  | alt ps =>
    obtain ⟨y, rfl, hx⟩ := h
    have H := Lib.hid (show Nds w N ps y from hx)
    obtain ⟨a, c, rfl, _⟩ := Nds.form hx
    clear hx
    go_enter Tryz.func38, Tryz.ntmps38
    go_wp2_with fail
    go_ret
    have hb : Below w.heap.size w (w.alloc (.cells #[.slice a ps.length c] 82)) := (Below.refl _ _).alloc (Nat.le_refl _) _
    exact ⟨_, rfl, hb, (H.out.below (hb.mono hN)).mono (Nat.le_trans hN hb.size)⟩
  | rep t m x =>
    obtain ⟨y, rfl, hx⟩ := h
    have H := Lib.hid hx
    obtain ⟨T, z, rfl⟩ := hx.form
    clear hx
    go_enter Tryz.func38, Tryz.ntmps38
    go_wp2_with fail
    go_ret
    exact ⟨_, rfl, one_kid hN H.out _ _⟩
  | group n t =>
    obtain ⟨y, rfl, hx⟩ := h
    have H := Lib.hid hx
    obtain ⟨T, z, rfl⟩ := hx.form
    clear hx
    go_enter Tryz.func38, Tryz.ntmps38
    go_wp2_with fail
    go_ret
    exact ⟨_, rfl, one_kid hN H.out _ _⟩
  | _ =>
    obtain rfl := h
    go_enter Tryz.func38, Tryz.ntmps38
    go_wp2_with fail
    go_ret
    exact ⟨_, rfl, Below.refl _ _, .inl ⟨rfl, rfl⟩⟩
end Go.Proofs.YtkaoegdfgoojdaaGreatDoor
