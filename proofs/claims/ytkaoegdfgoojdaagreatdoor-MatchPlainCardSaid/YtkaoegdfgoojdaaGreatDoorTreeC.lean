/- Groups, Backs: the walks, by induction on a tree's size. -/
import Derived.Test.YtkaoegdfgoojdaaGreatDoorTreeB
namespace Go.Proofs.YtkaoegdfgoojdaaGreatDoor
open Go Go.RowKit

mutual
def sizeT : Tr → Nat
  | .cat ps => sizeL ps + 1
  | .alt ps => sizeL ps + 1
  | .rep t _ _ => sizeT t + 1
  | .group _ t => sizeT t + 1
  | _ => 1
def sizeL : List Tr → Nat
  | [] => 0
  | t :: r => sizeT t + sizeL r
end
mutual
def groupsN : Tr → Nat
  | .cat ps => groupsL ps
  | .alt ps => groupsL ps
  | .rep t _ _ => groupsN t
  | .group _ t => 1 + groupsN t
  | _ => 0
def groupsL : List Tr → Nat
  | [] => 0
  | t :: r => groupsN t + groupsL r
end
mutual
def backsT : Tr → Bool
  | .cat ps => backsL ps
  | .alt ps => backsL ps
  | .rep t _ _ => backsT t
  | .group _ t => backsT t
  | .back _ => true
  | _ => false
def backsL : List Tr → Bool
  | [] => false
  | t :: r => backsT t || backsL r
end
def groupT : Tr → Bool
  | .group _ _ => true
  | _ => false
theorem backsL_any (ps : List Tr) : backsL ps = ps.any backsT := by
  induction ps with
  | nil => rfl
  | cons t r ih => rw [backsL, ih]; rfl
theorem backsT_kids (t : Tr) : backsT t = (backT t || (kidsT t).any backsT) := by
  cases t <;> simp [backsT, backT, kidsT, backsL_any]
theorem groupsN_kids (t : Tr) : groupsN t = (if groupT t then 1 else 0) + groupsL (kidsT t) := by
  cases t <;> simp [groupsN, groupT, kidsT, groupsL]
theorem groupsL_take (ps : List Tr) (k : Nat) (h : k < ps.length) : groupsL (ps.take (k + 1)) = groupsL (ps.take k) + groupsN (ps.getD k .empty) := by
  induction ps generalizing k with
  | nil => simp at h
  | cons t r ih =>
    cases k with
    | zero => simp [groupsL]
    | succ k => simp only [List.take_succ_cons, groupsL, ih k (by simpa using h), List.getD_cons_succ]; omega
theorem groupsL_le (ps : List Tr) (k : Nat) : groupsL (ps.take k) ≤ groupsL ps := by
  induction ps generalizing k with
  | nil => simp
  | cons t r ih =>
    cases k with
    | zero => simp [groupsL]
    | succ k => have := ih k; simp only [List.take_succ_cons, groupsL]; omega
theorem sizeL_at (ps : List Tr) (k : Nat) (h : k < ps.length) : sizeT (ps.getD k .empty) ≤ sizeL ps := by
  induction ps generalizing k with
  | nil => simp at h
  | cons t r ih =>
    cases k with
    | zero => simp [sizeL]
    | succ k => have := ih k (by simpa using h); simp only [List.getD_cons_succ, sizeL]; omega
theorem kid_size (t : Tr) (k : Nat) (h : k < (kidsT t).length) : sizeT ((kidsT t).getD k .empty) < sizeT t := by
  cases t with
  | cat ps => have := sizeL_at ps k h; simp only [kidsT, sizeT]; omega
  | alt ps => have := sizeL_at ps k h; simp only [kidsT, sizeT]; omega
  | rep t a b => simp only [kidsT, List.length_singleton] at h; obtain rfl : k = 0 := by omega
                 simp [kidsT, sizeT]
  | group n t => simp only [kidsT, List.length_singleton] at h; obtain rfl : k = 0 := by omega
                 simp [kidsT, sizeT]
  | _ => simp [kidsT] at h

theorem zero_group (w : World) : (do pure (Value.tuple #[← zeroValue 86, .bool false]) : Sem Value).run Tryz.prog w = .ok (.tuple #[.agg #[.int .i64 0, .nilIface], .bool false]) w := by kernel_rfl
theorem no_group (T : TypeId) (h : T ≠ 86) (v : Value) (w : World) : (Instr.typeAssert (.iface T v) 52 86 true).run Tryz.prog w = .ok (.tuple #[.agg #[.int .i64 0, .nilIface], .bool false]) w := by
  have e : (Instr.typeAssert (.iface T v) 52 86 true).run Tryz.prog w = (if T = 86 then (pure (Value.tuple #[v, .bool true]) : Sem Value) else (do pure (Value.tuple #[← zeroValue 86, .bool false]))).run Tryz.prog w := by kernel_rfl
  rw [e, if_neg h]
  exact zero_group w
theorem zero_back (w : World) : (do pure (Value.tuple #[← zeroValue 88, .bool false]) : Sem Value).run Tryz.prog w = .ok (.tuple #[.agg #[.int .i64 0], .bool false]) w := by kernel_rfl
theorem no_back (T : TypeId) (h : T ≠ 88) (v : Value) (w : World) : (Instr.typeAssert (.iface T v) 52 88 true).run Tryz.prog w = .ok (.tuple #[.agg #[.int .i64 0], .bool false]) w := by
  have e : (Instr.typeAssert (.iface T v) 52 88 true).run Tryz.prog w = (if T = 88 then (pure (Value.tuple #[v, .bool true]) : Sem Value) else (do pure (Value.tuple #[← zeroValue 88, .bool false]))).run Tryz.prog w := by kernel_rfl
  rw [e, if_neg h]
  exact zero_back w
theorem Nd.nogroup {w : World} {N : Nat} {t : Tr} {v : Value} (h : Nd w N t v) (hg : groupT t = false) : ∃ T x, v = .iface T (.agg x) ∧ T ≠ 86 := by
  cases t with
  | cat ps => obtain ⟨x, h, _⟩ := h; exact ⟨_, _, h, by decide⟩
  | alt ps => obtain ⟨x, h, _⟩ := h; exact ⟨_, _, h, by decide⟩
  | rep t a b => obtain ⟨x, h, _⟩ := h; exact ⟨_, _, h, by decide⟩
  | group n t => cases hg
  | _ => exact ⟨_, _, h, by decide⟩
theorem Nd.noback {w : World} {N : Nat} {t : Tr} {v : Value} (h : Nd w N t v) (hg : backT t = false) : ∃ T x, v = .iface T (.agg x) ∧ T ≠ 88 := by
  cases t with
  | cat ps => obtain ⟨x, h, _⟩ := h; exact ⟨_, _, h, by decide⟩
  | alt ps => obtain ⟨x, h, _⟩ := h; exact ⟨_, _, h, by decide⟩
  | rep t a b => obtain ⟨x, h, _⟩ := h; exact ⟨_, _, h, by decide⟩
  | group n t => obtain ⟨x, h, _⟩ := h; exact ⟨_, _, h, by decide⟩
  | back n => cases hg
  | _ => exact ⟨_, _, h, by decide⟩

def GrRel (w : World) (ps : List Tr) (c0 : Nat) (c i : Value) (wr : World) : Prop :=
  ∃ k p, k ≤ ps.length ∧ i = .int .i64 (k : Nat) ∧ c = .int .i64 (p : Nat) ∧ p = c0 + groupsL (ps.take k) ∧ Below w.heap.size w wr

set_option maxRecDepth 100000 in
set_option maxHeartbeats 800000 in
theorem groups_any (n : Nat) : ∀ (t : Tr), sizeT t ≤ n → ∀ (w : World) (N : Nat) (v : Value), N ≤ w.heap.size → Nd w N t v → groupsN t ≤ 1048576 →
    Calls Tryz.prog 22 #[v] w (Says w (.int .i64 (groupsN t : Nat))) := by
  induction n with
  | zero => intro t ht; exact absurd ht (by cases t <;> simp [sizeT])
  | succ n ih =>
    intro t ht w N v hN h hgb
    have IH : ∀ k, k < (kidsT t).length → ∀ (w : World) (N : Nat) (v : Value), N ≤ w.heap.size → Nd w N ((kidsT t).getD k .empty) v → groupsN ((kidsT t).getD k .empty) ≤ 1048576 → Calls Tryz.prog 22 #[v] w (Says w (.int .i64 (groupsN ((kidsT t).getD k .empty) : Nat))) :=
      fun k hk => ih _ (by have := kid_size t k hk; omega)
    have HIH := Lib.hid IH
    clear ih IH
    have H := Lib.hid h
    have HG := Lib.hid (groupsN_kids t)
    cases hg : groupT t with
    | true =>
      cases t with
      | group m t =>
        obtain ⟨y, rfl, hy⟩ := h
        obtain ⟨T, z, rfl⟩ := hy.form
        clear hy hg
        go_enter Tryz.func22, Tryz.ntmps22
        go_wp2_with fail
        refine (kids_any _ N (by simp; omega) (.group m t) _ (Nd.below ((Below.refl _ _).alloc hN _) (.group m t) _ H.out)).mono ?_
        rintro e w2 ⟨x2, rfl, hb, hx⟩
        obtain ⟨a, c, rfl, hlen⟩ := hx.form
        have HB := Lib.hid (((Below.refl _ _).alloc (Nat.le_refl _) _).trans (hb.mono (by simp)))
        have HX := Lib.hid hx
        clear hb hx
        go_wp2_with fail
        go_loopw [3, 19] (fun c i wr => GrRel w2 (kidsT (.group m t)) 1 c i wr) (fun _ i _ => (kidsT (.group m t)).length - (intOf i).toNat)
        case atStart => exact ⟨0, 1, Nat.zero_le _, rfl, rfl, by simp [groupsL], Below.refl _ _⟩
        case round =>
          obtain ⟨k, p, hk, rfl, rfl, hp, hb⟩ := hrel
          have HB2 := Lib.hid hb
          have HP := Lib.hid hp
          clear hb hp
          by_cases hlt : k < (kidsT (.group m t)).length
          · obtain ⟨b, off, v, rfl, hbN, hcell, hnd⟩ := (HX.out.below HB2.out).at k hlt
            have HND := Lib.hid hnd
            obtain ⟨g, hgk⟩ : ∃ g, groupsN ((kidsT (.group m t)).getD k .empty) = g := ⟨_, rfl⟩
            have hle : p + g ≤ 1048576 := by
              have h1 := groupsL_take (kidsT (.group m t)) k hlt
              have h2 := groupsL_le (kidsT (.group m t)) (k + 1)
              have h3 := HG.out
              have h4 := HP.out
              simp only [groupT, if_true] at h3
              omega
            have hS := Lib.hid (show p + g = 1 + groupsL ((kidsT (.group m t)).take (k + 1)) by rw [groupsL_take _ k hlt, HP.out, hgk]; omega)
            have HGK := Lib.hid hgk
            clear hnd hbN hgk
            go_wp2_with fail
            refine (HIH.out k hlt wr _ v HB2.out.size HND.out (by rw [HGK.out]; omega)).mono ?_
            rintro e w3 ⟨rfl, hb3⟩
            have HB3 := Lib.hid (HB2.out.trans (hb3.mono HB2.out.size))
            clear hb3 hcell
            rw [HGK.out]
            go_wp2_with fail
            go_roundw
            case rel => exact ⟨k + 1, p + g, by omega, by go_num, by go_num, hS.out, HB3.out⟩
            case measure => simp [intOf]; omega
          · obtain rfl : k = (kidsT (.group m t)).length := by omega
            go_wp2_with fail
            go_ret
            exact ⟨ret_int (by rw [HG.out, HP.out, List.take_length]; simp [groupT]), HB.out.trans (HB2.out.mono HB.out.size)⟩
      | _ => cases hg
    | false =>
      obtain ⟨T, x, rfl, hT⟩ := h.nogroup hg
      have hno := no_group T hT
      clear h hT
      go_enter Tryz.func22, Tryz.ntmps22
      go_wp2_with fail
      clear hno
      refine (kids_any _ N (by simp; omega) t _ (Nd.below ((Below.refl _ _).alloc hN _) t _ H.out)).mono ?_
      rintro e w2 ⟨x2, rfl, hb, hx⟩
      obtain ⟨a, c, rfl, hlen⟩ := hx.form
      have HB := Lib.hid (((Below.refl _ _).alloc (Nat.le_refl _) _).trans (hb.mono (by simp)))
      have HX := Lib.hid hx
      clear hb hx
      go_wp2_with fail
      go_loopw [3, 19] (fun c i wr => GrRel w2 (kidsT t) 0 c i wr) (fun _ i _ => (kidsT t).length - (intOf i).toNat)
      case atStart => exact ⟨0, 0, Nat.zero_le _, rfl, rfl, by simp [groupsL], Below.refl _ _⟩
      case round =>
        obtain ⟨k, p, hk, rfl, rfl, hp, hb⟩ := hrel
        have HB2 := Lib.hid hb
        have HP := Lib.hid hp
        clear hb hp
        by_cases hlt : k < (kidsT t).length
        · obtain ⟨b, off, v, rfl, hbN, hcell, hnd⟩ := (HX.out.below HB2.out).at k hlt
          have HND := Lib.hid hnd
          obtain ⟨g, hgk⟩ : ∃ g, groupsN ((kidsT t).getD k .empty) = g := ⟨_, rfl⟩
          have hle : p + g ≤ 1048576 := by
            have h1 := groupsL_take (kidsT t) k hlt
            have h2 := groupsL_le (kidsT t) (k + 1)
            have h3 := HG.out
            have h4 := HP.out
            rw [hg] at h3; simp only [Bool.false_eq_true, if_false] at h3
            omega
          have hS := Lib.hid (show p + g = 0 + groupsL ((kidsT t).take (k + 1)) by rw [groupsL_take _ k hlt, HP.out, hgk]; omega)
          have HGK := Lib.hid hgk
          clear hnd hbN hgk
          go_wp2_with fail
          refine (HIH.out k hlt wr _ v HB2.out.size HND.out (by rw [HGK.out]; omega)).mono ?_
          rintro e w3 ⟨rfl, hb3⟩
          have HB3 := Lib.hid (HB2.out.trans (hb3.mono HB2.out.size))
          clear hb3 hcell
          rw [HGK.out]
          go_wp2_with fail
          go_roundw
          case rel => exact ⟨k + 1, p + g, by omega, by go_num, by go_num, hS.out, HB3.out⟩
          case measure => simp [intOf]; omega
        · obtain rfl : k = (kidsT t).length := by omega
          go_wp2_with fail
          go_ret
          exact ⟨ret_int (by rw [HG.out, HP.out, List.take_length]; simp [hg]), HB.out.trans (HB2.out.mono HB.out.size)⟩
end Go.Proofs.YtkaoegdfgoojdaaGreatDoor
