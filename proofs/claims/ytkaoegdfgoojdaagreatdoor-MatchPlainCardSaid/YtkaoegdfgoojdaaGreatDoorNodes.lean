/- node at any tree: the walk of Cat, and the induction. -/
import Derived.Test.YtkaoegdfgoojdaaGreatDoorNode
namespace Go.Proofs.YtkaoegdfgoojdaaGreatDoor
open Go Go.RowKit

def CatRel (W0 : World) (base B : Nat) (v : Value) (s : BS) (fs : Nat → BS → BS) (n : Nat) (i : Value) (wr : World) : Prop :=
  ∃ k v1, k ≤ n ∧ i = .int .i64 (k : Nat) ∧ Bd wr base B v1 (catK fs k s) ∧ Mv W0 wr B v v1

set_option maxRecDepth 100000 in
set_option maxHeartbeats 800000 in
theorem node_cat (w0 : World) (base B b off n c : Nat) (V : Nat → Value) (fs : Nat → BS → BS) (hp : Parts w0 base B b off n V fs) (hc : n ≤ c) (hcm : c ≤ 9223372036854775807)
    (w : World) (v : Value) (s : BS) (hw : Below base w0 w) (h : Bd w base B v s) (hf : s.full = false) :
    Calls Tryz.prog 25 #[.pointer (some ⟨B, 0, none⟩), .iface 81 (.agg #[.slice (some ⟨b, off, none⟩) n c])] w
      (BPost w base B v (.tuple #[]) (catK fs n s)) := by
  have c4 := h.c4
  rw [hf] at c4
  have H := Lib.hid h
  have HP := Lib.hid hp
  have HW := Lib.hid hw
  have hB := h.lt
  clear h hf hp hw
  go_enter Tryz.func25, Tryz.ntmps25
  go_wp2_with fail
  clear c4
  have HB0 := Lib.hid (H.out.alloc (.cells #[.slice (some ⟨b, off, none⟩) n c] 81))
  have HM0 := Lib.hid (Mv.alloc (w := w) (B := B) (v := v) (.cells #[.slice (some ⟨b, off, none⟩) n c] 81))
  generalize w.alloc (.cells #[.slice (some ⟨b, off, none⟩) n c] 81) = W0 at *
  go_loopw [53] (fun i wr => CatRel w base B v s fs n i wr) (fun i _ => n - (intOf i).toNat)
  case atStart => exact ⟨0, v, Nat.zero_le _, rfl, HB0.out, HM0.out⟩
  case round =>
    obtain ⟨k, v1, hk, rfl, hb1, hm1⟩ := hrel
    have HB1 := Lib.hid hb1
    have HM1 := Lib.hid hm1
    clear hb1 hm1
    by_cases hlt : k < n
    · have hbb := Lib.hid (show Below base w0 wr from HW.out.trans (H.out.below_of HM1.out))
      have hcell : wr.cell? ⟨b, off + k, none⟩ = some (V k) := by
        rw [hbb.out.cell HP.out.lt]
        exact HP.out.cell k hlt
      go_wp2_with fail
      clear hcell
      refine (HP.out.node k hlt _ v1 _ hbb.out HB1.out).mono ?_
      rintro e w3 ⟨v3, rfl, hb, hm⟩
      have HB3 := Lib.hid hb
      have HM3 := Lib.hid hm
      clear hb hm
      go_wp2_with fail
      go_roundw
      case rel => exact ⟨k + 1, v3, by omega, by go_num, HB3.out, HM1.out.trans HM3.out⟩
      case measure => simp [intOf]; omega
    · obtain rfl : k = n := by omega
      go_wp2_with fail
      go_end0
      exact ⟨_, rfl, HB1.out, HM1.out⟩

set_option maxRecDepth 100000 in
set_option maxHeartbeats 800000 in
theorem node_cat0 (w : World) (base B : Nat) (v : Value) (s : BS) (h : Bd w base B v s) (hf : s.full = false) :
    Calls Tryz.prog 25 #[.pointer (some ⟨B, 0, none⟩), .iface 81 (.agg #[.slice none 0 0])] w (BPost w base B v (.tuple #[]) s) := by
  have c4 := h.c4
  rw [hf] at c4
  have H := Lib.hid h
  have hB := h.lt
  clear h hf
  go_enter Tryz.func25, Tryz.ntmps25
  go_wp2_with fail
  clear c4
  go_loopw [53] (fun i wr => i = .int .i64 0 ∧ wr = w.alloc (.cells #[.slice none 0 0] 81)) (fun i _ => 0)
  case atStart => exact ⟨rfl, rfl⟩
  case round =>
    obtain ⟨rfl, rfl⟩ := hrel
    go_wp2_with fail
    go_end0
    exact ⟨_, rfl, H.out.alloc _, Mv.alloc _⟩

theorem NodeAt.full {w0 : World} {base B : Nat} {nv : Value} {g : BS → BS} (h : ∀ w v s, Below base w0 w → Bd w base B v s → s.full = false → Calls Tryz.prog 25 #[.pointer (some ⟨B, 0, none⟩), nv] w (BPost w base B v (.tuple #[]) (g s))) :
    NodeAt w0 base B nv (fun b => if b.full then b else g b) := by
  intro w v s hw hb
  cases hf : s.full with
  | true => simp only [hf, if_true]; exact node_full w base B v nv s hb hf
  | false => simp only [hf]; exact h w v s hw hb hf

theorem Parts.of {w0 : World} {base B b off : Nat} {ps : List Tr} (hlt : b < base) (hc : NdCells w0 base b off ps) (hn : ∀ j, j < ps.length → ∀ v, Nd w0 base (ps.getD j .empty) v → NodeAt w0 base B v (nodeS (ps.getD j .empty))) :
    ∃ V, Parts w0 base B b off ps.length V (fun i => nodeS (ps.getD i .empty)) := by
  have h := NdCells.at ps off hc
  have h' : ∀ j, ∃ v, j < ps.length → w0.cell? ⟨b, off + j, none⟩ = some v ∧ Nd w0 base (ps.getD j .empty) v := by
    intro j
    by_cases hj : j < ps.length
    · obtain ⟨v, h1, h2⟩ := h j hj; exact ⟨v, fun _ => ⟨h1, h2⟩⟩
    · exact ⟨.nilIface, fun x => absurd x hj⟩
  refine ⟨fun j => Classical.choose (h' j), hlt, fun j hj => (Classical.choose_spec (h' j) hj).1, fun j hj => hn j hj _ (Classical.choose_spec (h' j) hj).2, fun j _ => nodeS_grows _⟩

mutual
/-- node at any tree. -/
theorem node_any (w0 : World) (base B : Nat) : ∀ (t : Tr) (nv : Value), Ok t → Nd w0 base t nv → NodeAt w0 base B nv (nodeS t)
  | .empty, nv, _, h => by
      obtain rfl := h
      intro w v s hw hb
      cases hf : s.full with
      | true => exact node_full w base B v _ s hb hf
      | false => exact node_empty w base B v s hb hf
  | .one a b c d, nv, _, h => by
      obtain rfl := h
      exact NodeAt.full fun w v s _ hb hf => node_one w base B v s a b c d hb hf
  | .start, nv, _, h => by
      obtain rfl := h
      exact NodeAt.full fun w v s _ hb hf => node_start w base B v s hb hf
  | .endd, nv, _, h => by
      obtain rfl := h
      exact NodeAt.full fun w v s _ hb hf => node_endd w base B v s hb hf
  | .back n, nv, _, h => by
      obtain rfl := h
      exact NodeAt.full fun w v s _ hb hf => node_back w base B v s n hb hf
  | .group n t, nv, ho, h => by
      obtain ⟨x, rfl, hx⟩ := h
      have ih := node_any w0 base B t x ho hx
      obtain ⟨T, y, rfl⟩ := hx.form
      exact NodeAt.full fun w v s hw hb hf => node_group w0 base B T _ _ ih w v s n hw hb hf
  | .rep t min max, nv, ho, h => by
      obtain ⟨x, rfl, hx⟩ := h
      obtain ⟨h0, h1, h2, ho⟩ := ho
      have ih := node_any w0 base B t x ho hx
      obtain ⟨T, y, rfl⟩ := hx.form
      exact NodeAt.full fun w v s hw hb hf => node_rep w0 base B T _ _ ih (nodeS_grows t) min max h1 h2 h0 w v s hw hb hf
  | .cat ps, nv, ho, h => by
      obtain ⟨x, rfl, hx⟩ := h
      rcases hx with ⟨rfl, rfl⟩ | ⟨b, off, c, rfl, hlt, h1, h2, h3⟩
      · exact NodeAt.full fun w v s hw hb hf => node_cat0 w base B v s hb hf
      · obtain ⟨V, hp⟩ := Parts.of (B := B) hlt h3 (fun j hj v hv => nodes_any w0 base B ps ho j hj v hv)
        refine NodeAt.full fun w v s hw hb hf => ?_
        rw [catS_eq]
        exact node_cat w0 base B b off ps.length c V _ hp h1 h2 w v s hw hb hf
  | .alt ps, nv, ho, h => by
      obtain ⟨x, rfl, hx⟩ := h
      obtain ⟨hne, hlen, ho⟩ := ho
      rcases hx with ⟨rfl, rfl⟩ | ⟨b, off, c, rfl, hlt, h1, h2, h3⟩
      · exact absurd rfl hne
      · obtain ⟨V, hp⟩ := Parts.of (B := B) hlt h3 (fun j hj v hv => nodes_any w0 base B ps ho j hj v hv)
        refine NodeAt.full fun w v s hw hb hf => ?_
        rw [altS_eq _ _ _ hne]
        obtain ⟨n, hn⟩ : ∃ n, ps.length = n + 1 := ⟨ps.length - 1, by have := List.length_pos_iff.2 hne; omega⟩
        rw [hn] at hp h1 ⊢
        exact node_alt w0 base B b off n c V _ hp h1 h2 (by omega) w v s hw hb hf
theorem nodes_any (w0 : World) (base B : Nat) : ∀ (ps : List Tr), Oks ps → ∀ j, j < ps.length → ∀ v, Nd w0 base (ps.getD j .empty) v → NodeAt w0 base B v (nodeS (ps.getD j .empty))
  | [], _, j, hj, _, _ => absurd hj (by simp)
  | t :: r, ho, 0, _, v, hv => node_any w0 base B t v ho.1 hv
  | t :: r, ho, j + 1, hj, v, hv => nodes_any w0 base B r ho.2 j (by simpa using hj) v hv
end
end Go.Proofs.YtkaoegdfgoojdaaGreatDoor
