/- Has, Groups, Slots: the walks (seat 2). -/
import Derived.Test.YtkaoegdfgoojdaaGreatDoorFind
namespace Go.Proofs.YtkaoegdfgoojdaaGreatDoor
open Go Go.RowKit
set_option maxRecDepth 100000

set_option maxHeartbeats 800000 in
theorem hasRe_any (w : World) (R gi icap : Nat) (p : List In) (G : Nat) (E : Int) (s : ByteArray) (f : Nat) (o : Option (List Int)) (hp : p.length ≤ 3000) (hss : s.size ≤ 1048576) (hop : ∀ i ∈ p, ∀ c, 0 ≤ wordOf i c ∧ wordOf i c ≤ 18446744073709551615)
    (hG : G = 0 ∨ G = 2) (hR : Rx w R gi icap p G E) (ho : findF p s.data.toList f (2 * G + 2) (s.size + 1) 0 = some o) :
    Calls Tryz.prog 11 #[.pointer (some ⟨R, 0, none⟩), .string s] w (Says w (.bool o.isSome)) := by
  have hf : Calls Tryz.prog 8 #[.pointer (some ⟨R, 0, none⟩), .string s, .int .i64 0] w (FindPost w o) := find_any w R gi icap p G E s f 0 o hp hss hop hG (Nat.zero_le _) hR ho
  have HF := Lib.hid hf
  clear hf ho hR hop
  go_enter Tryz.func11, Tryz.ntmps11
  go_wp2_with fail
  refine HF.out.mono ?_
  rintro e w2 ⟨hb, h⟩
  have HB := Lib.hid hb
  clear hb
  cases o with
  | none =>
    simp only at h
    subst h
    go_wp2_with fail
    go_ret
    exact ⟨rfl, HB.out⟩
  | some l =>
    obtain ⟨g, c, rfl, h1, h2, h3, h4⟩ := h
    clear h1 h2 h3 h4
    go_wp2_with fail
    go_ret
    exact ⟨rfl, HB.out⟩

set_option maxHeartbeats 800000 in
theorem groupsRe_any (w : World) (R gi icap : Nat) (p : List In) (G E : Int) (hR : Rx w R gi icap p G E) :
    Calls Tryz.prog 12 #[.pointer (some ⟨R, 0, none⟩)] w (Says w (.int .i64 G)) := by
  have r1 : w.cell? ⟨R, 1, none⟩ = some (.int .i64 G) := cell_of hR.blk (j := 1) rfl
  clear hR
  go_enter Tryz.func12, Tryz.ntmps12
  go_wp2_with fail
  go_ret
  exact ⟨rfl, Below.refl _ _⟩

/-- The cells of a slice of ints. -/
def IntsIn (w : World) (g : Nat) (l : List Int) : Prop := ∀ j u, (l.map (Value.int .i64))[j]? = some u → w.cell? ⟨g, j, none⟩ = some u
theorem IntsIn.at {w : World} {g : Nat} {l : List Int} (h : IntsIn w g l) (j : Nat) (hj : j < l.length) : w.cell? ⟨g, j, none⟩ = some (.int .i64 (l.getD j 0)) := h j _ (by simp [List.getD, hj])

theorem same_upto (a b : List Int) (hl : a.length = b.length) (h : ∀ j, j < a.length → a.getD j 0 = b.getD j 0) : a = b := by
  apply List.ext_getElem hl
  intro i h1 h2
  have := h i h1
  simpa [List.getD, h1, h2] using this

set_option maxHeartbeats 1600000 in
theorem slots_any (w : World) (x y c d : Nat) (a b : List Int) (hla : a.length ≤ 1048576) (hlb : b.length ≤ 1048576) (ha : IntsIn w x a) (hb : IntsIn w y b) (hx : x < w.heap.size) (hy : y < w.heap.size) :
    Calls Tryz.prog 9 #[.slice (some ⟨x, 0, none⟩) a.length c, .slice (some ⟨y, 0, none⟩) b.length d] w (Says w (.bool (decide (a = b)))) := by
  have HA := Lib.hid ha
  have HB := Lib.hid hb
  clear ha hb
  by_cases hl : a.length = b.length
  · have hl2 : (a.length : Int) = (b.length : Int) := by omega
    have hl3 : ((a.length : Int) != (b.length : Int)) = false := by simp [hl2]
    go_enter Tryz.func9, Tryz.ntmps9
    go_wp2_with fail
    go_loopw [13] (fun v wr => ∃ k : Nat, v = .int .i64 k ∧ k ≤ a.length ∧ (∀ j, j < k → a.getD j 0 = b.getD j 0) ∧ Below w.heap.size w wr) (fun v _ => a.length - (intOf v).toNat)
    case atStart => exact ⟨0, rfl, Nat.zero_le _, fun j hj => by omega, Below.refl _ _⟩
    case round =>
      obtain ⟨k, rfl, hk, hsame, hbl⟩ := hrel
      have HS := Lib.hid hsame
      have HBL := Lib.hid hbl
      by_cases hlt : k < a.length
      · have q1 : wr.cell? ⟨x, k, none⟩ = some (.int .i64 (a.getD k 0)) := (hbl.cell (p := ⟨x, k, none⟩) hx).trans (HA.out.at k hlt)
        have q2 : wr.cell? ⟨y, k, none⟩ = some (.int .i64 (b.getD k 0)) := (hbl.cell (p := ⟨y, k, none⟩) hy).trans (HB.out.at k (by omega))
        have i1 : (k : Int) < (a.length : Int) := by omega
        have i2 : (k : Int) < (b.length : Int) := by omega
        have hltb : k < b.length := by omega
        clear hsame hbl
        obtain ⟨u, hu⟩ : ∃ u, a.getD k 0 = u := ⟨_, rfl⟩
        obtain ⟨v, hv⟩ : ∃ v, b.getD k 0 = v := ⟨_, rfl⟩
        rw [hu] at q1
        rw [hv] at q2
        have HU := Lib.hid hu
        have HV := Lib.hid hv
        clear hu hv
        by_cases he : u = v
        · have heb : (u != v) = false := by simp [he]
          have HE := Lib.hid he
          clear he
          go_wp2_with fail
          go_quiet (fail)
          go_wp2_with fail
          go_roundw
          case rel => exact ⟨k + 1, by go_num, by omega, fun j hj => by
            by_cases h : j = k
            · subst h; rw [HU.out, HV.out]; exact HE.out
            · exact HS.out j (by omega), below_drewN HBL.out _⟩
          case measure => simp [intOf]; omega
        · have heb : (u != v) = true := by simp [he]
          have HE := Lib.hid he
          clear he
          go_wp2_with fail
          go_quiet (fail)
          go_wp2_with fail
          go_ret
          have : decide (a = b) = false := by
            rw [decide_eq_false_iff_not]
            intro e
            apply HE.out
            rw [← HU.out, ← HV.out, e]
          rw [this]
          exact ⟨rfl, below_drewN HBL.out _⟩
      · obtain rfl : k = a.length := by omega
        go_wp2_with fail
        go_ret
        have : decide (a = b) = true := decide_eq_true (same_upto a b hl HS.out)
        rw [this]
        exact ⟨rfl, HBL.out⟩
  · have hl3 : ((a.length : Int) != (b.length : Int)) = true := by simp; omega
    have : decide (a = b) = false := by
      rw [decide_eq_false_iff_not]
      intro e
      exact hl (by rw [e])
    rw [this]
    clear this
    go_enter Tryz.func9, Tryz.ntmps9
    go_wp2_with fail
    go_ret
    exact ⟨rfl, Below.refl _ _⟩
end Go.Proofs.YtkaoegdfgoojdaaGreatDoor
