/- Regex.Find: the walk (seat 2). -/
import Derived.Test.YtkaoegdfgoojdaaGreatDoorRun
import Derived.Test.YtkaoegdfgoojdaaGreatDoorRepeat
namespace Go.Proofs.YtkaoegdfgoojdaaGreatDoor
open Go Go.RowKit
set_option maxRecDepth 100000

/-- Regex.Find, in plain Lean (k: how many places are left). -/
def findF (p : List In) (s : List UInt8) (f n : Nat) : Nat → Nat → Option (Option (List Int))
  | 0, _ => some none
  | k + 1, at_ => (runF p s f 0 at_ (List.replicate n (-1)) ⟨[], []⟩).bind fun r => if r.best = [] then findF p s f n k (at_ + 1) else some (some r.best)

/-- A regex in memory. -/
structure Rx (w : World) (R gi icap : Nat) (p : List In) (G E : Int) : Prop where
  blk : w.heap[R]? = some (.cells #[.slice (some ⟨gi, 0, none⟩) p.length icap, .int .i64 G, .int .i64 E, .bool false] 57 (0, 0))
  lts : gi < w.heap.size
  ins : ∀ j u, (flat p)[j]? = some u → w.cell? ⟨gi, j, none⟩ = some u
theorem Rx.lt {w : World} {R g icap : Nat} {p : List In} {G E : Int} (h : Rx w R g icap p G E) : R < w.heap.size := (Array.getElem?_eq_some_iff.1 h.blk).1
theorem Rx.below {w w' : World} {R g icap : Nat} {p : List In} {G E : Int} (h : Rx w R g icap p G E) (hb : Below w.heap.size w w') : Rx w' R g icap p G E :=
  ⟨(hb.block R h.lt).trans h.blk, Nat.lt_of_lt_of_le h.lts hb.size, fun j u hu => by rw [hb.cell (p := ⟨g, j, none⟩) h.lts]; exact h.ins j u hu⟩

theorem cell_keep {w w' : World} {a : Addr} {v : Value} (hb : Below w.heap.size w w') (h : w.cell? a = some v) : w'.cell? a = some v := (hb.cell (World.block_lt_of_cell? w _ h)).trans h

theorem Bar.below {X : Nat → Prop} {N : Nat} {w0 w w' : World} (h : Bar X w w') (hX : ∀ k, X k → N ≤ k) (hb : Below N w0 w) (hN : N ≤ w0.heap.size) : Below N w0 w' :=
  ⟨h.os.trans hb.os, h.tape.trans hb.tape, h.output.trans hb.output, Nat.le_trans hb.size h.size, fun k hk => (h.block k (by have := hb.size; omega) (fun e => by have := hX k e; omega)).trans (hb.block k hk)⟩

theorem made_mc {wr w3 : World} {R gi icap : Nat} {p : List In} {G E : Int} (hR : Rx wr R gi icap p G E) (hb : Below wr.heap.size wr w3) (s : ByteArray) (N : Nat) (hN : N ≤ 1048576) (b g : Nat) (hbb : wr.heap.size ≤ b) (hm : w3.heap[b]? = some (.map #[] 0))
    (hgg : wr.heap.size ≤ g) (hrow : w3.heap[g]? = some (.cells (rowK N N).toArray 3 (0, 0))) :
    Below wr.heap.size wr (w3.alloc (.cells #[.slice (some ⟨gi, 0, none⟩) p.length icap, .int .i64 G, .int .i64 E, .bool false, .string s, .slice (some ⟨g, 0, none⟩) N N, .slice none 0 0, .map (some b), .slice none 0 0] 61)) ∧
    Mc (w3.alloc (.cells #[.slice (some ⟨gi, 0, none⟩) p.length icap, .int .i64 G, .int .i64 E, .bool false, .string s, .slice (some ⟨g, 0, none⟩) N N, .slice none 0 0, .map (some b), .slice none 0 0] 61)) w3.heap.size b gi icap p G E s (List.replicate N (-1)) (.slice (some ⟨g, 0, none⟩) N N) (.slice none 0 0) ⟨[], []⟩ := by
  have hbl : b < w3.heap.size := (Array.getElem?_eq_some_iff.1 hm).1
  have hgl : g < w3.heap.size := (Array.getElem?_eq_some_iff.1 hrow).1
  have hgi := hR.lts
  have hs := hb.size
  have hgb : g ≠ b := by rintro rfl; rw [hm] at hrow; cases hrow
  have h3 : Below w3.heap.size w3 (w3.alloc (.cells #[.slice (some ⟨gi, 0, none⟩) p.length icap, .int .i64 G, .int .i64 E, .bool false, .string s, .slice (some ⟨g, 0, none⟩) N N, .slice none 0 0, .map (some b), .slice none 0 0] 61)) := (Below.refl _ _).alloc (Nat.le_refl _) _
  have hs3 := h3.size
  have hz : (w3.alloc (.cells #[.slice (some ⟨gi, 0, none⟩) p.length icap, .int .i64 G, .int .i64 E, .bool false, .string s, .slice (some ⟨g, 0, none⟩) N N, .slice none 0 0, .map (some b), .slice none 0 0] 61)).heap.size = w3.heap.size + 1 := Array.size_push _
  refine ⟨hb.trans (h3.mono hs), heap_alloc_new w3 _, ⟨#[], 0, (h3.block b hbl).trans hm, by simp, by simp, by simp⟩, by omega, ⟨by omega, by omega, by omega⟩, fun j u hu => ?_, ⟨g, N, by simp, by omega, by omega, hgb, by simpa using hN, fun j u hu => ?_⟩, .inl ⟨rfl, rfl⟩⟩
  · rw [h3.cell (p := ⟨gi, j, none⟩) (show gi < _ by omega), hb.cell (p := ⟨gi, j, none⟩) hgi]
    exact hR.ins j u hu
  · rw [h3.cell (p := ⟨g, j, none⟩) hgl, cell_of_row _ _ _ _ _ _ hrow]
    obtain ⟨h1, h2⟩ := List.getElem?_eq_some_iff.1 hu
    simp only [List.length_map, List.length_replicate] at h1
    simp only [List.getElem_map, List.getElem_replicate] at h2
    subst h2
    simpa using rowK_at N N j h1

def FindPost (w : World) (o : Option (List Int)) (e : Ending) (w' : World) : Prop :=
  Below w.heap.size w w' ∧ match o with
    | none => e = .returned (.tuple #[.slice none 0 0, .bool false])
    | some l => ∃ g c, e = .returned (.tuple #[.slice (some ⟨g, 0, none⟩) l.length c, .bool true]) ∧ g < w'.heap.size ∧ 1 < l.length ∧ l.length ≤ 1048576 ∧ ∀ j u, (l.map (Value.int .i64))[j]? = some u → w'.cell? ⟨g, j, none⟩ = some u

def FindRel (w : World) (p : List In) (s : ByteArray) (f n : Nat) (o : Option (List Int)) (v8 : Value) (wr : World) : Prop :=
  ∃ at_ : Nat, v8 = .int .i64 at_ ∧ at_ ≤ 1048577 ∧ findF p s.data.toList f n (s.size + 1 - at_) at_ = some o ∧ Below w.heap.size w wr

set_option maxHeartbeats 8000000 in
theorem find_any (w : World) (R gi icap : Nat) (p : List In) (G : Nat) (E : Int) (s : ByteArray) (f from_ : Nat) (o : Option (List Int)) (hp : p.length ≤ 3000) (hss : s.size ≤ 1048576) (hop : ∀ i ∈ p, ∀ c, 0 ≤ wordOf i c ∧ wordOf i c ≤ 18446744073709551615)
    (hG : G = 0 ∨ G = 2) (hfr : from_ ≤ 1048576) (hR : Rx w R gi icap p G E) (ho : findF p s.data.toList f (2 * G + 2) (s.size + 1 - from_) from_ = some o) :
    Calls Tryz.prog 8 #[.pointer (some ⟨R, 0, none⟩), .string s, .int .i64 from_] w (FindPost w o) := by
  have HR := Lib.hid hR
  have HO := Lib.hid ho
  have HOP := Lib.hid hop
  have hn : 2 * G + 2 = 2 ∨ 2 * G + 2 = 6 := by omega
  have HN := Lib.hid hn
  have HG := Lib.hid hG
  have hf0 : (0 : Int) ≤ (from_ : Int) := by omega
  clear hR ho hop hn hG
  go_enter Tryz.func8, Tryz.ntmps8
  go_wp2_with fail
  go_loopw [8] (fun v wr => FindRel w p s f (2 * G + 2) o v wr) (fun v _ => s.size + 1 - (intOf v).toNat)
  case atStart => exact ⟨from_, by simp, by omega, HO.out, Below.refl _ _⟩
  case round =>
    obtain ⟨at1, rfl, hat, hfnd, hb⟩ := hrel
    have HF := Lib.hid hfnd
    have HB := Lib.hid hb
    have hrx := HR.out.below hb
    have HRX := Lib.hid hrx
    clear hfnd hb
    by_cases hle : at1 ≤ s.size
    · have r0 : wr.cell? ⟨R, 0, none⟩ = some (.slice (some ⟨gi, 0, none⟩) p.length icap) := cell_of hrx.blk (j := 0) rfl
      have r1 : wr.cell? ⟨R, 1, none⟩ = some (.int .i64 G) := cell_of hrx.blk (j := 1) rfl
      have r2 : wr.cell? ⟨R, 2, none⟩ = some (.int .i64 E) := cell_of hrx.blk (j := 2) rfl
      have r3 : wr.cell? ⟨R, 3, none⟩ = some (.bool false) := cell_of hrx.blk (j := 3) rfl
      have hRl := hrx.lt
      have hle2 : (at1 : Int) ≤ (s.size : Int) := by omega
      obtain ⟨N, hN⟩ : ∃ N, N = 2 * G + 2 := ⟨_, rfl⟩
      have HNN := Lib.hid hN
      rw [← hN] at HN HF
      have e1 : IntKind.i64.wrap (2 * (G : Int)) = 2 * (G : Int) := IntWalk.i64_in _ (by have := HG.out; omega)
      have e2 : IntKind.i64.wrap (2 * (G : Int) + 2) = (N : Int) := by rw [IntWalk.i64_in _ (by have := HG.out; omega)]; omega
      have hmm : ∀ w : World, (Instr.makeMap 59 none).run Tryz.prog w = .ok (.map (some w.heap.size)) (w.alloc (.map #[] 0)) := fun w => by rfl
      have HRP := Lib.hid (fun (w' : World) (b : Nat) hb hc => repeat_small w' b N HN.out hb hc)
      clear hrx hN
      go_upto_region 4 with (fail)
      go_cut [9] from 12 to 51 (fun v9 wx => ∃ (M b : Nat) (slv : Value), v9 = .pointer (some ⟨M, 0, none⟩) ∧ wr.heap.size ≤ M ∧ wr.heap.size ≤ b ∧ Below wr.heap.size wr wx ∧ Mc wx M b gi icap p G E s (List.replicate N (-1)) slv (.slice none 0 0) ⟨[], []⟩)
      case first =>
        go_region_held3 (fun w' => w'.cell? ⟨R, 0, none⟩ = some (.slice (some ⟨gi, 0, none⟩) p.length icap) ∧ w'.cell? ⟨R, 1, none⟩ = some (.int .i64 G) ∧ w'.cell? ⟨R, 2, none⟩ = some (.int .i64 E) ∧ w'.cell? ⟨R, 3, none⟩ = some (.bool false))
          (first | go_keep | exact ⟨k0, k1, k2, k3⟩)
          (first | (go_at_call 17; refine (HRP.out _ _ (by first | (simp; done) | (simp; omega)) (by simp [World.cell?_alloc_some])).mono ?_; rintro e w2 ⟨g, rfl, hg, hrow, hb2⟩; have HROW := Lib.hid hrow; have HBE := Lib.hid hb2; have HG1 := Lib.hid hg; have k0 := cell_keep (a := ⟨R, 0, none⟩) (v := .slice (some ⟨gi, 0, none⟩) p.length icap) hb2 (by simp [*, World.cell?_alloc_some]); have k1 := cell_keep (a := ⟨R, 1, none⟩) (v := .int .i64 G) hb2 (by simp [*, World.cell?_alloc_some]); have k2 := cell_keep (a := ⟨R, 2, none⟩) (v := .int .i64 E) hb2 (by simp [*, World.cell?_alloc_some]); have k3 := cell_keep (a := ⟨R, 3, none⟩) (v := .bool false) hb2 (by simp [*, World.cell?_alloc_some]); clear hg hrow hb2))
        · go_wp2_with fail
          go_meet
          have hb1 : Below wr.heap.size wr (wr.alloc (.cells #[.int .i64 (-1)] 3)).drew := ((Below.refl _ _).alloc (Nat.le_refl _) _).drew
          have hb2 := hb1.trans (HBE.out.mono hb1.size)
          have hb3 : Below w2.heap.size w2 (w2.alloc (.map #[] 0)) := (Below.refl _ _).alloc (Nat.le_refl _) _
          have hz : (w2.alloc (.map #[] 0)).heap.size = w2.heap.size + 1 := Array.size_push _
          obtain ⟨h1, h2⟩ := made_mc HRX.out (hb2.trans (hb3.mono hb2.size)) s N (by have := HNN.out; have := HG.out; omega) w2.heap.size g hb2.size (heap_alloc_new w2 _) (Nat.le_trans hb1.size HG1.out) ((hb3.block g (Array.getElem?_eq_some_iff.1 HROW.out).1).trans HROW.out)
          rw [hz] at h2
          exact ⟨_, _, _, rfl, Nat.le_succ_of_le hb2.size, hb2.size, h1, h2⟩
        · go_wp2_with fail
          go_meet
          have hb0 : Below wr.heap.size wr (wr.alloc (.cells #[.int .i64 (-1)] 3)) := (Below.refl _ _).alloc (Nat.le_refl _) _
          have hz : (wr.alloc (.cells #[.int .i64 (-1)] 3)).heap.size = wr.heap.size + 1 := Array.size_push _
          have hb1 : Below wr.heap.size wr ((wr.alloc (.cells #[.int .i64 (-1)] 3)).alloc (.map #[] 0)).drew := (hb0.alloc hb0.size _).drew
          have hb2 := hb1.trans (HBE.out.mono hb1.size)
          have hz2 : ((wr.alloc (.cells #[.int .i64 (-1)] 3)).alloc (.map #[] 0)).drew.heap.size = (wr.alloc (.cells #[.int .i64 (-1)] 3)).heap.size + 1 := Array.size_push _
          have hm := heap_alloc_new (wr.alloc (.cells #[.int .i64 (-1)] 3)) (.map #[] 0)
          rw [hz] at hm
          obtain ⟨h1, h2⟩ := made_mc HRX.out hb2 s N (by have := HNN.out; have := HG.out; omega) (wr.heap.size + 1) g (Nat.le_succ _) ((HBE.out.block (wr.heap.size + 1) (by rw [hz2, hz]; omega)).trans hm) (Nat.le_trans hb1.size HG1.out) HROW.out
          exact ⟨_, _, _, rfl, hb2.size, Nat.le_succ _, h1, h2⟩
        · go_wp2_with fail
          go_meet
          have hb0 : Below wr.heap.size wr (wr.alloc (.map #[] 0)) := (Below.refl _ _).alloc (Nat.le_refl _) _
          have hz : (wr.alloc (.map #[] 0)).heap.size = wr.heap.size + 1 := Array.size_push _
          have hb1 : Below wr.heap.size wr ((wr.alloc (.map #[] 0)).alloc (.cells #[.int .i64 (-1)] 3)).drew := (hb0.alloc hb0.size _).drew
          have hb2 := hb1.trans (HBE.out.mono hb1.size)
          have hz2 : ((wr.alloc (.map #[] 0)).alloc (.cells #[.int .i64 (-1)] 3)).drew.heap.size = (wr.alloc (.map #[] 0)).heap.size + 1 := Array.size_push _
          have hb3 : Below (wr.alloc (.map #[] 0)).heap.size (wr.alloc (.map #[] 0)) ((wr.alloc (.map #[] 0)).alloc (.cells #[.int .i64 (-1)] 3)).drew := ((Below.refl _ _).alloc (Nat.le_refl _) _).drew
          have hm := (hb3.block wr.heap.size (by rw [hz]; omega)).trans (heap_alloc_new wr (.map #[] 0))
          obtain ⟨h1, h2⟩ := made_mc HRX.out hb2 s N (by have := HNN.out; have := HG.out; omega) wr.heap.size g (Nat.le_refl _) ((HBE.out.block wr.heap.size (by rw [hz2, hz]; omega)).trans hm) (Nat.le_trans hb1.size HG1.out) HROW.out
          exact ⟨_, _, _, rfl, hb2.size, Nat.le_refl _, h1, h2⟩
      case rest =>
        obtain ⟨M, b, slv, rfl, hM, hbN, hbw, hmc⟩ := hcut
        have hF := HF.out
        rw [show s.size + 1 - at1 = (s.size - at1) + 1 by omega, findF] at hF
        obtain ⟨r, hr, hF2⟩ := Option.bind_eq_some_iff.1 hF
        have HF2 := Lib.hid hF2
        have hrun : Calls Tryz.prog 18 #[.pointer (some ⟨M, 0, none⟩), .int .i64 0, .int .i64 at1] wc _ := run_any M b gi icap p G E s hp hss HOP.out f 0 at1 (List.replicate N (-1)) ⟨[], []⟩ r hr hle (by rw [List.length_replicate]; have := HNN.out; omega) wc slv _ hmc
        have HRUN := Lib.hid hrun
        have HM := Lib.hid hM
        have HBN := Lib.hid hbN
        have HBW := Lib.hid hbw
        clear hF hr hF2 hrun hM hbN hbw hmc r0 r1 r2 r3 e1 e2
        go_wp2_with fail
        refine HRUN.out.mono ?_
        rintro e w3 ⟨rfl, hb3, bestv, hmc3⟩
        have hbl := hb3.below (N := wr.heap.size) (fun k e => by have := HM.out; have := HBN.out; rcases e with e | e <;> omega) HBW.out (Nat.le_refl _)
        have HBL := Lib.hid (HB.out.trans (hbl.mono HB.out.size))
        rcases hmc3.best with ⟨h1, rfl⟩ | ⟨h1, g, c, rfl, h2, h3, h4, h5, h6⟩
        · have k8 := hmc3.c8
          have hF3 := HF2.out
          rw [if_pos h1] at hF3
          have HF3 := Lib.hid hF3
          have e1 : IntKind.i64.wrap ((at1 : Int) + 1) = (at1 : Int) + 1 := IntWalk.i64_in _ (by omega)
          clear hb3 hmc3 hbl h1 hF3
          go_wp2_with fail
          go_roundw
          case rel => exact ⟨at1 + 1, by go_num, by omega, by rw [show s.size + 1 - (at1 + 1) = s.size - at1 by omega, ← HNN.out]; exact HF3.out, HBL.out⟩
          case measure => simp [intOf]; omega
        · have k8 := hmc3.c8
          have hF3 := HF2.out
          have hne : r.best ≠ [] := by intro e; rw [e] at h1; simp at h1
          rw [if_neg hne, Option.some.injEq] at hF3
          subst hF3
          have H6 := Lib.hid h6
          have hlt : (0 : Int) < (r.best.length : Int) := by omega
          clear hb3 hmc3 hbl h6 hne h3 h4
          go_wp2_with fail
          go_ret2
          exact ⟨HBL.out, g, c, rfl, h2, h1, h5, H6.out⟩
    · have hF := HF.out
      rw [show s.size + 1 - at1 = 0 by omega, findF, Option.some.injEq] at hF
      subst hF
      have hle2 : ¬ ((at1 : Int) ≤ (s.size : Int)) := by omega
      go_wp2_with fail
      go_ret2
      exact ⟨HB.out, rfl⟩
end Go.Proofs.YtkaoegdfgoojdaaGreatDoor
