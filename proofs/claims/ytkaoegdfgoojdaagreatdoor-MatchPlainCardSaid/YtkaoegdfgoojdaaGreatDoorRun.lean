/- machine.run: the walk (seat 2). -/
import Derived.Test.YtkaoegdfgoojdaaGreatDoorMc
import Derived.Deep.DeepCutAuto
import Derived.Deep.CutBlock
import Derived.Deep.LoopGhost
import Derived.Deep.AppendLies
import Derived.Deep.RegionHeld3
namespace Go.Proofs.YtkaoegdfgoojdaaGreatDoor
open Go Go.RowKit
set_option maxRecDepth 100000

/-- What run leaves. -/
def RunPost (w : World) (M b gi icap : Nat) (p : List In) (G E : Int) (s : ByteArray) (sl : List Int) (slv : Value) (r : MB) (e : Ending) (w' : World) : Prop :=
  e = .returned (.tuple #[]) ∧ Bar (MbX M b) w w' ∧ ∃ bestv, Mc w' M b gi icap p G E s sl slv bestv r

/-- The loop's relation. -/
def RunRel (wc : World) (M b gi icap : Nat) (p : List In) (G E : Int) (s : ByteArray) (f n : Nat) (r : MB) (g : Nat) (v1 v2 : Value) (wr : World) : Prop :=
  ∃ (pc at_ : Nat) (sl : List Int) (slv bestv : Value) (m : MB), v1 = .int .i64 pc ∧ v2 = .int .i64 at_ ∧ g ≤ f ∧ runF p s.data.toList g pc at_ sl m = some r ∧ at_ ≤ s.size ∧ sl.length = n ∧ Mc wr M b gi icap p G E s sl slv bestv m ∧ Bar (MbX M b) wc wr

set_option maxHeartbeats 8000000 in
theorem run_any (M b gi icap : Nat) (p : List In) (G E : Int) (s : ByteArray) (hp : p.length ≤ 3000) (hss : s.size ≤ 1048576) (hop : ∀ i ∈ p, ∀ c, 0 ≤ wordOf i c ∧ wordOf i c ≤ 18446744073709551615) :
    ∀ (f pc at_ : Nat) (sl : List Int) (m r : MB), runF p s.data.toList f pc at_ sl m = some r → at_ ≤ s.size → 1 < sl.length → ∀ (w : World) (slv bestv : Value), Mc w M b gi icap p G E s sl slv bestv m →
    Calls Tryz.prog 18 #[.pointer (some ⟨M, 0, none⟩), .int .i64 pc, .int .i64 at_] w (RunPost w M b gi icap p G E s sl slv r) := by
  intro f
  induction f using Nat.strongRecOn with
  | _ f ih =>
    intro pc at_ sl m r hr hat hsl w slv bestv hm
    have IH := Lib.hid ih
    have HR := Lib.hid hr
    have HM := Lib.hid hm
    have HOP := Lib.hid hop
    have HAT := Lib.hid hat
    have HSL := Lib.hid hsl
    obtain ⟨gs, cs, rfl, _⟩ := hm.sl
    have hlt := hm.lt
    have m5 := hm.c5
    have m6 := hm.c6
    clear ih hr hm hop hat hsl
    have hmf : ∀ (fn : Fn) (first cap : Array Value) (w : World), (Instr.makeFunc fn first cap).run Tryz.prog w = .ok (.func fn first cap) w := fun _ _ _ _ => rfl
    go_enter_defers Tryz.func18, Tryz.ntmps18
    go_upto_region 1 with (fail)
    have hb1 : Below w.heap.size w (w.alloc (.cells #[.pointer (some ⟨M, 0, none⟩)] 55)) := (Below.refl _ _).alloc (Nat.le_refl _) _
    have k5 := (hb1.cell (p := ⟨M, 5, none⟩) hlt).trans m5
    have k6 := (hb1.cell (p := ⟨M, 6, none⟩) hlt).trans m6
    have kA : (w.alloc (.cells #[.pointer (some ⟨M, 0, none⟩)] 55)).cell? ⟨w.heap.size, 0, none⟩ = some (.pointer (some ⟨M, 0, none⟩)) := cell_of (heap_alloc_new w _) (j := 0) rfl
    have hs1 : (w.alloc (.cells #[.pointer (some ⟨M, 0, none⟩)] 55)).heap.size = w.heap.size + 1 := Array.size_push _
    have hz0 : M < (w.alloc (.cells #[.pointer (some ⟨M, 0, none⟩)] 55)).heap.size := by omega
    have hy0 : w.heap.size < (w.alloc (.cells #[.pointer (some ⟨M, 0, none⟩)] 55)).heap.size := by omega
    have HM1 := Lib.hid (HM.out.below hb1)
    have HB1 := Lib.hid hb1
    have HS1 := Lib.hid hs1
    clear m5 m6 hb1 hs1
    generalize w.alloc (.cells #[.pointer (some ⟨M, 0, none⟩)] 55) = W1 at *
    have hn1 : ∀ o : Obj, (W1.alloc o).heap.size = W1.heap.size + 1 := fun o => Array.size_push _
    have hz1 : M < (W1.alloc (.cells #[.slice none 0 0] 34)).heap.size := by rw [hn1]; omega
    have hy1 : w.heap.size < (W1.alloc (.cells #[.slice none 0 0] 34)).heap.size := by rw [hn1]; omega
    have HN1 := Lib.hid hn1
    clear hn1
    go_cut [6, 7] from 8 to 114 (fun v6 v7 wx => ∃ A B, v6 = .pointer (some ⟨A, 0, none⟩) ∧ v7 = .pointer (some ⟨B, 0, none⟩) ∧ w.heap.size ≤ A ∧ w.heap.size ≤ B ∧ A < wx.heap.size ∧ B < wx.heap.size ∧ w.heap.size < wx.heap.size ∧ Below w.heap.size w wx ∧
      wx.cell? ⟨A, 0, none⟩ = some (.slice (some ⟨gs, 0, none⟩) sl.length cs) ∧ wx.cell? ⟨B, 0, none⟩ = some (.slice none 0 0) ∧ wx.cell? ⟨w.heap.size, 0, none⟩ = some (.pointer (some ⟨M, 0, none⟩)))
    case first =>
      have key : ∀ (o1 o2 : Obj), Below w.heap.size w ((W1.alloc o1).alloc o2).drew ∧ ((W1.alloc o1).alloc o2).drew.heap.size = W1.heap.size + 2 ∧ ((W1.alloc o1).alloc o2).drew.heap[W1.heap.size]? = some o1 ∧ ((W1.alloc o1).alloc o2).drew.heap[W1.heap.size + 1]? = some o2 ∧ ((W1.alloc o1).alloc o2).drew.cell? ⟨w.heap.size, 0, none⟩ = some (.pointer (some ⟨M, 0, none⟩)) := by
        intro o1 o2
        have s1 := HN1.out o1
        have s2 : ((W1.alloc o1).alloc o2).heap.size = (W1.alloc o1).heap.size + 1 := Array.size_push _
        have b1 : Below W1.heap.size W1 (W1.alloc o1) := (Below.refl _ _).alloc (Nat.le_refl _) _
        have b2 : Below (W1.alloc o1).heap.size (W1.alloc o1) ((W1.alloc o1).alloc o2) := (Below.refl _ _).alloc (Nat.le_refl _) _
        have bb : Below W1.heap.size W1 ((W1.alloc o1).alloc o2) := b1.trans (b2.mono (by omega))
        refine ⟨(HB1.out.trans (bb.mono HB1.out.size)).drew, by show ((W1.alloc o1).alloc o2).heap.size = _; omega, ?_, ?_, ?_⟩
        · exact (b2.block W1.heap.size (by omega)).trans (heap_alloc_new W1 o1)
        · have := heap_alloc_new (W1.alloc o1) o2
          rw [s1] at this
          exact this
        · exact (bb.cell (p := ⟨w.heap.size, 0, none⟩) hy0).trans kA
      have KEY := Lib.hid key
      clear key
      go_region
      · go_wp2_with fail
        go_meet
        obtain ⟨c1, c2, c3, c4, c5⟩ := KEY.out (.cells #[.slice (some ⟨gs, 0, none⟩) sl.length cs] 34) (.cells #[.slice none 0 0] 34)
        exact ⟨W1.heap.size, W1.heap.size + 1, rfl, rfl, HB1.out.size, Nat.le_succ_of_le HB1.out.size, by rw [c2]; omega, by rw [c2]; omega, by rw [c2]; omega, c1, cell_of c3 (j := 0) rfl, cell_of c4 (j := 0) rfl, c5⟩
      · go_wp2_with fail
        go_meet
        obtain ⟨c1, c2, c3, c4, c5⟩ := KEY.out (.cells #[.slice none 0 0] 34) (.cells #[.slice (some ⟨gs, 0, none⟩) sl.length cs] 34)
        exact ⟨W1.heap.size + 1, W1.heap.size, rfl, rfl, Nat.le_succ_of_le HB1.out.size, HB1.out.size, by rw [c2]; omega, by rw [c2]; omega, by rw [c2]; omega, c1, cell_of c4 (j := 0) rfl, cell_of c3 (j := 0) rfl, c5⟩
    case rest =>
      obtain ⟨A, B, rfl, rfl, hA1, hB1, hA2, hB2, hw2, hbw, kcA, kcB, kcX⟩ := hcut
      have HBW := Lib.hid hbw
      have HMC := Lib.hid (HM.out.below hbw)
      have HB0 := Lib.hid (Bar.of_below (X := MbX M b) hbw)
      have HbB := Lib.hid (HM.out.been.lt)
      have HA1 := Lib.hid hA1
      have HB1' := Lib.hid hB1
      have HA2 := Lib.hid hA2
      have HB2 := Lib.hid hB2
      have HW2 := Lib.hid hw2
      have KCA := Lib.hid kcA
      have KCB := Lib.hid kcB
      have KCX := Lib.hid kcX
      have HLT := Lib.hid hlt
      clear hA1 hB1 hA2 hB2 hw2 hbw kcA kcB kcX k5 k6 kA hz0 hy0 hz1 hy1 hlt
      have door : ∀ (w9 : World) (sl9 : List Int) (slv9 best9 : Value), Mc w9 M b gi icap p G E s sl9 slv9 best9 r → Bar (MbX M b) wc w9 →
          CallsD Tryz.prog 29 #[.pointer (some ⟨A, 0, none⟩), .pointer (some ⟨B, 0, none⟩), .pointer (some ⟨w.heap.size, 0, none⟩)] .returning w9
            (fun e u' w' => u' = .returning ∧ e = .returned (.tuple #[]) ∧ RunPost w M b gi icap p G E s sl (.slice (some ⟨gs, 0, none⟩) sl.length cs) r (.returned (.tuple #[])) w') := by
        intro w9 sl9 slv9 best9 h9 hb9
        have hM := HLT.out
        have hbb := HbB.out
        have nA : ¬ MbX M b A := fun e => by have := HA1.out; rcases e with e | e <;> omega
        have nB : ¬ MbX M b B := fun e => by have := HB1'.out; rcases e with e | e <;> omega
        have nX : ¬ MbX M b w.heap.size := fun e => by rcases e with e | e <;> omega
        refine (restore_any .returning w9 M A B w.heap.size (some ⟨gs, 0, none⟩) sl.length cs _ _ h9.lt ((hb9.cell (p := ⟨w.heap.size, 0, none⟩) HW2.out nX).trans KCX.out) ((hb9.cell (p := ⟨A, 0, none⟩) HA2.out nA).trans KCA.out)
          ((hb9.cell (p := ⟨B, 0, none⟩) HB2.out nB).trans KCB.out) h9.c5 (h9.fz 5) h9.c6 (h9.fz 6)).mono ?_
        rintro e u' w' ⟨rfl, rfl, rfl⟩
        have hsl9 := (HMC.out.sl).bar hb9
        exact ⟨rfl, rfl, rfl, (HB0.out.trans ((hb9.set ⟨M, 5, none⟩ _ (.inl (.inl rfl))).set ⟨M, 6, none⟩ _ (.inl (.inl rfl)))), best9, h9.restored hsl9⟩
      have DOOR := Lib.hid door
      clear door
      go_wp2_with fail
      go_loopg [1, 2] f (fun g v1 v2 wr => RunRel wc M b gi icap p G E s f sl.length r g v1 v2 wr)
      case atStart => exact ⟨pc, at_, sl, _, bestv, m, rfl, rfl, Nat.le_refl _, HR.out, HAT.out, rfl, HMC.out, Bar.refl _ _⟩
      case round =>
        obtain ⟨pc1, at1, sl1, slv1, best1, m1, rfl, rfl, hgf, hrun, hat1, hsl1, hmc1, hbar1⟩ := hrel
        obtain ⟨g', i, rfl, hpi, hway⟩ := runF_inv hrun
        have hpl : pc1 < p.length := (List.getElem?_eq_some_iff.1 hpi).1
        have HPI := Lib.hid hpi
        obtain ⟨op, s0, s1, s2, s3, x, y⟩ := i
        have HWAY := Lib.hid hway
        have HBAR1 := Lib.hid hbar1
        have HMC1 := Lib.hid hmc1
        have HAT1 := Lib.hid hat1
        have HSL1 := Lib.hid hsl1
        have HGF := Lib.hid hgf
        have nX : ¬ MbX M b w.heap.size := fun e => by have := HLT.out; have := HbB.out; rcases e with e | e <;> omega
        have kX := (hbar1.cell (p := ⟨w.heap.size, 0, none⟩) HW2.out nX).trans KCX.out
        have m0 := hmc1.c0
        have q0 : wr.cell? ⟨gi, pc1 * 7, none⟩ = some (.int .i64 op) := hmc1.ins _ _ (flat_get p pc1 _ hpi 0 (by omega))
        have q1 : wr.cell? ⟨gi, pc1 * 7 + 1, none⟩ = some (.int .u64 s0) := hmc1.ins _ _ (flat_get p pc1 _ hpi 1 (by omega))
        have q2 : wr.cell? ⟨gi, pc1 * 7 + 2, none⟩ = some (.int .u64 s1) := hmc1.ins _ _ (flat_get p pc1 _ hpi 2 (by omega))
        have q3 : wr.cell? ⟨gi, pc1 * 7 + 3, none⟩ = some (.int .u64 s2) := hmc1.ins _ _ (flat_get p pc1 _ hpi 3 (by omega))
        have q4 : wr.cell? ⟨gi, pc1 * 7 + 4, none⟩ = some (.int .u64 s3) := hmc1.ins _ _ (flat_get p pc1 _ hpi 4 (by omega))
        have q5 : wr.cell? ⟨gi, pc1 * 7 + 5, none⟩ = some (.int .i64 x) := hmc1.ins _ _ (flat_get p pc1 _ hpi 5 (by omega))
        have q6 : wr.cell? ⟨gi, pc1 * 7 + 6, none⟩ = some (.int .i64 y) := hmc1.ins _ _ (flat_get p pc1 _ hpi 6 (by omega))
        have e1 : IntKind.i64.wrap ((pc1 : Int) + 1) = (pc1 : Int) + 1 := IntWalk.i64_in _ (by omega)
        have hzX : w.heap.size < wr.heap.size := Nat.lt_of_lt_of_le HW2.out hbar1.size
        have hzM := hmc1.lt
        have hbA : Below wr.heap.size wr (wr.alloc (.cells #[.int .i64 op, .int .u64 s0, .int .u64 s1, .int .u64 s2, .int .u64 s3, .int .i64 x, .int .i64 y] 74)) := (Below.refl _ _).alloc (Nat.le_refl _) _
        have HMC2 := Lib.hid (hmc1.below hbA)
        have HBAR2 := Lib.hid (hbar1.trans (Bar.of_below hbA))
        have HR2 := Lib.hid (heap_alloc_new wr (.cells #[.int .i64 op, .int .u64 s0, .int .u64 s1, .int .u64 s2, .int .u64 s3, .int .i64 x, .int .i64 y] 74))
        have HZ2 := Lib.hid (show (wr.alloc (.cells #[.int .i64 op, .int .u64 s0, .int .u64 s1, .int .u64 s2, .int .u64 s3, .int .i64 x, .int .i64 y] 74)).heap.size = wr.heap.size + 1 from Array.size_push _)
        have HNX := Lib.hid nX
        have HKX2 := Lib.hid ((hbA.cell (p := ⟨w.heap.size, 0, none⟩) hzX).trans kX)
        clear hpi hrun hway hbar1 hmc1 hat1 hsl1 hgf nX hbA
        rcases HWAY.out with ⟨h9, hr9⟩ | ⟨h9, hx, hy, hn, m2, hr1, hr2⟩ | ⟨h9, hx, hr1⟩ | ⟨h9, hx, hxl, hr1⟩ | ⟨h9, hs1, hr1⟩ | ⟨h9, c, hs1, hhb, hr1⟩ | ⟨h9, c, hs1, hhb, hr1⟩
        · -- Match
          simp only at h9 hr9
          subst h9 hr9
          have HFD := Lib.hid (found_any HMC2.out (by have := HSL.out; have := HSL1.out; omega) at1)
          go_wp2_with fail
          refine HFD.out.mono ?_
          rintro e w3 ⟨rfl, hb3, best3, hmc3⟩
          have HMC3 := Lib.hid hmc3
          have HBAR3 := Lib.hid (HBAR2.out.trans hb3)
          clear hb3 hmc3
          go_wp2_with fail
          refine leaves_cons (f := 29) (args := #[.pointer (some ⟨A, 0, none⟩), .pointer (some ⟨B, 0, none⟩), .pointer (some ⟨w.heap.size, 0, none⟩)]) (by simp) (by simp [go_sem]) ?_
          refine (DOOR.out _ sl1 slv1 best3 HMC3.out HBAR3.out).mono ?_
          rintro e u' w' ⟨rfl, rfl, hpost⟩
          exact ⟨_, results_none rfl _ _ _, hpost⟩
        · -- Split
          simp only at h9 hx hy hn hr1 hr2
          subst h9
          obtain ⟨xn, rfl⟩ := Int.eq_ofNat_of_zero_le hx
          obtain ⟨yn, rfl⟩ := Int.eq_ofNat_of_zero_le hy
          simp only [Int.toNat_natCast] at hr1 hr2
          have HVI := Lib.hid (visited_new _ M b m1.log (pc1 + 1) at1 (by omega) (by have := HAT1.out; omega) HMC2.out.lt HMC2.out.ne HMC2.out.c3 HMC2.out.c6 HMC2.out.c7 HMC2.out.been hn)
          have HR1 := Lib.hid hr1
          have HRB := Lib.hid hr2
          have e2 : ((pc1 + 1 : Nat) : Int) = (pc1 : Int) + 1 := by omega
          rw [e2] at HVI
          clear hx hy hn hr1 hr2 e2
          go_wp2_with fail
          refine HVI.out.mono ?_
          rintro e w3 ⟨rfl, hbn, hb3⟩
          have hzb : wr.heap.size ≠ b := by have := HbB.out; omega
          have hX2 : w.heap.size < (wr.alloc (.cells #[.int .i64 1, .int .u64 s0, .int .u64 s1, .int .u64 s2, .int .u64 s3, .int .i64 xn, .int .i64 yn] 74)).heap.size := by have := HZ2.out; omega
          have hR3 := (hb3.block wr.heap.size (by have := HZ2.out; omega) hzb).trans HR2.out
          have kx3 := (hb3.cell (p := ⟨w.heap.size, 0, none⟩) hX2 (fun e => HNX.out (.inr e))).trans HKX2.out
          have r5 : w3.cell? ⟨wr.heap.size, 5, none⟩ = some (.int .i64 xn) := cell_of hR3 (j := 5) rfl
          have hlt3 := Lib.hid (Nat.lt_of_lt_of_le hX2 hb3.size)
          have hlr3 := Lib.hid (show wr.heap.size < w3.heap.size by have := HZ2.out; have := hb3.size; omega)
          have HRUN := Lib.hid (IH.out g' (by have := HGF.out; omega) xn at1 sl1 _ m2 HR1.out HAT1.out (by have := HSL.out; have := HSL1.out; omega) w3 slv1 best1 (HMC2.out.seen hb3 hbn))
          have HBAR3 := Lib.hid (HBAR2.out.trans (hb3.mono fun k _ e => .inr e))
          have HR3 := Lib.hid hR3
          have HKX3 := Lib.hid kx3
          clear hb3 hbn hR3 hX2 hzb kX m0 q0 q1 q2 q3 q4 q5 q6
          go_wp2_with fail
          refine HRUN.out.mono ?_
          rintro e w4 ⟨rfl, hb4, best4, hmc4⟩
          have nR : ¬ MbX M b wr.heap.size := fun e => by have := HLT.out; have := HbB.out; rcases e with e | e <;> omega
          have hR4 := (hb4.block wr.heap.size hlr3.out nR).trans HR3.out
          have r6 : w4.cell? ⟨wr.heap.size, 6, none⟩ = some (.int .i64 yn) := cell_of hR4 (j := 6) rfl
          have HMC4 := Lib.hid hmc4
          have HBAR4 := Lib.hid (HBAR3.out.trans hb4)
          clear hb4 hmc4 nR hR4 r5 kx3
          go_wp2_with fail
          go_roundg g'
          case measure => omega
          case rel => exact ⟨yn, at1, sl1, slv1, best4, m2, rfl, rfl, by have := HGF.out; omega, HRB.out, HAT1.out, HSL1.out, HMC4.out, HBAR4.out⟩
        · -- Jump
          simp only at h9 hx hr1
          subst h9
          have HX := Lib.hid hx
          have HR1 := Lib.hid hr1
          clear hx hr1
          go_wp2_with fail
          go_roundg g'
          case measure => omega
          case rel => exact ⟨x.toNat, at1, sl1, slv1, best1, m1, by rw [Int.toNat_of_nonneg HX.out], rfl, by have := HGF.out; omega, HR1.out, HAT1.out, HSL1.out, HMC2.out, HBAR2.out⟩
        · -- Save
          simp only at h9 hx hxl hr1
          subst h9
          obtain ⟨xn, rfl⟩ := Int.eq_ofNat_of_zero_le hx
          simp only [Int.toNat_natCast] at hr1 hxl
          obtain ⟨gs1, cs1, hsv, b1, b2, b3, b4, b5⟩ := HMC2.out.sl
          have HR1 := Lib.hid hr1
          have HXL := Lib.hid hxl
          have HSV := Lib.hid hsv
          have HS0 := Lib.hid (show 1 < sl1.length by have := HSL.out; have := HSL1.out; omega)
          have HBEST := Lib.hid (show ∀ gb c n, best1 = .slice (some ⟨gb, 0, none⟩) n c → gb < wr.heap.size + 1 by
            rintro gb c n rfl
            rcases HMC2.out.best with ⟨_, e⟩ | ⟨_, g9, c9, e, h9, _⟩
            · cases e
            · injection e with e _ _; injection e with e; injection e with e _ _; rw [e, ← HZ2.out]; exact h9)
          clear hx hr1 hxl hsv
          go_wp2_with fail
          clear kX m0 q0 q1 q2 q3 q4 q5 q6
          generalize wr.alloc (.cells #[.int .i64 3, .int .u64 s0, .int .u64 s1, .int .u64 s2, .int .u64 s3, .int .i64 xn, .int .i64 y] 74) = W2 at *
          have kx2 := HKX2.out
          have m5 := HMC2.out.c5
          rw [HSV.out] at m5
          have f52 := HMC2.out.fz 5
          have HCL := Lib.hid (clone_ints W2.drew gs1 0 sl1.length cs1 (sl1.map (Value.int .i64)) (by have := HS0.out; omega) b4 (by simp) (by intro u hu; obtain ⟨m, _, rfl⟩ := List.mem_map.1 hu; rfl) b1 (fun j u hu => by rw [Nat.zero_add]; exact b5 j u hu))
          have hzX2 : w.heap.size < W2.heap.size := by have := HZ2.out; omega
          have hzM2 := HMC2.out.lt
          have hzr2 : wr.heap.size < W2.heap.size := by have := HZ2.out; omega
          have HZX2 := Lib.hid hzX2
          have HZM2 := Lib.hid hzM2
          have HZR2 := Lib.hid hzr2
          clear b1 b2 b3 b4 b5 hzX2 hzM2 hzr2
          refine wp_region_noPanic ?_
          go_region_law (first | (go_simp; go_at_call 32; refine (HCL.out).mono ?_; rintro e w3 ⟨g, cap, rfl, ho, hb4, hg⟩; have hb3 := (Below.drew (Below.refl W2.heap.size W2)).trans hb4; have HO3 := Lib.hid (show w3.ownsRow W2.heap.size 3 1 (.slice (some ⟨g, 0, none⟩) sl1.length cap) sl1.length (sl1.map (Value.int .i64)) from ho); have HB3 := Lib.hid hb3; have kx3 := (hb3.cell (p := ⟨w.heap.size, 0, none⟩) HZX2.out).trans kx2; have hmc3 := HMC2.out.below hb3; have HMC3 := Lib.hid hmc3; have m53 := hmc3.c5.trans (congrArg some HSV.out); have f53 := hmc3.fz 5; clear ho hb3 hb4 hg hmc3))
          all_goals
            refine NoPanic.normal ?_
            have hMN := HZM2.out
            have hbN := HMC2.out.been.lt
            have hl1 : sl1.length ≤ 1048576 := by obtain ⟨_, _, _, _, _, _, h, _⟩ := HMC2.out.sl; exact h
            have hmc4 := HMC3.out.setSlots (Sl.of_own hMN hbN hl1 HO3.out)
            have ho4 := ownsRow_setCell_below HO3.out (a := ⟨M, 5, none⟩) hMN (.slice (some ⟨g, 0, none⟩) sl1.length cap)
            have nR : wr.heap.size ≠ M := by omega
            have hX4 : w.heap.size ≠ M := by have := HLT.out; omega
            have hR4 : (w3.setCell ⟨M, 5, none⟩ (.slice (some ⟨g, 0, none⟩) sl1.length cap)).heap[wr.heap.size]? = _ := (Below.heap_setCell _ _ _ _ nR).trans ((HB3.out.block wr.heap.size HZR2.out).trans HR2.out)
            have kx4 : (w3.setCell ⟨M, 5, none⟩ (.slice (some ⟨g, 0, none⟩) sl1.length cap)).cell? ⟨w.heap.size, 0, none⟩ = _ := (World.cell?_of_block (a := ⟨w.heap.size, 0, none⟩) (Below.heap_setCell _ _ _ _ hX4)).trans kx3
            have hbar4 := (HBAR2.out.trans (Bar.of_below HB3.out)).set ⟨M, 5, none⟩ (.slice (some ⟨g, 0, none⟩) sl1.length cap) (.inl (.inl rfl))
            have HMC4 := Lib.hid hmc4
            have HO4 := Lib.hid ho4
            have HBAR4 := Lib.hid hbar4
            have HMN := Lib.hid hMN
            have HBN := Lib.hid hbN
            have HL1 := Lib.hid hl1
            generalize w3.setCell ⟨M, 5, none⟩ (.slice (some ⟨g, 0, none⟩) sl1.length cap) = W4 at *
            have r5 : W4.cell? ⟨wr.heap.size, 5, none⟩ = some (.int .i64 xn) := cell_of hR4 (j := 5) rfl
            have m54 := hmc4.c5
            have hxl := HXL.out
            have hxi : (xn : Int) < (sl1.length : Int) := by omega
            have kc4 : W4.cell? ⟨g, xn, none⟩ = some (.int .i64 (sl1.getD xn 0)) := by
              rw [ho4.cellAt xn (by omega)]
              simp [List.getD, hxl]
            have kf4 := ho4.frozenAt xn
            clear hmc4 ho4 nR hX4 hR4 hbar4 kx3 m53 f53 kx2 m5 f52 hMN hbN hl1
            go_wp2_with fail
            refine wp_region_noPanic ?_
            go_region
          all_goals
            refine NoPanic.normal ?_
            clear r5 m54 hxl hxi kc4 kf4 kx4
            go_wp2_with fail
            go_roundg g'
            case measure => omega
            case rel =>
              have hgN := (HO4.out.lt g rfl).1
              have hsv := HMC4.out.saved HMN.out HBN.out HMC2.out.at_.1 (fun gb c n e => by rw [HZ2.out]; exact HBEST.out gb c n e) HL1.out HO4.out xn at1 rfl
              exact ⟨pc1 + 1, at1, sl1.set xn at1, _, best1, m1, by go_num, rfl, by have := HGF.out; omega, HR1.out, HAT1.out, by rw [List.length_set]; exact HSL1.out, hsv.below (Below.drew (Below.refl _ _)), (HBAR4.out.set ⟨g, xn, none⟩ _ (.inr (by have := HBAR1.out.size; have := HZ2.out; show wc.heap.size ≤ g; omega))).drew⟩
        · -- Byte, behind the text's end
          simp only at h9 hr1
          subst h9 hr1
          have hnl : ¬ at1 < s.size := fun h => by
            have h2 := List.getElem?_eq_none_iff.1 hs1
            rw [Array.length_toList] at h2
            exact absurd h (by show ¬ at1 < s.data.size; omega)
          have HMV := Lib.hid (move_end _ M HMC2.out.lt s0 s1 s2 s3 x y s at1 HMC2.out.c4 hnl (by have := HAT1.out; omega) hss)
          clear hs1 hnl
          go_wp2_with fail
          refine HMV.out.mono ?_
          rintro e w3 ⟨rfl, hb3⟩
          have HMC3 := Lib.hid (HMC2.out.below hb3)
          have HBAR3 := Lib.hid (HBAR2.out.trans (Bar.of_below hb3))
          clear hb3
          go_wp2_with fail
          refine leaves_cons (f := 29) (args := #[.pointer (some ⟨A, 0, none⟩), .pointer (some ⟨B, 0, none⟩), .pointer (some ⟨w.heap.size, 0, none⟩)]) (by simp) (by simp [go_sem]) ?_
          refine (DOOR.out _ sl1 slv1 best1 HMC3.out HBAR3.out).mono ?_
          rintro e u' w' ⟨rfl, rfl, hpost⟩
          exact ⟨_, results_none rfl _ _ _, hpost⟩
        · -- Byte, there
          simp only at h9 hr1
          subst h9
          have hlt1 : at1 < s.size := by
            have h2 := (List.getElem?_eq_some_iff.1 hs1).1
            rw [Array.length_toList] at h2
            exact h2
          have hcc : s[at1]'hlt1 = c := by
            have h2 := (List.getElem?_eq_some_iff.1 hs1).2
            rw [Array.getElem_toList] at h2
            exact h2
          have hmv := move_in _ M HMC2.out.lt s0 s1 s2 s3 x y s at1 HMC2.out.c4 hlt1 hss (fun c => HOP.out _ (List.mem_of_getElem? HPI.out) c)
          rw [hcc, show hasB ⟨0, s0, s1, s2, s3, 0, 0⟩ c.toNat = true from hhb] at hmv
          have HMV := Lib.hid hmv
          have HR1 := Lib.hid hr1
          have HL1 := Lib.hid hlt1
          have hne1 : (((at1 + 1 : Nat) : Int) != (at1 : Int)) = true := by simp; omega
          clear hs1 hlt1 hcc hmv hhb hr1
          go_wp2_with fail
          refine HMV.out.mono ?_
          rintro e w3 ⟨rfl, hb3⟩
          have hmc3 := HMC2.out.below hb3
          have HMC3 := Lib.hid hmc3
          have HBAR3 := Lib.hid (HBAR2.out.trans (Bar.of_below hb3))
          have k6 := hmc3.c6
          have f6 := hmc3.fz 6
          have hzx3 : w.heap.size < (wr.alloc (.cells #[.int .i64 0, .int .u64 s0, .int .u64 s1, .int .u64 s2, .int .u64 s3, .int .i64 x, .int .i64 y] 74)).heap.size := by have := HZ2.out; omega
          have kx3 := (hb3.cell (p := ⟨w.heap.size, 0, none⟩) hzx3).trans HKX2.out
          clear hb3 hmc3 hzx3
          go_wp2_with fail
          go_roundg g'
          case measure => omega
          case rel => exact ⟨pc1 + 1, at1 + 1, sl1, slv1, best1, m1, by go_num, by go_num, by have := HGF.out; omega, HR1.out, HL1.out, HSL1.out, HMC3.out.setEntered, HBAR3.out.set _ _ (.inl (.inl rfl))⟩
        · -- Byte, not there
          simp only at h9 hr1
          subst h9 hr1
          have hlt1 : at1 < s.size := by
            have h2 := (List.getElem?_eq_some_iff.1 hs1).1
            rw [Array.length_toList] at h2
            exact h2
          have hcc : s[at1]'hlt1 = c := by
            have h2 := (List.getElem?_eq_some_iff.1 hs1).2
            rw [Array.getElem_toList] at h2
            exact h2
          have hmv := move_in _ M HMC2.out.lt s0 s1 s2 s3 x y s at1 HMC2.out.c4 hlt1 hss (fun c => HOP.out _ (List.mem_of_getElem? HPI.out) c)
          rw [hcc, show hasB ⟨0, s0, s1, s2, s3, 0, 0⟩ c.toNat = false from hhb] at hmv
          have HMV := Lib.hid hmv
          clear hs1 hlt1 hcc hmv hhb
          go_wp2_with fail
          refine HMV.out.mono ?_
          rintro e w3 ⟨rfl, hb3⟩
          have HMC3 := Lib.hid (HMC2.out.below hb3)
          have HBAR3 := Lib.hid (HBAR2.out.trans (Bar.of_below hb3))
          clear hb3
          go_wp2_with fail
          refine leaves_cons (f := 29) (args := #[.pointer (some ⟨A, 0, none⟩), .pointer (some ⟨B, 0, none⟩), .pointer (some ⟨w.heap.size, 0, none⟩)]) (by simp) (by simp [go_sem]) ?_
          refine (DOOR.out _ sl1 slv1 best1 HMC3.out HBAR3.out).mono ?_
          rintro e u' w' ⟨rfl, rfl, hpost⟩
          exact ⟨_, results_none rfl _ _ _, hpost⟩
end Go.Proofs.YtkaoegdfgoojdaaGreatDoor
