/- The map of where the machine has been: its laws (seat 2). -/
import Derived.Test.YtkaoegdfgoojdaaGreatDoorMove
import Derived.WideKeyEntry
import Derived.DeepKeys4
import Derived.Maps.Keyed
import Derived.MapViews
import Derived.Lib.SmallJoins
namespace Go.Proofs.YtkaoegdfgoojdaaGreatDoor
open Go Go.RowKit Go.Joins Go.WideElems Go.MapKept Go.ChangeMaps Go.WideMaps Go.ChangeShapes
set_option maxRecDepth 100000

theorem laidOut : laidOutB Tryz.prog = true := by kernel_rfl
theorem state_row : (126 : TypeId) < Tryz.prog.types.size := of_decide_eq_true (by kernel_rfl)
theorem state_wide : (match Tryz.prog.underlying 126 with | some (.array _ _) | some (.struct _) => true | _ => false) = true := by rw [Tryz.underlying126]
theorem state_law : WideMaps.KeyLaw Tryz.prog 126 := deep_law_laid laidOut (m := 2) (by omega) state_row (by kernel_rfl) state_wide
theorem state_cells : Tryz.prog.cellsOf 126 = 3 := by kernel_rfl
theorem zero_int (w : World) : (zeroValue 3).run Tryz.prog w = .ok (.int .i64 0) w := by kernel_rfl

/-- A key of m.been (the third cell is the empty text: nothing was entered, there are no backs). -/
def stateV (pc at_ : Nat) : Value := .agg #[.int .i64 pc, .int .i64 at_, .string ByteArray.empty]
theorem stateV_inj {a b c d : Nat} (h : stateV a b = stateV c d) : a = c ∧ b = d := by
  simp only [stateV, Value.agg.injEq, Array.mk.injEq, List.cons.injEq, Value.int.injEq, true_and, and_true] at h
  omega
theorem state_key (w : World) (pc at_ : Nat) (h1 : pc ≤ 1048576) (h2 : at_ ≤ 1048576) : ∃ kl, keyOf Tryz.prog 126 (stateV pc at_) = some kl := by
  have wf : ∀ n : Nat, n ≤ 1048576 → (Lit.int .i64 (n : Int)).wf = true := fun n hn => by
    simp only [Lit.wf, Bool.and_eq_true, decide_eq_true_eq, IntKind.min, IntKind.max]
    simp [IntKind.signed, IntKind.bits]
    omega
  have hd := shut_agg3 (H := Unit) (enc := fun _ => ()) (P := Tryz.prog) (w := w) (base := 0) (spare := fun _ => true) (held := true) Tryz.underlying126 (by kernel_rfl) state_cells
    (shut_int Tryz.underlying3 (wf pc h1)) (shut_int Tryz.underlying3 (wf at_ h2)) (shut_string (s := ByteArray.empty) Tryz.underlying9 (by decide))
  exact ⟨_, (keyOf_asKey (P := Tryz.prog) (by kernel_rfl) state_wide (by simp [Value.formed, stateV, Tryz.underlying126, state_cells]) hd).1⟩

/-- Where the machine has been, in block b. -/
def Been (w : World) (b : Nat) (log : List (Nat × Nat)) : Prop :=
  ∃ es clock, w.heap[b]? = some (.map es clock) ∧ (∀ x ∈ es.toList, x.born < clock) ∧ (es.toList.map (·.born)).Nodup ∧ ∀ e ∈ es.toList, ∃ p ∈ log, e.key = stateV p.1 p.2 ∧ p.1 ≤ 1048576 ∧ p.2 ≤ 1048576

theorem Been.kept {w w' : World} {b : Nat} {log : List (Nat × Nat)} (h : Been w b log) (hb : w'.heap[b]? = w.heap[b]?) : Been w' b log := by
  obtain ⟨es, clock, h1, h2⟩ := h
  exact ⟨es, clock, hb.trans h1, h2⟩
theorem Been.lt {w : World} {b : Nat} {log : List (Nat × Nat)} (h : Been w b log) : b < w.heap.size := by
  obtain ⟨es, clock, h1, _⟩ := h
  exact (Array.getElem?_eq_some_iff.1 h1).1
theorem Been.made (w : World) : Been (w.alloc (.map #[] 0)) w.heap.size [] := ⟨#[], 0, heap_alloc_new w _, by simp, by simp, by simp⟩

/-- 'm.been[k]++' where the machine has not been, and the look behind it. -/
theorem Been.visit {w : World} {b : Nat} {log : List (Nat × Nat)} (h : Been w b log) (pc at_ : Nat) (h1 : pc ≤ 1048576) (h2 : at_ ≤ 1048576) (hn : (pc, at_) ∉ log) :
    ∃ (o1 o2 : Obj) (st : Nat), (∀ w2 : World, w2.heap[b]? = w.heap[b]? → (Instr.lookup 59 (.map (some b)) (stateV pc at_) false).run Tryz.prog w2 = .ok (.int .i64 0) w2 ∧ (Instr.mapEntry 59 (.map (some b)) (stateV pc at_)).run Tryz.prog w2 = .ok (.tuple #[.int .i64 0, .int .i64 st]) (setBlock w2 b o1) ∧ (setBlock w2 b o1).heap[b]? = some o1) ∧
      (∀ w2 : World, w2.heap[b]? = some o1 → (Instr.lookup 59 (.map (some b)) (stateV pc at_) false).run Tryz.prog w2 = .ok (.int .i64 0) w2 ∧ (Instr.entryStore 59 (.map (some b)) (.int .i64 st) (.int .i64 1)).run Tryz.prog w2 = .ok () (setBlock w2 b o2) ∧ (setBlock w2 b o2).heap[b]? = some o2) ∧
      ∀ w3 : World, w3.heap[b]? = some o2 → (Instr.lookup 59 (.map (some b)) (stateV pc at_) false).run Tryz.prog w3 = .ok (.int .i64 1) w3 ∧ Been w3 b ((pc, at_) :: log) := by
  obtain ⟨es, clock, hb, s1, s2, hk⟩ := h
  obtain ⟨kl, hkey⟩ := state_key w pc at_ h1 h2
  have K := state_law
  have ht := Tryz.underlying59
  have keys : ∀ (l : List (Nat × Nat)) (L : List MapEntry), (∀ e ∈ L, ∃ p ∈ l, e.key = stateV p.1 p.2 ∧ p.1 ≤ 1048576 ∧ p.2 ≤ 1048576) → ∀ e ∈ L, ∃ l, keyOf Tryz.prog 126 e.key = some l := by
    intro l L hL e he
    obtain ⟨p, _, e1, e2, e3⟩ := hL e he
    rw [e1]
    exact state_key w _ _ e2 e3
  have habs : ∀ x ∈ es.toList, x.key ≠ stateV pc at_ := by
    intro x hx e
    obtain ⟨p, hp, e1, _⟩ := hk x hx
    rw [e] at e1
    obtain ⟨rfl, rfl⟩ := stateV_inj e1
    exact hn hp
  have hnd : ∀ v : Value, ((es.push ⟨stateV pc at_, v, clock⟩).toList.map (·.born)).Nodup := by
    intro v
    simp only [Array.toList_push, List.map_append, List.map_cons, List.map_nil]
    refine List.nodup_append.2 ⟨s2, by simp, fun a ha c hc e1 => ?_⟩
    simp only [List.mem_singleton] at hc
    obtain ⟨x, hx, rfl⟩ := List.mem_map.1 ha
    have := s1 x hx
    omega
  have hk3 : ∀ v : Value, ∀ e ∈ (es.push ⟨stateV pc at_, v, clock⟩).toList, ∃ p ∈ (pc, at_) :: log, e.key = stateV p.1 p.2 ∧ p.1 ≤ 1048576 ∧ p.2 ≤ 1048576 := by
    intro v e he
    simp only [Array.toList_push, List.mem_append, List.mem_singleton] at he
    rcases he with he | rfl
    · obtain ⟨p, hp, e1⟩ := hk e he
      exact ⟨p, List.mem_cons_of_mem _ hp, e1⟩
    · exact ⟨_, List.mem_cons_self, rfl, h1, h2⟩
  have look : ∀ (v : Value) (c : Nat) (w3 : World), w3.heap[b]? = some (.map (es.push ⟨stateV pc at_, v, clock⟩) c) → (Instr.lookup 59 (.map (some b)) (stateV pc at_) false).run Tryz.prog w3 = .ok v w3 := by
    intro v c w3 hw3
    rcases K.find w3 hkey _ (keys _ _ (hk3 v)) with ⟨_, f2⟩ | ⟨j, e0, f1, f2, f3⟩
    · exact absurd rfl (f2 ⟨stateV pc at_, v, clock⟩ (by simp))
    · have hm := List.mem_of_getElem? f2
      have hv : e0.val = v := by
        simp only [Array.toList_push, List.mem_append, List.mem_singleton] at hm
        rcases hm with hm | rfl
        · exact absurd f3 (habs e0 hm)
        · rfl
      rw [Array.toList_push] at f1
      simp [Instr.lookup, run_underlying ht, MapKept.run_getObj_map hw3, fun em => K.check w3 em hkey, f1, hv, Result.andThen]
  refine ⟨.map (es.push ⟨stateV pc at_, .int .i64 0, clock⟩) (clock + 1), .map (es.push ⟨stateV pc at_, .int .i64 1, clock⟩) (clock + 1), clock, ?_, ?_, ?_⟩
  · intro w2 hw2
    have hb2 := hw2.trans hb
    rcases K.find w2 hkey es.toList (keys _ _ hk) with ⟨f1, f2⟩ | ⟨j, e0, f1, f2, f3⟩
    · refine ⟨?_, ?_, heap_setBlock_same hb2 _⟩
      · simp [Instr.lookup, run_underlying ht, MapKept.run_getObj_map hb2, fun em => K.check w2 em hkey, f1, zero_int, Result.andThen]
      · simp [Instr.mapEntry, run_underlying ht, MapKept.run_getObj_map hb2, K.check w2 false hkey, f1, zero_int, MapKept.run_setObj_map _ hb2, Result.andThen, setBlock, goInt]
    · exact absurd f3 (habs e0 (List.mem_of_getElem? f2))
  · intro w2 hw2
    have hidx : (es.push ⟨stateV pc at_, .int .i64 0, clock⟩).findIdx? (fun e => ((e.born : Nat) : Int) == ((clock : Nat) : Int)) = some es.size := by
      rw [findIdx_arr]
      exact findIdx_born (l := (es.push ⟨stateV pc at_, .int .i64 0, clock⟩).toList) (j := es.size) (e0 := ⟨stateV pc at_, .int .i64 0, clock⟩) (hnd _) (by simp)
    have hmod : (es.push ⟨stateV pc at_, .int .i64 0, clock⟩).modify es.size (fun e => { e with val := .int .i64 1 }) = es.push ⟨stateV pc at_, .int .i64 1, clock⟩ := by
      apply Array.ext'
      rw [Array.toList_modify, Array.toList_push, Array.toList_push, ← Array.length_toList, modify_last]
    refine ⟨look _ _ _ hw2, ?_, heap_setBlock_same hw2 _⟩
    simp [Instr.entryStore, MapKept.run_getObj_map hw2, asInt, asIntOf, goInt, hidx, hmod, MapKept.run_setObj_map _ hw2, Result.andThen, setBlock]
  · intro w3 hw3
    refine ⟨look _ _ _ hw3, _, _, hw3, ?_, hnd _, hk3 _⟩
    · intro x hx
      simp only [Array.toList_push, List.mem_append, List.mem_singleton] at hx
      rcases hx with hx | rfl
      · have := s1 x hx; omega
      · simp
end Go.Proofs.YtkaoegdfgoojdaaGreatDoor
