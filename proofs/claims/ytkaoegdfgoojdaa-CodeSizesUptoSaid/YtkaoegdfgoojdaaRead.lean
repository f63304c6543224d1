/- The reference's tree in memory: an argument that can be read is one. -/
import Derived.Test.YtkaoegdfgoojdaaAwake
import Derived.ProofKit
import Derived.OpenShut
namespace Go.Proofs.Ytkaoegdfgoojdaa
open Go Go.RowKit Go.ChangeShapes Go.WideShapes

/-- A node of the reference: its kind, set, parts, bounds, number. -/
inductive RT where
  | mk (kind s0 s1 s2 s3 : Int) (parts : List RT) (mn mx num : Int)

def RT.kind : RT → Int | .mk k .. => k
def RT.parts : RT → List RT | .mk _ _ _ _ _ ps _ _ _ => ps
def RT.mn : RT → Int | .mk _ _ _ _ _ _ m _ _ => m
def RT.mx : RT → Int | .mk _ _ _ _ _ _ _ m _ => m
def RT.num : RT → Int | .mk _ _ _ _ _ _ _ _ n => n
def RT.zero : RT := .mk 0 0 0 0 0 [] 0 0 0

mutual
/-- The nine cells are the node's; what it leads to lies below N. -/
def Rd (w : World) (N : Nat) : RT → List Value → Prop
  | .mk k s0 s1 s2 s3 ps mn mx num, cs => ∃ a c, cs = [.int .i64 k, .int .u64 s0, .int .u64 s1, .int .u64 s2, .int .u64 s3, .slice a ps.length c, .int .i64 mn, .int .i64 mx, .int .i64 num] ∧
      ps.length ≤ 9223372036854775807 ∧ (ps = [] ∨ ∃ b off, a = some ⟨b, off, none⟩ ∧ b < N ∧ ps.length ≤ c ∧ c ≤ 9223372036854775807 ∧ RdAt w N b off ps)
/-- The nodes lie one behind the other. -/
def RdAt (w : World) (N b : Nat) : Nat → List RT → Prop
  | _, [] => True
  | off, t :: r => (∃ cs, (∀ j, j < 9 → w.cell? ⟨b, off + j, none⟩ = cs[j]?) ∧ Rd w N t cs) ∧ RdAt w N b (off + 9) r
end

mutual
def rsize : RT → Nat
  | .mk _ _ _ _ _ ps _ _ _ => 1 + rsizeL ps
def rsizeL : List RT → Nat
  | [] => 0
  | t :: r => rsize t + rsizeL r
end

theorem cells_T : Try.prog.cellsOf 27 = 9 := by kernel_rfl
theorem cells_S : Try.prog.cellsOf 24 = 4 := by kernel_rfl
theorem cells_i : Try.prog.cellsOf 3 = 1 := by kernel_rfl
theorem cells_u : Try.prog.cellsOf 22 = 1 := by kernel_rfl
theorem cells_P : Try.prog.cellsOf 25 = 1 := by kernel_rfl

theorem RdAt.of (w : World) (N b : Nat) : ∀ (ps : List RT) (off : Nat), (∀ i, i < ps.length → ∃ cs, (∀ j, j < 9 → w.cell? ⟨b, off + i * 9 + j, none⟩ = cs[j]?) ∧ Rd w N (ps.getD i .zero) cs) → RdAt w N b off ps
  | [], _, _ => trivial
  | t :: r, off, h => by
      refine ⟨?_, RdAt.of w N b r (off + 9) fun i hi => ?_⟩
      · obtain ⟨cs, h1, h2⟩ := h 0 (by simp)
        exact ⟨cs, by simpa using h1, h2⟩
      · obtain ⟨cs, h1, h2⟩ := h (i + 1) (by simpa using hi)
        exact ⟨cs, fun j hj => by rw [← h1 j hj]; congr 2; omega, by simpa using h2⟩

theorem rsizeL_sum (ps : List RT) : rsizeL ps = (ps.map rsize).sum := by
  induction ps with
  | nil => rfl
  | cons t r ih => rw [rsizeL, ih]; simp

section
variable {H : Type} {enc : TypeId × Value → H} {w : World} {spare : Nat → Bool} {held : Bool}

theorem read_parts {n : Nat} {a : Addr} {elems : List (DataW H × List MemPlace)} {len : Nat} (hl : elems.length = len)
    (ih : ∀ cs (x : DataW H × List MemPlace), DataW.trod enc Try.prog w 0 spare held n 27 cs = some x → ∃ t, Rd w w.heap.size t cs ∧ rsize t ≤ Rows.uptoBulk x.1)
    (he : ∀ i, i < len → (w.cells? 0 (a.add (i * Try.prog.cellsOf 27)) (Try.prog.cellsOf 27)).bind (DataW.trod enc Try.prog w 0 spare held n 27) = elems[i]?) :
    ∃ ts : List RT, ts.length = len ∧ rsizeL ts ≤ Rows.uptoBulkAll (elems.map (·.1)) ∧ (ts = [] ∨ ∃ b off, a = ⟨b, off, none⟩ ∧ b < w.heap.size ∧ RdAt w w.heap.size b off ts) := by
  rw [cells_T] at he
  have h1 : ∀ i, ∃ t, i < len → ∃ cs, (∀ j, j < 9 → w.cell? (a.add (i * 9 + j)) = cs[j]?) ∧ cs.length = 9 ∧ Rd w w.heap.size t cs ∧ ∀ y, elems[i]? = some y → rsize t ≤ Rows.uptoBulk y.1 := by
    intro i
    by_cases hi : i < len
    · have h := he i hi
      have hs : elems[i]? = some (elems[i]'(by omega)) := List.getElem?_eq_getElem (by omega)
      rw [hs] at h
      obtain ⟨cs, hc, ht⟩ := Option.bind_eq_some_iff.1 h
      obtain ⟨t, hr, hb⟩ := ih cs _ ht
      obtain ⟨_, hcl, hat⟩ := World.cells?_some hc
      refine ⟨t, fun _ => ⟨cs, fun j hj => ?_, hcl, hr, fun y hy => ?_⟩⟩
      · rw [← hat j hj]
        congr 1
        unfold Addr.add
        split <;> split <;> (try split) <;> simp_all <;> omega
      · rw [hs] at hy; cases hy; exact hb
    · exact ⟨.zero, fun h => absurd h hi⟩
  obtain ⟨T, hT⟩ := Classical.axiomOfChoice h1
  refine ⟨(List.range len).map T, by simp, ?_, ?_⟩
  · rw [rsizeL_sum]
    have key : ∀ (l : List (DataW H × List MemPlace)) (k : Nat), (∀ i, i < l.length → ∀ y, l[i]? = some y → rsize (T (k + i)) ≤ Rows.uptoBulk y.1) → (((List.range' k l.length).map T).map rsize).sum ≤ Rows.uptoBulkAll (l.map (·.1)) := by
      intro l
      induction l with
      | nil => intro k _; simp
      | cons y l ih2 =>
        intro k hk
        have h0 := hk 0 (by simp) y rfl
        have h2 := ih2 (k + 1) (fun i hi z hz => by rw [show k + 1 + i = k + (i + 1) by omega]; exact hk (i + 1) (by simpa using hi) z (by simpa using hz))
        simp only [List.length_cons, List.range'_succ, List.map_cons, List.sum_cons, Rows.uptoBulkAll]
        rw [Nat.add_zero] at h0
        omega
    have := key elems 0 (fun i hi y hy => by
      rw [Nat.zero_add]
      obtain ⟨cs, _, _, _, hb⟩ := hT i (by omega)
      exact hb y hy)
    rw [hl, ← List.range_eq_range'] at this
    exact this
  · by_cases hz : len = 0
    · left; simp [hz]
    · right
      obtain ⟨cs, hc, hcl, _, _⟩ := hT 0 (by omega)
      have h0 := hc 0 (by omega)
      obtain ⟨b, off, spot⟩ := a
      have hv : cs[0]? = some (cs[0]'(by omega)) := List.getElem?_eq_getElem (by omega)
      rw [hv] at h0
      have hspot : spot = none := by simpa [Addr.add] using World.cell?_spot h0
      subst hspot
      refine ⟨b, off, rfl, ?_, RdAt.of _ _ _ _ _ fun i hi => ?_⟩
      · have := World.block_lt_of_cell? w _ h0
        rw [add_plain] at this
        exact this
      · simp only [List.length_map, List.length_range] at hi
        obtain ⟨cs', hc', _, hr, _⟩ := hT i hi
        refine ⟨cs', fun j hj => ?_, by simpa [List.getD, hi] using hr⟩
        have := hc' j hj
        rw [add_plain] at this
        rw [← this]
        congr 2
        omega

theorem read_T (fuel : Nat) : ∀ (cs : List Value) (x : DataW H × List MemPlace), DataW.trod enc Try.prog w 0 spare held fuel 27 cs = some x → ∃ t, Rd w w.heap.size t cs ∧ rsize t ≤ Rows.uptoBulk x.1 := by
  induction fuel using Nat.strongRecOn with
  | _ fuel ih =>
    intro cs x h
    obtain ⟨xs, n, hfuel, hx, hlen, hxl, hf⟩ := DataW.trod_struct Try.underlying27 h
    rw [cells_T] at hlen
    match cs, hlen with
    | [c0, c1, c2, c3, c4, c5, c6, c7, c8], _ =>
      match xs, hxl with
      | [y0, y1, y2, y3, y4, y5], _ =>
        have g0 := hf 0 _ rfl
        have g1 := hf 1 _ rfl
        have g2 := hf 2 _ rfl
        have g3 := hf 3 _ rfl
        have g4 := hf 4 _ rfl
        have g5 := hf 5 _ rfl
        simp only [cells_i, cells_S, cells_P, List.drop_zero, List.drop_succ_cons, List.take_succ_cons, List.take_zero, List.getElem?_cons_zero, List.getElem?_cons_succ] at g0 g1 g2 g3 g4 g5
        obtain ⟨k, e0, _, _⟩ := DataW.trod_int Try.underlying3 g0
        obtain ⟨mn, e3, _, _⟩ := DataW.trod_int Try.underlying3 g3
        obtain ⟨mx, e4, _, _⟩ := DataW.trod_int Try.underlying3 g4
        obtain ⟨num, e5, _, _⟩ := DataW.trod_int Try.underlying3 g5
        obtain ⟨zs, m, _, _, _, hzl, hz⟩ := DataW.trod_array Try.underlying24 g1
        match zs, hzl with
        | [z0, z1, z2, z3], _ =>
          have k0 := hz 0 (by omega)
          have k1 := hz 1 (by omega)
          have k2 := hz 2 (by omega)
          have k3 := hz 3 (by omega)
          simp [cells_u] at k0 k1 k2 k3
          obtain ⟨s0, f0, _, _⟩ := DataW.trod_int Try.underlying22 k0
          obtain ⟨s1, f1, _, _⟩ := DataW.trod_int Try.underlying22 k1
          obtain ⟨s2, f2, _, _⟩ := DataW.trod_int Try.underlying22 k2
          obtain ⟨s3, f3, _, _⟩ := DataW.trod_int Try.underlying22 k3
          injection e0 with e0 _; injection e3 with e3 _; injection e4 with e4 _; injection e5 with e5 _
          injection f0 with f0 _; injection f1 with f1 _; injection f2 with f2 _; injection f3 with f3 _
          subst e0 e3 e4 e5 f0 f1 f2 f3
          rcases DataW.trod_slice Try.underlying25 g2 with ⟨e2, hy⟩ | ⟨a, len, cap, elems, rest, n', hn', e2, hy, _, hlc, hcm, hel, hlt, _, _⟩
          · injection e2 with e2 _
            subst e2
            refine ⟨.mk k s0 s1 s2 s3 [] mn mx num, ⟨none, 0, rfl, by simp, .inl rfl⟩, ?_⟩
            rw [hx]
            simp [rsize, rsizeL, Rows.uptoBulk]
          · injection e2 with e2 _
            subst e2
            obtain ⟨ts, hts, hsz, hor⟩ := read_parts (w := w) (spare := spare) (held := held) (enc := enc) (n := n') (a := a) hel (fun cs x hx => ih n' (by omega) cs x hx) hlt
            have hcm' : cap ≤ 9223372036854775807 := by unfold maxLen at hcm; omega
            refine ⟨.mk k s0 s1 s2 s3 ts mn mx num, ⟨some a, cap, by rw [hts], by omega, ?_⟩, ?_⟩
            · rcases hor with h0 | ⟨b, off, rfl, hb, hr⟩
              · exact .inl h0
              · exact .inr ⟨b, off, rfl, hb, by omega, hcm', hr⟩
            · rw [hx]
              simp only [List.map_cons, Rows.uptoBulk, Rows.uptoBulkAll, hy, rsize]
              omega
end
end Go.Proofs.Ytkaoegdfgoojdaa
