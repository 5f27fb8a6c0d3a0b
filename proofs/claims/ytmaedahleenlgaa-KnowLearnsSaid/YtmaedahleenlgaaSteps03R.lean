/- A slice of steps of layer 3 that came in, cell by cell. No condition. -/
import Derived.Test.YtmaedahleenlgaaRow2
import Derived.Test.YtmaedahleenlgaaStepsN
set_option linter.unusedVariables false
set_option linter.unusedSimpArgs false
namespace Go.Proofs.Ytmaedahleenlgaa
open Go Go.RowKit Go.ChangeShapes Go.WideShapes Go.ChangeAt

/-- A step. -/
structure Sp3 where
  kind : Int
  text : ByteArray
  parts : List Int
structure SpAt3 (B : Nat) (w : World) (b o : Nat) (s : Sp3) : Prop where
  kind : w.cell? ⟨b, o, none⟩ = some (.int .i64 s.kind)
  text : w.cell? ⟨b, o + 1, none⟩ = some (.string s.text)
  parts : ∃ A c, w.cell? ⟨b, o + 2, none⟩ = some (.slice A s.parts.length c) ∧ Rds B w .i64 A s.parts.length c s.parts
  in64 : -9223372036854775808 ≤ s.kind ∧ s.kind ≤ 9223372036854775807
  all64 : I64 s.parts
/-- The slice A, n holds the steps S; all from before B. -/
def SpsAt3 (B : Nat) (w : World) (A : Option Addr) (n : Nat) (S : List Sp3) : Prop := S.length = n ∧ (0 < n → ∃ b o, A = some ⟨b, o, none⟩ ∧ b < B) ∧ ∀ i s, S[i]? = some s → ∃ b o, A = some ⟨b, o, none⟩ ∧ SpAt3 B w b (o + i * 3) s
theorem SpAt3.below {B : Nat} {w w' : World} {b o : Nat} {s : Sp3} (h : SpAt3 B w b o s) (hb : Below w.heap.size w w') (hB : b < w.heap.size) : SpAt3 B w' b o s := by
  obtain ⟨h1, h2, ⟨A, c, h3, h4⟩, h6, h7⟩ := h
  exact ⟨(hb.cell (by simpa using hB)).trans h1, (hb.cell (by simpa using hB)).trans h2, ⟨A, c, (hb.cell (by simpa using hB)).trans h3, h4.below hb⟩, h6, h7⟩
theorem spot_none3 {w : World} {ad : Addr} {v : Value} (h : w.cell? ad = some v) : ad.spot = none := by
  unfold World.cell? at h
  cases hs : ad.spot with
  | none => rfl
  | some s => rw [hs] at h; split at h <;> simp at h
theorem under_steps3 : ∃ fs : Array Field, Try.prog.underlying 35 = some (.struct fs) ∧ Deep.oneCellFields Try.prog fs = true ∧ fs[0]?.map (·.type) = some 3 ∧ fs[1]?.map (·.type) = some 9 ∧ fs[2]?.map (·.type) = some 23 ∧ fs.size = 3 :=
  ⟨_, Try.underlying35, by kernel_rfl, rfl, rfl, rfl, rfl⟩
theorem cells_steps3 : Try.prog.cellsOf 35 = 3 := by kernel_rfl
theorem cells_i64_3 : Try.prog.cellsOf 3 = 1 := by kernel_rfl
set_option maxRecDepth 100000 in
/-- A []Step argument. -/
theorem open_steps3 {H : Type} {enc : TypeId × Value → H} {w : World} {base : Nat} {a : Option Addr} {len cap : Nat} {d : DataW H} {p : List MemPlace}
    (h : DataW.Trod enc Try.prog w base (fun _ => true) true 22 (.slice a len cap) d p) : ∃ S, SpsAt3 w.heap.size w a len S := by
  obtain ⟨fuel, hf⟩ := h
  rcases Deep.open_slice Try.underlying22 hf with ⟨hcs, _⟩ | ⟨ad, l, c, m, n, D, Pl, hcs, _, hl, hm, hmm, _, hi⟩
  · simp [Value.cells] at hcs
    obtain ⟨rfl, rfl, rfl⟩ := hcs
    exact ⟨[], rfl, fun h => by omega, fun i s h => by simp at h⟩
  · simp [Value.cells] at hcs
    obtain ⟨rfl, rfl, rfl⟩ := hcs
    have hm' : m = cap := by simpa using hmm
    subst hm'
    obtain ⟨fs, hu, hone, f0, f1, f2, hsz⟩ := under_steps3
    obtain ⟨g0, j0, k0⟩ := Option.map_eq_some_iff.1 f0
    obtain ⟨g1, j1, k1⟩ := Option.map_eq_some_iff.1 f1
    obtain ⟨g2, j2, k2⟩ := Option.map_eq_some_iff.1 f2
    have hsp : 0 < len → ad.spot = none := fun h0 => by
      obtain ⟨cs, hc, _⟩ := hi 0 (by omega)
      rw [cells_steps3] at hc
      obtain ⟨_, hcl, hat⟩ := World.cells?_some hc
      have := hat 0 (by omega)
      rw [List.getElem?_eq_getElem (by omega), Deep.add_add] at this
      exact spot_none3 (ad := ad.add (0 * 3 + 0)) this
    have key : ∀ i, i < len → ∃ s b o, ad = ⟨b, o, none⟩ ∧ b < w.heap.size ∧ SpAt3 w.heap.size w b (o + i * 3) s := by
      intro i hil
      obtain ⟨cs, hc, ht⟩ := hi i (by omega)
      rw [cells_steps3] at hc
      obtain ⟨_, hcl, hat⟩ := World.cells?_some hc
      obtain ⟨v0, y0, n0, e0, t0⟩ := field_trod hu hone ht (hcl.trans hsz.symm) 0 _ j0
      rw [k0] at t0
      obtain ⟨v1, y1, n1, e1, t1⟩ := field_trod hu hone ht (hcl.trans hsz.symm) 1 _ j1
      rw [k1] at t1
      obtain ⟨v2, y2, n2, e2, t2⟩ := field_trod hu hone ht (hcl.trans hsz.symm) 2 _ j2
      rw [k2] at t2
      obtain ⟨kind, rfl, hk⟩ := cell_i64 Try.underlying3 t0
      obtain ⟨text, rfl, _⟩ := cell_string Try.underlying9 t1
      obtain ⟨A2, c2, parts, rfl, hp, hw⟩ := cell_rds Try.underlying23 Try.underlying3 cells_i64_3 t2
      have g0 := (hat 0 (by omega)).trans e0
      have g1 := (hat 1 (by omega)).trans e1
      have g2 := (hat 2 (by omega)).trans e2
      have hs := hsp (by omega)
      obtain ⟨b, o, sp⟩ := ad
      obtain rfl : sp = none := hs
      rw [addr_add, addr_add] at g0 g1 g2
      exact ⟨⟨kind, text, parts⟩, b, o, rfl, World.block_lt_of_cell? _ _ g0, g0, g1, ⟨A2, c2, g2, hp⟩, hk, fun x hx => wf_i64 (hw x hx)⟩
    obtain ⟨S, hS⟩ : ∃ S : Nat → Sp3, ∀ i, i < len → ∃ b o, ad = ⟨b, o, none⟩ ∧ b < w.heap.size ∧ SpAt3 w.heap.size w b (o + i * 3) (S i) := by
      haveI : Inhabited Sp3 := ⟨⟨0, ByteArray.empty, []⟩⟩
      exact Deep.choose_lt key
    refine ⟨(List.range len).map S, by simp, fun h => ?_, fun i s h => ?_⟩
    · obtain ⟨b, o, rfl, hb, _⟩ := hS 0 h
      exact ⟨b, o, rfl, hb⟩
    · have hil : i < len := by have := (List.getElem?_eq_some_iff.1 h).1; simpa using this
      rw [List.getElem?_map, List.getElem?_range hil] at h
      obtain rfl : S i = s := by simpa using h
      obtain ⟨b, o, rfl, hb, h3⟩ := hS i hil
      exact ⟨b, o, rfl, h3⟩
end Go.Proofs.Ytmaedahleenlgaa
