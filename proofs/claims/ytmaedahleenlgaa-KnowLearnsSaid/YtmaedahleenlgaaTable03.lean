/- law03.light, table. No condition. -/
import Derived.Test.YtmaedahleenlgaaDo03
import Derived.Test.YtmaedahleenlgaaSteps03R
set_option linter.unusedVariables false
set_option linter.unusedSimpArgs false
namespace Go.Proofs.Ytmaedahleenlgaa
open Go Go.RowKit Go.WideMaps

theorem ref_nil3 {B g : Nat} {w : World} (hB : B ≤ g) (hg : w.heap.size = g) : IsRef B (w.alloc (.cells #[.slice none 0 0] 32)) g [] := by
  subst hg
  exact ⟨wfT_nil, hB, _, [], heap_alloc_new w _, World.ownsRow_nil _ _ _ _, ⟨fun i n h => by simp at h, fun i n h => by simp at h, fun i n h => by simp at h⟩⟩
def Light (S : List Sp3) : Prop := S.length ≤ 50 ∧ ∀ s ∈ S, s.text.size ≤ 50 ∧ s.parts.length ≤ 20
def LightPost (S : List Sp3) (n2 : Nat) (w : World) (e : Ending) (w' : World) : Prop := w' = w ∧ ∃ b, e = .returned (.bool b) ∧ (b = true → Light S ∧ n2 ≤ 50)
set_option maxHeartbeats 3200000 in
set_option maxRecDepth 100000 in
theorem light_any (A : Option Addr) (n c : Nat) (S : List Sp3) (A2 : Option Addr) (n2 c2 : Nat) (w : World) (B : Nat) (hB : B ≤ w.heap.size) (h : SpsAt3 B w A n S) (h2 : n2 ≤ c2) (hc2 : c2 ≤ 9223372036854775807) :
    Calls Try.prog 9 #[.slice A n c, .slice A2 n2 c2] w (LightPost S n2 w) := by
  have HS := Lib.hid h
  clear h
  go_enter Try.func9, Try.ntmps9
  by_cases ha : 50 < n
  · go_wp2_with fail
    go_ret
    exact ⟨rfl, false, rfl, fun q => (by cases q)⟩
  by_cases hb : 50 < n2
  · go_wp2_with fail
    go_ret
    exact ⟨rfl, false, rfl, fun q => (by cases q)⟩
  go_wp2_with fail
  go_loop [5] (fun i => ∃ k : Nat, k ≤ n ∧ i = .int .i64 k ∧ Hid (∀ (q : Nat) (s : Sp3), q < k → S[q]? = some s → s.text.size ≤ 50 ∧ s.parts.length ≤ 20)) (fun i => n - (intOf i).toNat)
  case atStart => exact ⟨0, Nat.zero_le _, rfl, fun q s hq => by omega⟩
  case round =>
    obtain ⟨k, hk, rfl, HK⟩ := hrel
    by_cases hlt : k < n
    · obtain ⟨s, hs⟩ : ∃ s, S[k]? = some s := ⟨_, List.getElem?_eq_getElem (by have := HS.out.1; omega)⟩
      obtain ⟨b, o, rfl, hsp⟩ := HS.out.2.2 k s hs
      obtain ⟨x0, x1, ⟨AP, cP, x2, HP⟩, hin, hall⟩ := hsp
      have HP' := Lib.hid HP
      have HSS := Lib.hid hs
      have hpc := HP.cap
      have hpm := HP.max
      clear HP hs hall
      by_cases c1 : 50 < s.text.size
      · go_wp2_with fail
        go_ret
        exact ⟨rfl, false, rfl, fun q => (by cases q)⟩
      by_cases c3 : 20 < s.parts.length
      · go_wp2_with fail
        go_ret
        exact ⟨rfl, false, rfl, fun q => (by cases q)⟩
      have HN : Hid (∀ (q : Nat) (s : Sp3), q < k + 1 → S[q]? = some s → s.text.size ≤ 50 ∧ s.parts.length ≤ 20) := fun q s' hq he => by
        by_cases e : q < k
        · exact HK.out q s' e he
        · obtain rfl : q = k := by omega
          rw [HSS.out] at he
          cases he
          omega
      clear HK
      go_wp2_with fail
      go_round
      case rel => exact ⟨k + 1, by omega, by go_num, HN⟩
      case measure => simp [intOf]; omega
    · obtain rfl : k = n := by omega
      go_wp2_with fail
      go_ret
      refine ⟨rfl, true, rfl, fun _ => ⟨⟨by have := HS.out.1; omega, fun s hs => ?_⟩, by omega⟩⟩
      obtain ⟨q, hq, e⟩ := List.getElem_of_mem hs
      exact HK.out q s (by have := HS.out.1; omega) (by rw [List.getElem?_eq_getElem hq, e])
set_option maxHeartbeats 3200000 in
set_option maxRecDepth 100000 in
theorem table_any (A : Option Addr) (n c : Nat) (S : List Sp3) (w : World) (B : Nat) (hB : B ≤ w.heap.size) (h : SpsAt3 B w A n S) (hL : Light S) :
    Calls Try.prog 19 #[.slice A n c] w fun e w' => ∃ tb T, e = .returned (.pointer (some ⟨tb, 0, none⟩)) ∧ IsTab w.heap.size w' tb T ∧ Below w.heap.size w w' := by
  have HS := Lib.hid h
  have HL := Lib.hid hL
  have hn50 : n ≤ 50 := by have := hL.1; have := h.1; omega
  clear h hL
  go_enter Try.func19, Try.ntmps19
  go_wp2_with fail
  refine (new_any w).mono ?_
  rintro e w1 ⟨tb, rfl, ht1, hb1⟩
  have HT1 := Lib.hid ht1
  have HB1 := Lib.hid hb1
  have hs1 := hb1.size
  clear ht1 hb1
  obtain ⟨rb, hrb⟩ : ∃ rb, w1.heap.size = rb := ⟨_, rfl⟩
  have HR2 := Lib.hid (ref_nil3 (B := w.heap.size) (w := w1) (by omega) hrb)
  obtain ⟨w2, hw2⟩ : ∃ w2, w2 = w1.alloc (.cells #[.slice none 0 0] 32) := ⟨_, rfl⟩
  have HT2 : Hid (IsTab w.heap.size w2 tb []) := by rw [hw2]; exact HT1.out.below (below_new _)
  have HB2 : Hid (Below w.heap.size w w2) := by rw [hw2]; exact HB1.out.alloc hs1 _
  rw [← hw2] at HR2
  clear HT1 HB1 hs1
  go_wp2_with fail
  rw [← hw2]
  clear hw2 hrb
  go_loopw [5] (fun i wr => ∃ (k : Nat) (T : List Nd), k ≤ n ∧ i = .int .i64 k ∧ IsTab w.heap.size wr tb T ∧ IsRef w.heap.size wr rb T ∧ Below w.heap.size w wr) (fun i _ => n - (intOf i).toNat)
  case atStart => exact ⟨0, [], Nat.zero_le _, rfl, HT2.out, HR2.out, HB2.out⟩
  case round =>
    obtain ⟨k, T, hk, rfl, ht, hr, hb⟩ := hrel
    have HT := Lib.hid ht
    have HR := Lib.hid hr
    have HB := Lib.hid hb
    clear ht hr hb HT2 HR2 HB2
    by_cases hlt : k < n
    · obtain ⟨s, hs⟩ : ∃ s, S[k]? = some s := ⟨_, List.getElem?_eq_getElem (by have := HS.out.1; omega)⟩
      obtain ⟨b0, o0, rfl, hlb⟩ := HS.out.2.1 (by omega)
      obtain ⟨b, o, eA, hsp⟩ := HS.out.2.2 k s hs
      cases eA
      obtain ⟨x0, x1, ⟨AP, cP, x2, HP⟩, hin, hall⟩ := hsp.below HB.out (by omega)
      have hP := Lib.hid HP
      have hAll := Lib.hid hall
      have hle := HL.out.2 s (List.mem_of_getElem? hs)
      have HLE := Lib.hid hle
      clear HP hs hsp hall hle hin
      go_wp2_with fail
      refine (do3_any s.kind s.text AP _ cP s.parts wr HT.out HR.out hP.out hAll.out (by have := HLE.out.2; omega) (by have := HLE.out.1; omega)).mono ?_
      rintro e w3 ⟨rfl, ht3, hr3, hf3⟩
      obtain ⟨T3, hT3⟩ : ∃ T3, T3 = (stepT3 T s.kind s.text s.parts).1 := ⟨_, rfl⟩
      rw [← hT3] at ht3 hr3
      have HT3 := Lib.hid ht3
      have HR3 := Lib.hid hr3
      have HB3 := Lib.hid (HB.out.trans (hf3.below HB.out.size))
      clear ht3 hr3 hf3 HT HR HB hT3 x0 x1 x2 hP hAll
      go_wp2_with fail
      go_roundw
      case rel => exact ⟨k + 1, T3, by omega, by go_num, HT3.out, HR3.out, HB3.out⟩
      case measure => simp [intOf]; omega
    · go_wp2_with fail
      go_ret
      exact ⟨tb, T, rfl, HT.out, HB.out⟩
end Go.Proofs.Ytmaedahleenlgaa
