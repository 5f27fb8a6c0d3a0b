/- The printed words for rows of whole numbers, turned to ours and back. No condition. -/
import Derived.Test.YtomopjpfdmpgpaaBase
import Derived.Test.YtomopjpfdmpgpaaWWords
set_option linter.unusedVariables false
set_option linter.unusedSimpArgs false
namespace Go.Proofs.Ytomopjpfdmpgpaa
open Go Go.RowKit Go.Proofs.YtomopjpfdmpgpaaW.PrintWords

theorem kd_c {B : Nat} {w : World} {k : IntKind} {A : Option Addr} {n c : Nat} {xs : List Int} (h : Rds B w k A n c xs) : Kd.C (Kd.int k) w A xs.length xs := by
  refine ⟨rfl, by have := h.len; have := h.cap; have := h.max; omega, fun h0 => ?_⟩
  obtain ⟨b, o, rfl, hc⟩ := h.cell.at_ h0
  refine ⟨_, rfl, fun j p hj => ⟨[.int k p], rfl, rfl, fun i u hu => ?_⟩⟩
  have hl := (List.getElem?_eq_some_iff.1 hj).1
  have hi : i = 0 := by
    have := (List.getElem?_eq_some_iff.1 hu).1
    simpa using this
  subst hi
  have e := nth_lt hl
  rw [hj] at e
  obtain rfl : p = nth xs j := Option.some.inj e
  obtain rfl : Value.int k (nth xs j) = u := by simpa using hu
  have hs : j * (Kd.int k).sz + 0 = j := by show j * 1 + 0 = j; omega
  rw [hs, addr_add]
  exact hc j hl
/-- A row that a printed contract hands back is a row of the call's own. -/
theorem kd_own {base e : Nat} {w : World} {k : IntKind} {ok : Nat → Prop} {v : Value} {xs : List Int} (he : spT e = false) (h : Kd.R (Kd.int k) e w base ok v xs) : OwnI w base k v xs := by
  obtain ⟨_, inner, ho, hr⟩ := h
  have hin : ∀ j p, xs[j]? = some p → inner[j]? = some (Value.int k p) := fun j p hj => by
    have h1 : (inner.drop (j * 1)).take 1 = [Value.int k p] := hr.2 j p hj
    rw [Nat.mul_one] at h1
    have h2 := congrArg (fun l => l[0]?) h1
    simpa using h2
  obtain ⟨hlen, hv⟩ := ho
  have hs : (Kd.int k).sz = 1 := rfl
  have hil : inner.length = xs.length := by rw [hlen, hs]; omega
  rcases hv with ⟨rfl, hx⟩ | ⟨g, cap, cur, rfl, hb, hh, h1, h2, h3, hcur⟩
  · exact .inl ⟨List.eq_nil_of_length_eq_zero hx, rfl⟩
  · refine .inr ⟨g, cap, cur, e, rfl, hb, hh, he, h1, by rw [h3, hs]; omega, by simpa only [maxLen] using h2, ?_⟩
    rw [hs, Nat.mul_one] at hcur
    rw [hcur]
    apply List.ext_getElem?
    intro j
    by_cases hj : j < xs.length
    · rw [hin j _ (List.getElem?_eq_getElem hj), List.getElem?_map, List.getElem?_eq_getElem hj]
      rfl
    · rw [List.getElem?_eq_none (by omega), List.getElem?_eq_none (by simp; omega)]
end Go.Proofs.Ytomopjpfdmpgpaa
