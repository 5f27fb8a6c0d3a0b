/- Plain: lists and retries of layer 8 are read as they were written. No condition. -/
import Derived.Test.YtomopjpfdmpgpaaReadR08
import Derived.Test.YtomopjpfdmpgpaaPureSpec
set_option linter.unusedVariables false
set_option linter.unusedSimpArgs false
namespace Go.Proofs.Ytomopjpfdmpgpaa
open Go Go.RowKit

theorem cutL_mid (a b c : List Int) : cutL (a ++ (b ++ c)) a.length b.length = b := by
  unfold cutL
  rw [← List.append_assoc, List.take_append_of_le_length (by simp), List.take_of_length_le (by simp), List.drop_left]
theorem cutL_mid' {xs a b c : List Int} {i k : Nat} (h : xs = a ++ (b ++ c)) (hi : i = a.length) (hk : k = b.length) : cutL xs i k = b := by
  subst h hi hk; exact cutL_mid a b c
theorem nth_mid {xs a c : List Int} {x : Int} {i : Nat} (h : xs = a ++ (x :: c)) (hi : i = a.length) : nth xs i = x := by
  subst h hi; simp [nth]
theorem drop_mid {xs a c : List Int} {i : Nat} (h : xs = a ++ c) (hi : i = a.length) : xs.drop i = c := by
  subst h hi; exact List.drop_left
theorem beN_bigB {v : Int} (h0 : 0 ≤ v) (h1 : v ≤ 4294967295) : beN (bigB v) = v := by
  simp only [beN, bigB, List.foldl]
  omega
theorem startP_head {f v : Int} {ts fr t : List Int} (hn : NamesOk ts fr) (h0 : 0 ≤ v) (h1 : v ≤ 4294967295) : startP (headB f v ts fr ++ t) f = some ⟨v, ts, fr, t⟩ := by
  obtain ⟨n1, n2⟩ := hn
  have hl : (headB f v ts fr ++ t).length = 7 + ts.length + fr.length + t.length := by rw [List.length_append, headB_len]
  obtain ⟨xs, hx⟩ : ∃ xs, xs = headB f v ts fr ++ t := ⟨_, rfl⟩
  rw [← hx] at hl ⊢
  have e0 : xs = [] ++ (f :: (bigB v ++ (((ts.length : Int) :: ts) ++ ((fr.length : Int) :: fr)) ++ t)) := by rw [hx]; simp [headB]
  have e1 : xs = [f] ++ (bigB v ++ (((ts.length : Int) :: ts) ++ (((fr.length : Int) :: fr) ++ t))) := by rw [hx]; simp [headB]
  have e2 : xs = (f :: bigB v) ++ ((ts.length : Int) :: (ts ++ (((fr.length : Int) :: fr) ++ t))) := by rw [hx]; simp [headB]
  have e3 : xs = (f :: (bigB v ++ [(ts.length : Int)])) ++ (ts ++ (((fr.length : Int) :: fr) ++ t)) := by rw [hx]; simp [headB]
  have e4 : xs = (f :: (bigB v ++ ((ts.length : Int) :: ts))) ++ ((fr.length : Int) :: (fr ++ t)) := by rw [hx]; simp [headB]
  have e5 : xs = (f :: (bigB v ++ ((ts.length : Int) :: (ts ++ [(fr.length : Int)])))) ++ (fr ++ t) := by rw [hx]; simp [headB]
  have e6 : xs = headB f v ts fr ++ t := hx
  have a0 : nth xs 0 = f := nth_mid e0 rfl
  have a5 : nth xs 5 = (ts.length : Int) := nth_mid e2 (by simp [bigB])
  have a6 : nth xs (6 + ts.length) = (fr.length : Int) := nth_mid e4 (by simp [bigB]; omega)
  have b1 : cutL xs 1 4 = bigB v := cutL_mid' e1 rfl rfl
  have b2 : cutL xs 6 ts.length = ts := cutL_mid' e3 (by simp [bigB]) rfl
  have b3 : cutL xs (7 + ts.length) fr.length = fr := cutL_mid' e5 (by simp [bigB]; omega) rfl
  have b4 : xs.drop (7 + ts.length + fr.length) = t := drop_mid e6 (headB_len f v ts fr).symm
  have tn : ((ts.length : Int)).toNat = ts.length := Int.toNat_natCast _
  have fn : ((fr.length : Int)).toNat = fr.length := Int.toNat_natCast _
  have hok : startOk xs f := by
    unfold startOk
    rw [a0, a5, tn, a6, fn]
    refine ⟨by omega, rfl, by omega, by omega, by omega, by omega⟩
  unfold startP
  rw [if_pos hok, a5, tn, a6, fn, b1, b2, b3, b4, beN_bigB h0 h1]
theorem startP_first {f v g : Int} {ts fr t : List Int} (h : f ≠ g) : startP (headB f v ts fr ++ t) g = none := by
  unfold startP
  rw [if_neg]
  intro hok
  have := hok.2.1
  exact h (by rw [← this]; rfl)
theorem bigs_cut {vs : List Int} {k : Nat} (h : k < vs.length) : bigs vs = bigs (vs.take k) ++ (bigB (nth vs k) ++ bigs (vs.drop (k + 1))) := by
  have e : vs = vs.take k ++ (nth vs k :: vs.drop (k + 1)) := by
    have : nth vs k = vs[k] := by simp [nth, List.getD, List.getElem?_eq_getElem h]
    rw [this, ← List.drop_eq_getElem_cons h, List.take_append_drop]
  conv => lhs; rw [e]
  simp [bigs]
theorem quad_bigs {vs : List Int} {k : Nat} (h : k < vs.length) (hv : ∀ v ∈ vs, VerOk v) : quad (bigs vs) k = nth vs k := by
  have hm : nth vs k ∈ vs := by
    have : nth vs k = vs[k] := by simp [nth, List.getD, List.getElem?_eq_getElem h]
    rw [this]; exact List.getElem_mem h
  have := hv _ hm
  unfold quad
  rw [cutL_mid' (k := 4) (bigs_cut h) (by rw [bigs_len, List.length_take, Nat.min_eq_left (by omega)]) rfl, beN_bigB (by have := this.1; omega) this.2]
theorem quads_bigs {vs : List Int} (hv : ∀ v ∈ vs, VerOk v) : quadsN (bigs vs) vs.length = vs := by
  refine ext_nth (quadsN_len _ _) fun j hj => ?_
  rw [quadsN_len] at hj
  rw [← quad_bigs hj hv]
  unfold quadsN
  simp [nth, hj]
theorem readL_listB {ts fr vs : List Int} (h : ListOk ts fr vs) : readL (listB ts fr vs) = some (ts, fr, vs) := by
  have e : listB ts fr vs = headB 128 0 ts fr ++ bigs vs := if_pos h
  obtain ⟨hn, h1, h2, hv⟩ := h
  unfold readL
  rw [e, startP_head hn (by decide) (by decide)]
  simp only
  have hd : (bigs vs).length / 4 = vs.length := by rw [bigs_len]; omega
  have hok : listOk ⟨0, ts, fr, bigs vs⟩ := by
    refine ⟨rfl, ?_, ?_, ?_, ?_⟩
    · simp only [bigs_len]; omega
    · simp only [bigs_len]; omega
    · simp only [bigs_len]; omega
    · simp only [hd]
      intro i hi
      rw [quad_bigs hi hv]
      have hm : nth vs i ∈ vs := by
        have : nth vs i = vs[i] := by simp [nth, List.getD, List.getElem?_eq_getElem hi]
        rw [this]; exact List.getElem_mem hi
      have := (hv _ hm).1
      omega
  rw [if_pos hok, hd, quads_bigs hv]
theorem readR_listB {ts fr vs : List Int} (h : ListOk ts fr vs) : readR (listB ts fr vs) = none := by
  have e : listB ts fr vs = headB 128 0 ts fr ++ bigs vs := if_pos h
  unfold readR
  rw [e, startP_first (by decide)]
theorem retryB_head {ver : Int} {ts fr : List Int} {token tag : Int} (h : BodyOk ver ts fr token ∧ 1 ≤ tag ∧ tag ≤ 65536) : retryB ver ts fr token tag = headB 240 ver ts fr ++ (numB token ++ numB tag) := by
  have e1 : retryB ver ts fr token tag = bodyB ver ts fr token ++ numB tag := if_pos h
  have e2 : bodyB ver ts fr token = headB 240 ver ts fr ++ numB token := if_pos h.1
  rw [e1, e2, List.append_assoc]
theorem numB_len4 {h : Int} (h0 : 1 ≤ h) (h1 : h ≤ 65536) : (numB h).length = 4 := by unfold numB; rw [if_pos ⟨h0, h1⟩]; rfl
theorem readR_retryB {ver : Int} {ts fr : List Int} {token tag : Int} (h : BodyOk ver ts fr token ∧ 1 ≤ tag ∧ tag ≤ 65536) : readR (retryB ver ts fr token tag) = some ⟨ver, ts, fr, token, tag⟩ := by
  have e := retryB_head h
  obtain ⟨⟨hn, hv, t0, t1⟩, g0, g1⟩ := h
  have l1 := numB_len4 t0 t1
  have l2 := numB_len4 g0 g1
  have k1 : (numB token ++ numB tag).take 4 = numB token := by rw [List.take_append_of_le_length (by omega), List.take_of_length_le (by omega)]
  have k2 : (numB token ++ numB tag).drop 4 = numB tag := drop_mid rfl l1.symm
  unfold readR
  rw [e, startP_head hn (by have := hv.1; omega) hv.2]
  simp only
  have hok : retryOk ⟨ver, ts, fr, numB token ++ numB tag⟩ := by
    refine ⟨by have := hv.1; simp only; omega, by simp only [List.length_append]; omega, ?_, ?_⟩
    · simp only [k1, numOf_numB t0 t1]; omega
    · simp only [k2, numOf_numB g0 g1]; omega
  rw [if_pos hok, k1, k2, numOf_numB t0 t1, numOf_numB g0 g1]
theorem readL_retryB {ver : Int} {ts fr : List Int} {token tag : Int} (h : BodyOk ver ts fr token ∧ 1 ≤ tag ∧ tag ≤ 65536) : readL (retryB ver ts fr token tag) = none := by
  unfold readL
  rw [retryB_head h, startP_first (by decide)]
theorem headB_byt {f v : Int} {ts fr : List Int} (h0 : 0 ≤ f) (h1 : f ≤ 255) (ht : Byt ts) (hf : Byt fr) (hn : NamesOk ts fr) : Byt (headB f v ts fr) := by
  intro x hx
  simp only [headB, List.mem_cons, List.mem_append] at hx
  obtain ⟨n1, n2⟩ := hn
  rcases hx with rfl | hx | (rfl | hx) | (rfl | hx)
  · omega
  · exact bigB_byt v x hx
  · omega
  · exact ht x hx
  · omega
  · exact hf x hx
theorem bigs_byt (vs : List Int) : Byt (bigs vs) := by
  intro x hx
  simp only [bigs, List.mem_flatMap] at hx
  obtain ⟨v, -, h⟩ := hx
  exact bigB_byt v x h
theorem listB_byt {ts fr vs : List Int} (h : ListOk ts fr vs) (ht : Byt ts) (hf : Byt fr) : Byt (listB ts fr vs) := by
  have e : listB ts fr vs = headB 128 0 ts fr ++ bigs vs := if_pos h
  rw [e]
  intro x hx
  rcases List.mem_append.1 hx with hx | hx
  · exact headB_byt (by decide) (by decide) ht hf h.1 x hx
  · exact bigs_byt vs x hx
theorem retryB_byt {ver : Int} {ts fr : List Int} {token tag : Int} (h : BodyOk ver ts fr token ∧ 1 ≤ tag ∧ tag ≤ 65536) (ht : Byt ts) (hf : Byt fr) : Byt (retryB ver ts fr token tag) := by
  rw [retryB_head h]
  intro x hx
  rcases List.mem_append.1 hx with hx | hx
  · exact headB_byt (by decide) (by decide) ht hf h.1.1 x hx
  · rcases List.mem_append.1 hx with hx | hx
    · exact numB_byt token x hx
    · exact numB_byt tag x hx
end Go.Proofs.Ytomopjpfdmpgpaa
