/- Plain: who knows neither share nor ticket makes no secret (layer 15). No condition. -/
import Derived.Test.YtomopjpfdmpgpaaPureSched
import Derived.Test.YtomopjpfdmpgpaaPureKnow2
import Derived.Test.YtomopjpfdmpgpaaKnow12
set_option linter.unusedVariables false
set_option linter.unusedSimpArgs false
namespace Go.Proofs.Ytomopjpfdmpgpaa
open Go Go.RowKit

/-- Where nothing that follows is opened: what is out of reach stays so. -/
theorem can_block2 {T : List Nd} {S F C : Int → Prop} (hb : ∀ h n, getT T h = some n → S h → F h) (hf : ∀ h, F h → C h)
    (hk : ∀ h n, getT T h = some n → F h → n.kind ≠ 3 ∧ n.kind ≠ 9 ∧ n.kind ≠ 10)
    (hc : ∀ h n, getT T h = some n → ¬ C h → n.kind = 2 ∨ (n.kind = 8 ∧ ¬ C (nth n.parts 0) ∧ ¬ C (nth n.parts 1)) ∨ (n.kind ≠ 1 ∧ n.kind ≠ 8 ∧ ∃ p ∈ n.parts, ¬ C p)) {h : Int} (k : Kn T S false h) : C h := by
  refine k.cle (F := F) ⟨hb, ?_, ?_, ?_, hf, ?_, ?_, ?_, ?_, ?_⟩
  · intro h n p hg e _ f; exact absurd e (hk h n hg f).1
  · intro h n p hg e _ f; exact absurd e (hk h n hg f).2.1
  · intro h n p hg e _ f c; exact absurd e (hk h n hg f).2.2
  · intro h n hg e
    refine Classical.byContradiction fun q => ?_
    rcases hc h n hg q with a | ⟨a, -⟩ | ⟨a, -⟩ <;> omega
  · intro h n hg e c1 c2
    refine Classical.byContradiction fun q => ?_
    rcases hc h n hg q with a | ⟨-, a, -⟩ | ⟨-, a, -⟩
    · omega
    · exact a c1
    · exact a e
  · intro h n q m hg e c _ _ _ _
    refine Classical.byContradiction fun q => ?_
    rcases hc h n hg q with a | ⟨-, a, -⟩ | ⟨-, a, -⟩
    · omega
    · exact a c
    · exact a e
  · intro h n q m hg e c _ _ _ _
    refine Classical.byContradiction fun q => ?_
    rcases hc h n hg q with a | ⟨-, -, a⟩ | ⟨-, a, -⟩
    · omega
    · exact a c
    · exact a e
  · intro h n hg e2 e8 hp
    refine Classical.byContradiction fun q => ?_
    rcases hc h n hg q with a | ⟨a, -⟩ | ⟨-, -, p, a, b⟩
    · exact e2 a
    · exact e8 a
    · exact b (hp p a)
theorem can_der {T : List Nd} {S : Int → Prop} {z s c : Int} (h : ∃ l, DerAt T z s l c) (hs : Kn T S false s) (hc : Kn T S false c) : Kn T S false z := by
  obtain ⟨l, ha, h1, h2⟩ := h
  refine .made h1 (by show (6 : Int) ≠ 2; decide) (by show (6 : Int) ≠ 8; decide) fun p hp => ?_
  simp only [List.mem_cons, List.not_mem_nil, or_false] at hp
  rcases hp with rfl | rfl | rfl
  · exact hs
  · exact .text h2 rfl
  · exact hc
theorem can_der0 {T : List Nd} {S : Int → Prop} {z s : Int} (h : ∃ l, Der0 T z s l) (hs : Kn T S false s) : Kn T S false z := by
  obtain ⟨l, c, h1, h2⟩ := h
  exact can_der ⟨l, h1⟩ hs (.text h2 rfl)
theorem der_node {T : List Nd} {z s c : Int} (h : ∃ l, DerAt T z s l c) : ∃ n, getT T z = some n ∧ n.kind = 6 ∧ s ∈ n.parts := by
  obtain ⟨l, ha, h1, h2⟩ := h
  exact ⟨_, h1, rfl, by simp⟩
theorem der0_node {T : List Nd} {z s : Int} (h : ∃ l, Der0 T z s l) : ∃ n, getT T z = some n ∧ n.kind = 6 ∧ s ∈ n.parts := by
  obtain ⟨l, c, h1, h2⟩ := h
  exact der_node ⟨l, h1⟩
/-- All that stands in the table behind the shares. -/
structure Sec15 (T : List Nd) (x y p q tr own E sh row s m c1 s1 c2 s2 r d1 f1 d2 f2 : Int) : Prop where
  gx : getT T x = some ⟨2, ByteArray.empty, []⟩
  gy : getT T y = some ⟨2, ByteArray.empty, []⟩
  gp : getT T p = some ⟨7, ByteArray.empty, [x]⟩
  gq : getT T q = some ⟨7, ByteArray.empty, [y]⟩
  gtr : ∃ n, getT T tr = some n ∧ (n.kind = 1 ∨ n.kind = 4)
  gown : ∃ b, getT T own = some (nT b)
  ge : ∃ l, Der0 T E own l
  gsh : getT T sh = some ⟨8, ByteArray.empty, sort2 x y⟩
  grow : getT T row = some ⟨3, ByteArray.empty, [E, sh]⟩
  gs : ∃ l, Der0 T s row l
  gm : ∃ l, Der0 T m s l
  gc1 : ∃ l, DerAt T c1 s l tr
  gs1 : ∃ l, DerAt T s1 s l tr
  gc2 : ∃ l, DerAt T c2 m l tr
  gs2 : ∃ l, DerAt T s2 m l tr
  gr : ∃ l, DerAt T r m l tr
  gd1 : ∃ l, Der0 T d1 c1 l
  gf1 : getT T f1 = some ⟨5, ByteArray.empty, [d1, tr]⟩
  gd2 : ∃ l, Der0 T d2 s1 l
  gf2 : getT T f2 = some ⟨5, ByteArray.empty, [d2, tr]⟩
def badL (x y sh row s m c1 s1 c2 s2 r d1 d2 : Int) : List Int := [x, y, sh, row, s, m, c1, s1, c2, s2, r, d1, d2]
theorem sort2_two (x y : Int) : (nth (sort2 x y) 0 = x ∧ nth (sort2 x y) 1 = y) ∨ (nth (sort2 x y) 0 = y ∧ nth (sort2 x y) 1 = x) := by
  unfold sort2
  split
  · exact .inr ⟨rfl, rfl⟩
  · exact .inl ⟨rfl, rfl⟩
theorem Sec15.bad {T : List Nd} {x y p q tr own E sh row s m c1 s1 c2 s2 r d1 f1 d2 f2 : Int} (a : Sec15 T x y p q tr own E sh row s m c1 s1 c2 s2 r d1 f1 d2 f2) :
    ∀ h ∈ badL x y sh row s m c1 s1 c2 s2 r d1 d2, ∃ n, getT T h = some n ∧ (n.kind = 2 ∨ (n.kind = 8 ∧ nth n.parts 0 ∈ badL x y sh row s m c1 s1 c2 s2 r d1 d2 ∧ nth n.parts 1 ∈ badL x y sh row s m c1 s1 c2 s2 r d1 d2) ∨ ((n.kind = 3 ∨ n.kind = 6) ∧ ∃ p ∈ n.parts, p ∈ badL x y sh row s m c1 s1 c2 s2 r d1 d2)) := by
  intro h hh
  have six : ∀ {z t : Int}, (∃ n, getT T z = some n ∧ n.kind = 6 ∧ t ∈ n.parts) → t ∈ badL x y sh row s m c1 s1 c2 s2 r d1 d2 → ∃ n, getT T z = some n ∧ (n.kind = 2 ∨ (n.kind = 8 ∧ nth n.parts 0 ∈ badL x y sh row s m c1 s1 c2 s2 r d1 d2 ∧ nth n.parts 1 ∈ badL x y sh row s m c1 s1 c2 s2 r d1 d2) ∨ ((n.kind = 3 ∨ n.kind = 6) ∧ ∃ p ∈ n.parts, p ∈ badL x y sh row s m c1 s1 c2 s2 r d1 d2)) := by
    rintro z t ⟨n, g, k, ht⟩ hb
    exact ⟨n, g, .inr (.inr ⟨.inr k, t, ht, hb⟩)⟩
  have hh' := hh
  unfold badL at hh'
  simp only [List.mem_cons, List.not_mem_nil, or_false] at hh'
  rcases hh' with e | e | e | e | e | e | e | e | e | e | e | e | e <;> subst h
  · exact ⟨_, a.gx, .inl rfl⟩
  · exact ⟨_, a.gy, .inl rfl⟩
  · refine ⟨_, a.gsh, .inr (.inl ⟨rfl, ?_⟩)⟩
    rcases sort2_two x y with ⟨h0, h1⟩ | ⟨h0, h1⟩
    · show nth (sort2 x y) 0 ∈ _ ∧ nth (sort2 x y) 1 ∈ _
      rw [h0, h1]; simp [badL]
    · show nth (sort2 x y) 0 ∈ _ ∧ nth (sort2 x y) 1 ∈ _
      rw [h0, h1]; simp [badL]
  · exact ⟨_, a.grow, .inr (.inr ⟨.inl rfl, sh, by simp, by simp [badL]⟩)⟩
  · exact six (der0_node a.gs) (by simp [badL])
  · exact six (der0_node a.gm) (by simp [badL])
  · exact six (der_node a.gc1) (by simp [badL])
  · exact six (der_node a.gs1) (by simp [badL])
  · exact six (der_node a.gc2) (by simp [badL])
  · exact six (der_node a.gs2) (by simp [badL])
  · exact six (der_node a.gr) (by simp [badL])
  · exact six (der0_node a.gd1) (by simp [badL])
  · exact six (der0_node a.gd2) (by simp [badL])
theorem Sec15.seen {T : List Nd} {x y p q tr own E sh row s m c1 s1 c2 s2 r d1 f1 d2 f2 : Int} (a : Sec15 T x y p q tr own E sh row s m c1 s1 c2 s2 r d1 f1 d2 f2) :
    ∀ h ∈ [p, q, tr, f1, f2], ∃ n, getT T h = some n ∧ (n.kind = 7 ∨ n.kind = 1 ∨ n.kind = 4 ∨ n.kind = 5) := by
  intro h hh
  simp only [List.mem_cons, List.not_mem_nil, or_false] at hh
  rcases hh with rfl | rfl | rfl | rfl | rfl
  · exact ⟨_, a.gp, .inl rfl⟩
  · exact ⟨_, a.gq, .inl rfl⟩
  · obtain ⟨n, g, k⟩ := a.gtr
    exact ⟨n, g, by rcases k with k | k <;> omega⟩
  · exact ⟨_, a.gf1, .inr (.inr (.inr rfl))⟩
  · exact ⟨_, a.gf2, .inr (.inr (.inr rfl))⟩
theorem Sec15.no {T : List Nd} {x y p q tr own E sh row s m c1 s1 c2 s2 r d1 f1 d2 f2 : Int} (a : Sec15 T x y p q tr own E sh row s m c1 s1 c2 s2 r d1 f1 d2 f2) :
    ∀ z ∈ [s, m, c1, s1, c2, s2, r], knB T (inT T [p, q, tr, f1, f2]) false z = false := by
  intro z hz
  cases h9 : knB T (inT T [p, q, tr, f1, f2]) false z with
  | false => rfl
  | true =>
    exfalso
    refine can_block2 (F := fun h => h ∈ [p, q, tr, f1, f2]) (C := fun h => h ∉ badL x y sh row s m c1 s1 c2 s2 r d1 d2) (fun _ _ _ k => k.1) ?_ ?_ ?_ (knB_true.1 h9) ?_
    · intro h hh hb
      obtain ⟨n, g, k⟩ := a.seen h hh
      obtain ⟨n', g', k'⟩ := a.bad h hb
      rw [g] at g'; cases g'
      rcases k' with k' | ⟨k', -⟩ | ⟨k', -⟩ <;> omega
    · intro h n hg hh
      obtain ⟨n', g, k⟩ := a.seen h hh
      rw [g] at hg; cases hg
      omega
    · intro h n hg hb
      obtain ⟨n', g', k'⟩ := a.bad h (Classical.byContradiction hb)
      rw [hg] at g'; cases g'
      rcases k' with k' | ⟨k', b0, b1⟩ | ⟨k', p', b0, b1⟩
      · exact .inl k'
      · exact .inr (.inl ⟨k', fun q => q b0, fun q => q b1⟩)
      · exact .inr (.inr ⟨by omega, by omega, p', b0, fun q => q b1⟩)
    · simp only [List.mem_cons, List.not_mem_nil, or_false] at hz
      rcases hz with rfl | rfl | rfl | rfl | rfl | rfl | rfl <;> simp [badL]
theorem Sec15.yes {T : List Nd} {x y p q tr own E sh row s m c1 s1 c2 s2 r d1 f1 d2 f2 : Int} (a : Sec15 T x y p q tr own E sh row s m c1 s1 c2 s2 r d1 f1 d2 f2) :
    ∀ z ∈ [s, m, c1, s1, c2, s2, r], knB T (inT T [p, q, tr, f1, f2, x]) false z = true := by
  have bs : ∀ {h : Int} {n : Nd}, getT T h = some n → h ∈ [p, q, tr, f1, f2, x] → Kn T (inT T [p, q, tr, f1, f2, x]) true h := fun g hm => .base g ⟨hm, getT_range g⟩
  have kx : Kn T (inT T [p, q, tr, f1, f2, x]) false x := .fol (bs a.gx (by simp))
  have kq := bs a.gq (by simp)
  have ktr : Kn T (inT T [p, q, tr, f1, f2, x]) false tr := by
    obtain ⟨n, g, -⟩ := a.gtr
    exact .fol (bs g (by simp))
  have ksh : Kn T (inT T [p, q, tr, f1, f2, x]) false sh := by
    rcases sort2_two x y with ⟨h0, h1⟩ | ⟨h0, h1⟩
    · exact .left a.gsh rfl (by show Kn _ _ false (nth (sort2 x y) 0); rw [h0]; exact kx) a.gq rfl h1.symm kq
    · exact .right a.gsh rfl (by show Kn _ _ false (nth (sort2 x y) 1); rw [h1]; exact kx) a.gq rfl h0.symm kq
  have kE := can_der0 (S := inT T [p, q, tr, f1, f2, x]) a.ge (by obtain ⟨b, hb⟩ := a.gown; exact .text hb rfl)
  have krow : Kn T (inT T [p, q, tr, f1, f2, x]) false row := .made a.grow (by show (3 : Int) ≠ 2; decide) (by show (3 : Int) ≠ 8; decide) fun p' hp => by
    simp only [List.mem_cons, List.not_mem_nil, or_false] at hp
    rcases hp with rfl | rfl
    · exact kE
    · exact ksh
  have ks := can_der0 a.gs krow
  have km := can_der0 a.gm ks
  intro z hz
  refine knB_true.2 ?_
  simp only [List.mem_cons, List.not_mem_nil, or_false] at hz
  rcases hz with rfl | rfl | rfl | rfl | rfl | rfl | rfl
  · exact ks
  · exact km
  · exact can_der a.gc1 ks ktr
  · exact can_der a.gs1 ks ktr
  · exact can_der a.gc2 km ktr
  · exact can_der a.gs2 km ktr
  · exact can_der a.gr km ktr
theorem first_can {T : List Nd} {S : Int → Prop} {z g : Int} {l b : ByteArray} (h : Der0 T z g l) (hg : getT T g = some (nT b)) : knB T S false z = true := knB_true.2 (can_der0 ⟨_, h⟩ (.text hg rfl))
end Go.Proofs.Ytomopjpfdmpgpaa
