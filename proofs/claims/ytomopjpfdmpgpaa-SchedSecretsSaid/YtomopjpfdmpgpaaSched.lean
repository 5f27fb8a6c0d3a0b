/- What the functions of layer 15 do with a table. No condition. -/
import Derived.Test.YtomopjpfdmpgpaaPureSched
import Derived.Test.YtomopjpfdmpgpaaFit
set_option linter.unusedVariables false
set_option linter.unusedSimpArgs false
namespace Go.Proofs.Ytomopjpfdmpgpaa
open Go Go.RowKit Go.WideMaps

/-- "client in" -/
def lbClientIn : ByteArray := ⟨#[99, 108, 105, 101, 110, 116, 32, 105, 110]⟩
/-- "server in" -/
def lbServerIn : ByteArray := ⟨#[115, 101, 114, 118, 101, 114, 32, 105, 110]⟩
/-- "early" -/
def lbEarly : ByteArray := ⟨#[101, 97, 114, 108, 121]⟩
/-- "client early" -/
def lbClientEarly : ByteArray := ⟨#[99, 108, 105, 101, 110, 116, 32, 101, 97, 114, 108, 121]⟩
/-- "handshake" -/
def lbHandshake : ByteArray := ⟨#[104, 97, 110, 100, 115, 104, 97, 107, 101]⟩
/-- "client hs" -/
def lbClientHs : ByteArray := ⟨#[99, 108, 105, 101, 110, 116, 32, 104, 115]⟩
/-- "server hs" -/
def lbServerHs : ByteArray := ⟨#[115, 101, 114, 118, 101, 114, 32, 104, 115]⟩
/-- "main" -/
def lbMain : ByteArray := ⟨#[109, 97, 105, 110]⟩
/-- "client app" -/
def lbClientApp : ByteArray := ⟨#[99, 108, 105, 101, 110, 116, 32, 97, 112, 112]⟩
/-- "server app" -/
def lbServerApp : ByteArray := ⟨#[115, 101, 114, 118, 101, 114, 32, 97, 112, 112]⟩
/-- "resume" -/
def lbResume : ByteArray := ⟨#[114, 101, 115, 117, 109, 101]⟩
/-- "finished" -/
def lbFinished : ByteArray := ⟨#[102, 105, 110, 105, 115, 104, 101, 100]⟩
/-- "binder" -/
def lbBinder : ByteArray := ⟨#[98, 105, 110, 100, 101, 114]⟩
/-- "none" -/
def lbNone : ByteArray := ⟨#[110, 111, 110, 101]⟩
/-- "server proof" -/
def lbServerProof : ByteArray := ⟨#[115, 101, 114, 118, 101, 114, 32, 112, 114, 111, 111, 102]⟩

theorem deriveT_range {T : List Nd} {s c : Int} {l : ByteArray} (hT : T.length ≤ 65533) : 0 ≤ (deriveT T s l c).2 ∧ (deriveT T s l c).2 ≤ 65536 := by
  unfold deriveT
  have h1 : Ext 1 T (ctxT T c).1 := by
    unfold ctxT
    split
    · exact textT_ext _ _
    · exact (Ext.refl _).mono (by omega)
  have h2 := (h1.trans (textT_ext (ctxT T c).1 l)).len
  exact makeT_range (by omega)
def behindT (T : List Nd) (l : ByteArray) (s tr : Int) : List Nd × Int := if tr = 0 then (T, 0) else deriveT T s l tr
def pairT (T : List Nd) (l1 l2 : ByteArray) (s tr : Int) : List Nd × Int × Int := ((behindT (behindT T l1 s tr).1 l2 s tr).1, (behindT T l1 s tr).2, (behindT (behindT T l1 s tr).1 l2 s tr).2)
def firstT (T : List Nd) (g : ByteArray) : List Nd × Int × Int := ((deriveT (deriveT (textT T g).1 (textT T g).2 lbClientIn 0).1 (textT T g).2 lbServerIn 0).1, (deriveT (textT T g).1 (textT T g).2 lbClientIn 0).2, (deriveT (deriveT (textT T g).1 (textT T g).2 lbClientIn 0).1 (textT T g).2 lbServerIn 0).2)
def noneT (T : List Nd) (h : Int) : List Nd × Int := if h = 0 then textT T lbNone else (T, h)
def earlyT (T : List Nd) (h : Int) : List Nd × Int := deriveT (noneT T h).1 (noneT T h).2 lbEarly 0
def shakenT (T : List Nd) (e s : Int) : List Nd × Int := deriveT (makeT T 3 [e, s]).1 (makeT T 3 [e, s]).2 lbHandshake 0
def macT (T : List Nd) (l : ByteArray) (k tr : Int) : List Nd × Int := makeT (deriveT T k l 0).1 5 [(deriveT T k l 0).2, tr]
def signedT (T : List Nd) (tr : Int) : List Nd × Int := makeT (textT T lbServerProof).1 3 [(textT T lbServerProof).2, tr]
/-- Is a term the mac of a transcript by a key? -/
def macedT (T : List Nd) (k tr m : Int) : Bool := match getT T m with | some n => decide (n.kind = 5 ∧ nth n.parts 0 = k ∧ nth n.parts 1 = tr) | none => false

def TabPost2 (B tb : Nat) (w : World) (r : List Nd × Int × Int) (e : Ending) (w' : World) : Prop := e = .returned (.tuple #[.int .i64 r.2.1, .int .i64 r.2.2]) ∧ IsTab B w' tb r.1 ∧ Frm tabO B w w'
theorem TabPost2.intro {B tb : Nat} {w w' : World} {T : List Nd} {h g : Int} {r : List Nd × Int × Int} {e : Ending} (hr : r = (T, h, g)) (p : TabPost2 B tb w r e w') : e = .returned (.tuple #[.int .i64 h, .int .i64 g]) ∧ IsTab B w' tb T ∧ Frm tabO B w w' := by
  subst hr; exact p

set_option maxHeartbeats 400000 in
theorem begin_any {B tb : Nat} {T : List Nd} (w : World) (ht : IsTab B w tb T) : Calls Try.prog 18 #[.pointer (some ⟨tb, 0, none⟩)] w (TabPost B tb w (beginT T)) := by
  have key := text_any none 0 0 [] w ht (Rds.nil 0 _ _)
  clear ht
  go_enter Try.func18, Try.ntmps18
  go_wp2_with fail
  refine key.mono ?_
  clear key
  rintro e w1 p
  have P := Lib.hid p
  obtain ⟨rfl, -, -⟩ := p
  go_wp2_with fail
  go_ret
  exact P.out

set_option maxHeartbeats 800000 in
set_option maxRecDepth 100000 in
theorem next_any {B B' tb : Nat} {T : List Nd} (tr : Int) (A : Option Addr) (n c : Nat) (xs : List Int) (w : World) (ht : IsTab B w tb T) (hr : Rds B' w .u8 A n c xs) (hf : Fit tr) :
    Calls Try.prog 19 #[.pointer (some ⟨tb, 0, none⟩), .int .i64 tr, .slice A n c] w (TabPost B tb w (nextT T tr (strOfNums xs))) := by
  have key := text_any A n c xs w ht hr
  have HTl := Lib.hid ht.1.len
  have HF := Lib.hid hf
  clear ht hr hf
  go_enter Try.func19, Try.ntmps19
  go_wp2_with fail
  refine key.mono ?_
  clear key
  rintro e w1 p1
  have r1 := Lib.hid (textT_range (T := T) (b := strOfNums xs) HTl.out)
  obtain ⟨T1, h1, e1, rfl, ht1, hf1⟩ := TabPost.of (Frm.refl _ _ _) p1
  rw [e1] at r1
  have E1 := Lib.hid e1
  have HF1 := Lib.hid hf1
  have HT1 := Lib.hid ht1.1.len
  have key := make_fit (g := w1.heap.size) (t := 32) 3 [tr, h1] w1 ht1 rfl (by have := r1.out; simp; exact ⟨HF.out, fit_of this⟩) (by simp) _ rfl (by decide) 2 rfl
  clear p1 e1 ht1 hf1
  go_wp2_with fail
  refine key.mono ?_
  clear key
  rintro e w2 p2
  have r2 := Lib.hid (makeT_range (T := T1) (k := 3) (p := [tr, h1]) HT1.out)
  obtain ⟨T2, h2, e2, rfl, ht2, hf2⟩ := TabPost.of HF1.out p2
  rw [e2] at r2
  have E2 := Lib.hid e2
  have HF2 := Lib.hid hf2
  have key := make_fit (g := w2.heap.size) (t := 32) 4 [h2] w2 ht2 rfl (by have := r2.out; simp; exact fit_of this) (by simp) _ rfl (by decide) 1 rfl
  clear p2 e2 ht2 hf2
  go_wp2_with fail
  refine key.mono ?_
  clear key
  rintro e w3 p3
  have P3 := Lib.hid (tabPost_next HF2.out p3)
  obtain ⟨rfl, -, -⟩ := p3
  go_wp2_with fail
  go_ret
  have := P3.out
  unfold nextT
  rw [E1.out]
  simp only
  rw [E2.out]
  exact this

set_option maxHeartbeats 400000 in
theorem of_any {B tb : Nat} {T : List Nd} (l : ByteArray) (s c : Int) (w : World) (ht : IsTab B w tb T) (hs : Fit s) (hc : Fit c) (hl : l.size ≤ 1000000) :
    Calls Try.prog 52 #[.string l, .pointer (some ⟨tb, 0, none⟩), .int .i64 s, .int .i64 c] w (TabPost B tb w (deriveT T s l c)) := by
  have key := derive_any s l c w ht hs hc hl
  clear ht
  go_enter Try.func52, Try.ntmps52
  go_wp2_with fail
  refine key.mono ?_
  clear key
  rintro e w1 p
  have P := Lib.hid p
  obtain ⟨rfl, -, -⟩ := p
  go_wp2_with fail
  go_ret
  exact P.out

set_option maxHeartbeats 400000 in
theorem behind_any {B tb : Nat} {T : List Nd} (l : ByteArray) (s tr : Int) (w : World) (ht : IsTab B w tb T) (hs : Fit s) (hc : Fit tr) (hl : l.size ≤ 1000000) :
    Calls Try.prog 53 #[.func (.func 52) #[.string l] #[], .pointer (some ⟨tb, 0, none⟩), .int .i64 s, .int .i64 tr] w (TabPost B tb w (behindT T l s tr)) := by
  have key := of_any l s tr w ht hs hc hl
  by_cases h : tr = 0
  · subst h
    have HE : Hid (behindT T l s 0 = (T, 0)) := if_pos rfl
    have P := Lib.hid (tabPost_same (h := 0) ht (Below.refl _ _))
    clear key ht
    go_enter Try.func53, Try.ntmps53
    go_wp2_with fail
    go_ret
    rw [HE.out]
    exact P.out
  · have HE : Hid (behindT T l s tr = deriveT T s l tr) := if_neg h
    have hb : (tr == 0) = false := by simp [h]
    clear ht h
    go_enter Try.func53, Try.ntmps53
    go_wp2_with fail
    refine key.mono ?_
    clear key
    rintro e w1 p
    have P := Lib.hid p
    obtain ⟨rfl, -, -⟩ := p
    go_wp2_with fail
    go_ret
    rw [HE.out]
    exact P.out


set_option maxHeartbeats 800000 in
theorem mainTraffic_any {B tb : Nat} {T : List Nd} (s tr : Int) (w : World) (ht : IsTab B w tb T) (hs : Fit s) (hc : Fit tr) :
    Calls Try.prog 26 #[.pointer (some ⟨tb, 0, none⟩), .int .i64 s, .int .i64 tr] w (TabPost2 B tb w (pairT T lbClientApp lbServerApp s tr)) := by
  have HS := Lib.hid hs
  have HC := Lib.hid hc
  have key := behind_any lbClientApp s tr w ht hs hc (by decide)
  clear ht hs hc
  go_enter Try.func26, Try.ntmps26
  go_wp2_with fail
  refine key.mono ?_
  clear key
  rintro e w1 p1
  obtain ⟨T1, h1, e1, rfl, ht1, hf1⟩ := TabPost.of (Frm.refl _ _ _) p1
  have E1 := Lib.hid e1
  have HF1 := Lib.hid hf1
  have key := behind_any lbServerApp s tr w1 ht1 HS.out HC.out (by decide)
  clear p1 e1 ht1 hf1
  go_wp2_with fail
  refine key.mono ?_
  clear key
  rintro e w2 p2
  obtain ⟨T2, h2, e2, rfl, ht2, hf2⟩ := TabPost.of HF1.out p2
  have E2 := Lib.hid e2
  have HF2 := Lib.hid hf2
  have HT2 := Lib.hid ht2
  clear p2 e2 ht2 hf2
  go_wp2_with fail
  go_ret2
  unfold TabPost2 pairT
  rw [E1.out]
  simp only
  rw [E2.out]
  exact ⟨rfl, HT2.out, HF2.out⟩


set_option maxHeartbeats 800000 in
theorem shakenTraffic_any {B tb : Nat} {T : List Nd} (s tr : Int) (w : World) (ht : IsTab B w tb T) (hs : Fit s) (hc : Fit tr) :
    Calls Try.prog 25 #[.pointer (some ⟨tb, 0, none⟩), .int .i64 s, .int .i64 tr] w (TabPost2 B tb w (pairT T lbClientHs lbServerHs s tr)) := by
  have HS := Lib.hid hs
  have HC := Lib.hid hc
  have key := behind_any lbClientHs s tr w ht hs hc (by decide)
  clear ht hs hc
  go_enter Try.func25, Try.ntmps25
  go_wp2_with fail
  refine key.mono ?_
  clear key
  rintro e w1 p1
  obtain ⟨T1, h1, e1, rfl, ht1, hf1⟩ := TabPost.of (Frm.refl _ _ _) p1
  have E1 := Lib.hid e1
  have HF1 := Lib.hid hf1
  have key := behind_any lbServerHs s tr w1 ht1 HS.out HC.out (by decide)
  clear p1 e1 ht1 hf1
  go_wp2_with fail
  refine key.mono ?_
  clear key
  rintro e w2 p2
  obtain ⟨T2, h2, e2, rfl, ht2, hf2⟩ := TabPost.of HF1.out p2
  have E2 := Lib.hid e2
  have HF2 := Lib.hid hf2
  have HT2 := Lib.hid ht2
  clear p2 e2 ht2 hf2
  go_wp2_with fail
  go_ret2
  unfold TabPost2 pairT
  rw [E1.out]
  simp only
  rw [E2.out]
  exact ⟨rfl, HT2.out, HF2.out⟩




set_option maxHeartbeats 400000 in
theorem resume_any {B tb : Nat} {T : List Nd} (s tr : Int) (w : World) (ht : IsTab B w tb T) (hs : Fit s) (hc : Fit tr) :
    Calls Try.prog 29 #[.pointer (some ⟨tb, 0, none⟩), .int .i64 s, .int .i64 tr] w (TabPost B tb w (behindT T lbResume s tr)) := by
  have key := behind_any lbResume s tr w ht hs hc (by decide)
  clear ht
  go_enter Try.func29, Try.ntmps29
  go_wp2_with fail
  refine key.mono ?_
  clear key
  rintro e w1 p
  have P := Lib.hid p
  obtain ⟨rfl, -, -⟩ := p
  go_wp2_with fail
  go_ret
  exact P.out


set_option maxHeartbeats 400000 in
theorem main_any {B tb : Nat} {T : List Nd} (s : Int) (w : World) (ht : IsTab B w tb T) (hs : Fit s) :
    Calls Try.prog 24 #[.pointer (some ⟨tb, 0, none⟩), .int .i64 s] w (TabPost B tb w (deriveT T s lbMain 0)) := by
  have key := of_any lbMain s 0 w ht hs (fit_of (by omega)) (by decide)
  clear ht
  go_enter Try.func24, Try.ntmps24
  go_wp2_with fail
  refine key.mono ?_
  clear key
  rintro e w1 p
  have P := Lib.hid p
  obtain ⟨rfl, -, -⟩ := p
  go_wp2_with fail
  go_ret
  exact P.out


set_option maxHeartbeats 800000 in
theorem finished_any {B tb : Nat} {T : List Nd} (k tr : Int) (w : World) (ht : IsTab B w tb T) (hs : Fit k) (hc : Fit tr) (hT : T.length ≤ 65533) :
    Calls Try.prog 28 #[.pointer (some ⟨tb, 0, none⟩), .int .i64 k, .int .i64 tr] w (TabPost B tb w (macT T lbFinished k tr)) := by
  have HC := Lib.hid hc
  have key := of_any lbFinished k 0 w ht hs (fit_of (by omega)) (by decide)
  clear ht hc
  go_enter Try.func28, Try.ntmps28
  go_wp2_with fail
  refine key.mono ?_
  clear key
  rintro e w1 p1
  have r1 := Lib.hid (deriveT_range (T := T) (s := k) (c := 0) (l := lbFinished) hT)
  obtain ⟨T1, h1, e1, rfl, ht1, hf1⟩ := TabPost.of (Frm.refl _ _ _) p1
  rw [e1] at r1
  have E1 := Lib.hid e1
  have HF1 := Lib.hid hf1
  have key := make_fit (g := w1.heap.size) (t := 32) 5 [h1, tr] w1 ht1 rfl (by have := r1.out; simp; exact ⟨fit_of this, HC.out⟩) (by simp) _ rfl (by decide) 2 rfl
  clear p1 e1 ht1 hf1
  go_wp2_with fail
  refine key.mono ?_
  clear key
  rintro e w3 p3
  have P3 := Lib.hid (tabPost_next HF1.out p3)
  obtain ⟨rfl, -, -⟩ := p3
  go_wp2_with fail
  go_ret
  have := P3.out
  unfold macT
  rw [E1.out]
  exact this




set_option maxHeartbeats 800000 in
theorem shaken_any {B tb : Nat} {T : List Nd} (e0 s : Int) (w : World) (ht : IsTab B w tb T) (he : Fit e0) (hs : Fit s) :
    Calls Try.prog 22 #[.pointer (some ⟨tb, 0, none⟩), .int .i64 e0, .int .i64 s] w (TabPost B tb w (shakenT T e0 s)) := by
  have HTl := Lib.hid ht.1.len
  have key := make_fit (g := w.heap.size) (t := 32) 3 [e0, s] w ht rfl (by simp; exact ⟨he, hs⟩) (by simp) _ rfl (by decide) 2 rfl
  clear ht
  go_enter Try.func22, Try.ntmps22
  go_wp2_with fail
  refine key.mono ?_
  clear key
  rintro e w1 p1
  have r1 := Lib.hid (makeT_range (T := T) (k := 3) (p := [e0, s]) HTl.out)
  obtain ⟨T1, h1, e1, rfl, ht1, hf1⟩ := TabPost.of (Frm.refl _ _ _) p1
  rw [e1] at r1
  have E1 := Lib.hid e1
  have HF1 := Lib.hid hf1
  have key := of_any lbHandshake h1 0 w1 ht1 (fit_of r1.out) (fit_of (by omega)) (by decide)
  clear p1 e1 ht1 hf1
  go_wp2_with fail
  refine key.mono ?_
  clear key
  rintro e w3 p3
  have P3 := Lib.hid (tabPost_next HF1.out p3)
  obtain ⟨rfl, -, -⟩ := p3
  go_wp2_with fail
  go_ret
  have := P3.out
  unfold shakenT
  rw [E1.out]
  exact this

set_option maxHeartbeats 800000 in
theorem first_any {B B' tb : Nat} {T : List Nd} (A : Option Addr) (n c : Nat) (xs : List Int) (w : World) (ht : IsTab B w tb T) (hr : Rds B' w .u8 A n c xs) (hT : T.length ≤ 65530) :
    Calls Try.prog 27 #[.pointer (some ⟨tb, 0, none⟩), .slice A n c] w (TabPost2 B tb w (firstT T (strOfNums xs))) := by
  have HTl := Lib.hid ht.1.len
  have key := text_any A n c xs w ht hr
  clear ht hr
  go_enter Try.func27, Try.ntmps27
  go_wp2_with fail
  refine key.mono ?_
  clear key
  rintro e w1 p1
  have r1 := Lib.hid (textT_range (T := T) (b := strOfNums xs) HTl.out)
  obtain ⟨T1, h1, e1, rfl, ht1, hf1⟩ := TabPost.of (Frm.refl _ _ _) p1
  rw [e1] at r1
  have E1 := Lib.hid e1
  have HF1 := Lib.hid hf1
  have key := of_any lbClientIn h1 0 w1 ht1 (fit_of r1.out) (fit_of (by omega)) (by decide)
  clear p1 e1 ht1 hf1
  go_wp2_with fail
  refine key.mono ?_
  clear key
  rintro e w2 p2
  obtain ⟨T2, h2, e2, rfl, ht2, hf2⟩ := TabPost.of HF1.out p2
  have E2 := Lib.hid e2
  have HF2 := Lib.hid hf2
  have key := of_any lbServerIn h1 0 w2 ht2 (fit_of r1.out) (fit_of (by omega)) (by decide)
  clear p2 e2 ht2 hf2
  go_wp2_with fail
  refine key.mono ?_
  clear key
  rintro e w3 p3
  obtain ⟨T3, h3, e3, rfl, ht3, hf3⟩ := TabPost.of HF2.out p3
  have E3 := Lib.hid e3
  have HF3 := Lib.hid hf3
  have HT3 := Lib.hid ht3
  clear p3 e3 ht3 hf3
  go_wp2_with fail
  go_ret2
  unfold TabPost2 firstT
  rw [E1.out]
  simp only
  rw [E2.out]
  simp only
  rw [E3.out]
  exact ⟨rfl, HT3.out, HF3.out⟩
end Go.Proofs.Ytomopjpfdmpgpaa
