/- Own texts, one behind the other. Each bears its own remark. -/
import Derived.Test.YtmaedahleenlgaaDoorPureTicket
import Derived.Test.YtmaedahleenlgaaDoorVarBytes
import Derived.Test.YtmaedahleenlgaaDoorCut
import Derived.Test.YtmaedahleenlgaaDoorLater
import Derived.Deep.RegionHeld3
import Derived.Test.YtmaedahleenlgaaDoorOpens
import Derived.Test.YtmaedahleenlgaaDoorZero
import Derived.Test.YtmaedahleenlgaaDoorPureSched
import Derived.Test.YtmaedahleenlgaaDoorFit
import Derived.Test.YtmaedahleenlgaaDoorOpenAll
import Derived.Test.YtmaedahleenlgaaDoorStoreRow
/- Three numbers of layer 17: the reference's Read and Text, the program's numbers. No condition. -/
set_option linter.unusedVariables false
set_option linter.unusedSimpArgs false
namespace Go.Proofs.YtmaedahleenlgaaDoor
open Go Go.RowKit

def Tk17Post (xs : List Int) (w : World) (e : Ending) (w' : World) : Prop :=
  e = .returned (.tuple #[.agg #[.int .i64 (tkV xs).1, .int .i64 (tkV xs).2.1, .int .i64 (tkV xs).2.2], .bool (readT xs).isSome]) ∧ Below w.heap.size w w'
theorem Tk17Post.no {xs : List Int} {w w' : World} (h : readT xs = none) (hb : Below w.heap.size w w') : Tk17Post xs w (.returned (.tuple #[.agg #[.int .i64 0, .int .i64 0, .int .i64 0], .bool false])) w' := by
  refine ⟨?_, hb⟩
  unfold tkV
  rw [h]; rfl
theorem Tk17Post.yes {xs : List Int} {w w' : World} {a b c : Int} (h : readT xs = some (a, b, c)) (hb : Below w.heap.size w w') : Tk17Post xs w (.returned (.tuple #[.agg #[.int .i64 a, .int .i64 b, .int .i64 c], .bool true])) w' := by
  refine ⟨?_, hb⟩
  unfold tkV
  rw [h]; rfl

set_option maxRecDepth 100000 in
/-- append(s, x...) of bytes inside a region that draws its order. -/
theorem step_app_u8 {ops : Array Oper} {o : Oper} {a : Act} {w : World} {K : Act → World → Prop} {Q : Exit → Act → World → Prop} {E : Prop} (hgd : o.guard = none) (s x : Operand)
    (ho : o.op = .call { callee := .builtin .append, args := #[s, x], argTypes := #[22, 22] })
    {B : Nat} {v : Value} {xs ys : List Int} {A : Option Addr} {m c : Nat} (hv : a.eval s = v) (hx : a.eval x = .slice A m c) (hown : OwnI w B .u8 v xs) (hr : RdI w .u8 A ys) (hm : ys.length = m) (hB : B ≤ w.heap.size) (hbytes : xs.length + m ≤ 140737488355328)
    (hK : ∀ v' w', OwnI w' B .u8 v' (xs ++ ys) → w.grownBy w' v.ownBlock → Below B w w' → K (a.put o.dst v') w') : if Region.wanted o (yielded ops a.tmps) = true then Oper.wp Tryd.prog o a w K Q else E := by
  have hw : Region.wanted o (yielded ops a.tmps) = true := by simp [Region.wanted, hgd]
  rw [if_pos hw]
  obtain ⟨i, hi, hz0, hz1, hz2⟩ := info_parts info_u8
  obtain ⟨v', w', hrun, h1, h2, h3⟩ := run_app (P := Tryd.prog) (w := w) 22 o.type 5 i (.int .u8 0) .u8 1 Tryd.underlying22 hi hz0 hz1 hz2 rfl sp_u8 hown hr hm hB (by omega) (by omega)
  exact Lib.wp_append_run w s x _ _ ho v _ hv hx v' w' hrun (hK v' w' h1 h2 h3)

end Go.Proofs.YtmaedahleenlgaaDoor

/- Three numbers of layer 17: the program's. No condition. -/
set_option linter.unusedVariables false
set_option linter.unusedSimpArgs false
namespace Go.Proofs.YtmaedahleenlgaaDoor
open Go Go.RowKit

def NumsPost (xs : List Int) (w : World) (e : Ending) (w' : World) : Prop :=
  ∃ a b c ok, e = .returned (.tuple #[.agg #[.int .i64 a, .int .i64 b, .int .i64 c], .bool ok]) ∧ (ok = true → readT xs = some (a, b, c)) ∧ (ok = false → readT xs = none) ∧ Below w.heap.size w w'
theorem NumsPost.no {xs : List Int} {w w' : World} {a b c : Int} (h : readT xs = none) (hb : Below w.heap.size w w') : NumsPost xs w (.returned (.tuple #[.agg #[.int .i64 a, .int .i64 b, .int .i64 c], .bool false])) w' :=
  ⟨a, b, c, false, rfl, by simp, fun _ => h, hb⟩
theorem NumsPost.yes {xs : List Int} {w w' : World} {a b c : Int} (h : readT xs = some (a, b, c)) (hb : Below w.heap.size w w') : NumsPost xs w (.returned (.tuple #[.agg #[.int .i64 a, .int .i64 b, .int .i64 c], .bool true])) w' :=
  ⟨a, b, c, true, rfl, fun _ => h, by simp, hb⟩

set_option maxHeartbeats 3200000 in
set_option maxRecDepth 100000 in
theorem nums_any {B : Nat} (A : Option Addr) (n c : Nat) (xs : List Int) (w : World) (h : Rds B w .u8 A n c xs) (hb : Byt xs) (hn : n ≤ 1000000) :
    Calls Tryd.prog 40 #[.slice A n c] w (NumsPost xs w) := by
  have H0 := Lib.hid h
  have HR := Lib.hid (h.below (below_new (.cells #[.int .i64 0, .int .i64 0, .int .i64 0] 84)))
  have HL := Lib.hid h.len
  have HY := Lib.hid hb
  have key := vread_any A n c xs _ HR.out hb
  clear h hb
  go_enter Tryd.func40, Tryd.ntmps40
  go_wp2_with fail
  refine wp_loop_rounds 4 ?_
  rw [rounds_succ]
  go_wp2_with fail
  refine key.mono ?_
  clear key
  rintro e w1 ⟨rfl, rfl⟩
  obtain ⟨a, s1, e1, hr1⟩ : ∃ a s e, readV xs = (a, s, e) := ⟨_, _, _, rfl⟩
  have R1 : Hid (rd1 xs = (a, s1, e1)) := hr1
  have hs1 := readV_size (xs := xs)
  rw [hr1] at hs1 ⊢
  simp only at hs1 ⊢
  have hs1n : s1 ≤ n := by have := HL.out; omega
  clear hr1 hs1
  by_cases he1 : e1 = 0
  rotate_left
  · have HN : Hid (readT xs = none) := readT_no fun k => by rw [R1.out] at k; exact he1 k.1
    have hb1 : (e1 != 0) = true := by simp [he1]
    clear he1
    go_wp2_with fail
    go_returns
    exact NumsPost.no HN.out (below_new _)
  subst he1
  go_wp2_with fail
  obtain ⟨A', hA'⟩ : ∃ A', A' = cutA A s1 c := ⟨_, rfl⟩
  have HR2 : Hid (Rds B (w.alloc (.cells #[.int .i64 0, .int .i64 0, .int .i64 0] 84)) .u8 A' (n - s1) (c - s1) (xs.drop s1)) := by rw [hA']; exact HR.out.cut hs1n
  have hif : (if c = s1 then A else Option.map (fun x => x.add s1) A) = A' := by rw [hA']; unfold cutA; simp
  have hif2 : (if c = s1 then A else Option.map (fun x => x.add (s1 * 1)) A) = A' := by rw [hA']; unfold cutA; simp
  have HA' := Lib.hid hA'
  clear hA'
  go_region
  clear hif hif2
  have HB1 : Hid (Below w.heap.size w ((w.alloc (.cells #[.int .i64 a, .int .i64 0, .int .i64 0] 84)).drew)) := (below_new _).drew
  have HS1 : Hid (Rds B ((w.alloc (.cells #[.int .i64 a, .int .i64 0, .int .i64 0] 84)).drew) .u8 A' (n - s1) (c - s1) (xs.drop s1)) := by rw [HA'.out]; exact ((H0.out.below HB1.out).cut hs1n)
  have key := vread_any _ _ _ _ _ HS1.out (fun x hx => HY.out x (List.mem_of_mem_drop hx))
  clear HR HR2
  go_wp2_with fail
  rw [rounds_succ]
  go_wp2_with fail
  refine key.mono ?_
  clear key
  rintro e w2 ⟨rfl, rfl⟩
  obtain ⟨b, s2, e2, hr2⟩ : ∃ a s e, readV (xs.drop s1) = (a, s, e) := ⟨_, _, _, rfl⟩
  have R2 : Hid (rd2 xs = (b, s2, e2)) := by show rd2 xs = _; unfold rd2; rw [R1.out]; exact hr2
  have hs2 := readV_size (xs := xs.drop s1)
  rw [hr2] at hs2 ⊢
  simp only [List.length_drop] at hs2 ⊢
  have hs2n : s2 ≤ n - s1 := by have := HL.out; omega
  clear hr2 hs2
  by_cases he2 : e2 = 0
  rotate_left
  · have HN : Hid (readT xs = none) := readT_no fun k => by rw [R2.out] at k; exact he2 k.2.1
    have hb1 : (e2 != 0) = true := by simp [he2]
    clear he2
    go_wp2_with fail
    go_returns
    exact NumsPost.no HN.out ((below_new _).drew)
  subst he2
  go_wp2_with fail
  obtain ⟨A2, hA2⟩ : ∃ A2, A2 = cutA A' s2 (c - s1) := ⟨_, rfl⟩
  have hif : (if c - s1 = s2 then A' else Option.map (fun x => x.add s2) A') = A2 := by rw [hA2]; unfold cutA; simp
  have HA2 := Lib.hid hA2
  clear hA2
  have hc2 : n - s1 ≤ c - s1 := HS1.out.cap
  have hs2z : (0 : Int) ≤ s2 := by omega
  have hs2i : (s2 : Int) ≤ ((n - s1 : Nat) : Int) := by omega
  go_region
  clear hif hc2 hs2z hs2i HS1 HB1
  have HB2 : Hid (Below w.heap.size w ((w.alloc (.cells #[.int .i64 a, .int .i64 b, .int .i64 0] 84)).drew.drew)) := (below_new _).drew.drew
  have HS2 : Hid (Rds B ((w.alloc (.cells #[.int .i64 a, .int .i64 b, .int .i64 0] 84)).drew.drew) .u8 A2 (n - s1 - s2) (c - s1 - s2) ((xs.drop s1).drop s2)) := by rw [HA2.out, HA'.out]; exact (((H0.out.below HB2.out).cut hs1n).cut hs2n)
  have key := vread_any _ _ _ _ _ HS2.out (fun x hx => HY.out x (List.mem_of_mem_drop (List.mem_of_mem_drop hx)))
  go_wp2_with fail
  rw [rounds_succ]
  go_wp2_with fail
  refine key.mono ?_
  clear key
  rintro e w3 ⟨rfl, rfl⟩
  obtain ⟨d, s3, e3, hr3⟩ : ∃ a s e, readV ((xs.drop s1).drop s2) = (a, s, e) := ⟨_, _, _, rfl⟩
  have R3 : Hid (rd3 xs = (d, s3, e3)) := by show rd3 xs = _; unfold rd3; rw [R1.out, R2.out]; rw [List.drop_drop] at hr3; exact hr3
  have hs3 := readV_size (xs := (xs.drop s1).drop s2)
  rw [hr3] at hs3 ⊢
  simp only [List.length_drop] at hs3 ⊢
  have hs3n : s3 ≤ n - s1 - s2 := by have := HL.out; omega
  clear hr3 hs3
  by_cases he3 : e3 = 0
  rotate_left
  · have HN : Hid (readT xs = none) := readT_no fun k => by rw [R3.out] at k; exact he3 k.2.2.1
    have hb1 : (e3 != 0) = true := by simp [he3]
    clear he3
    go_wp2_with fail
    go_returns
    exact NumsPost.no HN.out ((below_new _).drew.drew)
  subst he3
  go_wp2_with fail
  obtain ⟨A3, hA3⟩ : ∃ A3, A3 = cutA A2 s3 (c - s1 - s2) := ⟨_, rfl⟩
  have hif : (if c - s1 - s2 = s3 then A2 else Option.map (fun x => x.add s3) A2) = A3 := by rw [hA3]; unfold cutA; simp
  clear hA3
  have hc3 : n - s1 - s2 ≤ c - s1 - s2 := HS2.out.cap
  have hs3z : (0 : Int) ≤ s3 := by omega
  have hs3i : (s3 : Int) ≤ ((n - s1 - s2 : Nat) : Int) := by omega
  go_region
  clear hif hc3 hs3z hs3i HS2
  by_cases hs : s1 + s2 + s3 = n
  rotate_left
  · have HN : Hid (readT xs = none) := readT_no fun k => by rw [R1.out, R2.out, R3.out] at k; have := HL.out; exact hs (k.2.2.2.trans this)
    have hb1 : (((n - s1 - s2 - s3 : Nat) : Int) == 0) = false := by rw [beq_eq_false_iff_ne]; omega
    clear hs
    go_wp2_with fail
    rw [rounds_succ]
    go_wp2_with fail
    go_returns
    exact NumsPost.no HN.out ((below_new _).drew.drew.drew)
  · have HN : Hid (readT xs = some (a, b, d)) := by
      show _ = _
      rw [readT_yes (by rw [R1.out, R2.out, R3.out]; exact ⟨rfl, rfl, rfl, hs.trans HL.out.symm⟩), R1.out, R2.out, R3.out]
    have hb1 : (((n - s1 - s2 - s3 : Nat) : Int) == 0) = true := by rw [beq_iff_eq]; omega
    clear hs
    go_wp2_with fail
    rw [rounds_succ]
    go_wp2_with fail
    go_returns
    exact NumsPost.yes HN.out ((below_new _).drew.drew.drew)
end Go.Proofs.YtmaedahleenlgaaDoor

/- ticket.Issue on a table. No condition but the table of bit places. -/
set_option linter.unusedVariables false
set_option linter.unusedSimpArgs false
namespace Go.Proofs.YtmaedahleenlgaaDoor
open Go Go.RowKit Go.WideMaps

def ticketL : List Int := [116, 105, 99, 107, 101, 116]
def ticketS : ByteArray := ⟨#[116, 105, 99, 107, 101, 116]⟩
theorem ticket_str : strOfNums ticketL = ticketS := by decide
def issueT (T : List Nd) (key v t l s : Int) : List Nd × Int :=
  if sizeV v = 0 ∨ sizeV t = 0 ∨ sizeV l = 0 then (T, 0)
  else sealT (makeT (textT T (strOfNums (textV v t l))).1 3 [(textT T (strOfNums (textV v t l))).2, s]).1 key ticketS (makeT (textT T (strOfNums (textV v t l))).1 3 [(textT T (strOfNums (textV v t l))).2, s]).2

/-- A local ticket. -/
def TkAt (w : World) (g : Nat) (v t l s : Int) : Prop := w.heap[g]? = some (.cells #[.int .i64 v, .int .i64 t, .int .i64 l, .int .i64 s] 61 (0, 0))
theorem TkAt.later {w w' : World} {B g : Nat} {v t l s : Int} (h : TkAt w g v t l s) (hb : Below B w w') (hB : g < B) : TkAt w' g v t l s := (hb.block _ hB).trans h
theorem TkAt.frm {w w' : World} {B g : Nat} {v t l s : Int} (h : TkAt w g v t l s) (hf : Frm tabO B w w') : TkAt w' g v t l s := hf.block _ _ h (.inr rfl)
theorem TkAt.lt {w : World} {g : Nat} {v t l s : Int} (h : TkAt w g v t l s) : g < w.heap.size := lt_of_get h
theorem TkAt.x0 {w : World} {g : Nat} {v t l s : Int} (h : TkAt w g v t l s) : w.cell? ⟨g, 0, none⟩ = some (.int .i64 v) := by rw [cell_of_row w g 0 _ _ _ h]; rfl
theorem TkAt.x1 {w : World} {g : Nat} {v t l s : Int} (h : TkAt w g v t l s) : w.cell? ⟨g, 1, none⟩ = some (.int .i64 t) := by rw [cell_of_row w g 1 _ _ _ h]; rfl
theorem TkAt.x2 {w : World} {g : Nat} {v t l s : Int} (h : TkAt w g v t l s) : w.cell? ⟨g, 2, none⟩ = some (.int .i64 l) := by rw [cell_of_row w g 2 _ _ _ h]; rfl
theorem TkAt.x3 {w : World} {g : Nat} {v t l s : Int} (h : TkAt w g v t l s) : w.cell? ⟨g, 3, none⟩ = some (.int .i64 s) := by rw [cell_of_row w g 3 _ _ _ h]; rfl

set_option maxHeartbeats 6400000 in
set_option maxRecDepth 100000 in
theorem issue_any {B tb : Nat} {T : List Nd} (key v t l s : Int) (w : World) (ht : IsTab B w tb T) (hk : Fit key) (hs : Fit s) (hz : Tz w) :
    Calls Tryd.prog 24 #[.pointer (some ⟨tb, 0, none⟩), .int .i64 key, .agg #[.int .i64 v, .int .i64 t, .int .i64 l, .int .i64 s]] w (TabPost B tb w (issueT T key v t l s)) := by
  obtain ⟨W, hW⟩ : ∃ W, W = w.alloc (.cells #[.int .i64 v, .int .i64 t, .int .i64 l, .int .i64 s] 61) := ⟨_, rfl⟩
  have HBW : Hid (Below w.heap.size w W) := by rw [hW]; exact below_new _
  have HX : Hid (TkAt W w.heap.size v t l s) := by rw [hW]; exact heap_alloc_new w _
  have HT := Lib.hid ht
  have HTW := Lib.hid (ht.below HBW.out)
  have HZ := Lib.hid (hz.later HBW.out)
  have HFk := Lib.hid hk
  have HFs := Lib.hid hs
  have j0 : ∀ w, (Instr.index 84 (.agg #[.int .i64 v, .int .i64 t, .int .i64 l]) (.int .i64 0)).run Tryd.prog w = .ok (.int .i64 v) w := fun _ => by kernel_rfl
  have j1 : ∀ w, (Instr.index 84 (.agg #[.int .i64 v, .int .i64 t, .int .i64 l]) (.int .i64 1)).run Tryd.prog w = .ok (.int .i64 t) w := fun _ => by kernel_rfl
  have j2 : ∀ w, (Instr.index 84 (.agg #[.int .i64 v, .int .i64 t, .int .i64 l]) (.int .i64 2)).run Tryd.prog w = .ok (.int .i64 l) w := fun _ => by kernel_rfl
  have x0 := HX.out.x0
  have x1 := HX.out.x1
  have x2 := HX.out.x2
  have lW := HX.out.lt
  clear ht hk hs hz
  have key1 := vsize_any v W
  go_enter Tryd.func24, Tryd.ntmps24
  go_wp2_with fail
  rw [← hW]
  clear hW x0 x1 x2
  refine wp_loop_rounds 4 ?_
  rw [rounds_succ]
  go_wp2_with fail
  refine key1.mono ?_
  clear key1
  rintro e w1 ⟨rfl, rfl⟩
  by_cases hv : sizeV v = 0
  · have HN : Hid (issueT T key v t l s = (T, 0)) := if_pos (.inl hv)
    have hvb : (((sizeV v : Nat) : Int) == 0) = true := by rw [hv]; rfl
    clear hv
    go_wp2_with fail
    go_ret
    rw [HN.out]
    exact tabPost_same HT.out HBW.out
  have hvb : (((sizeV v : Nat) : Int) == 0) = false := by rw [beq_eq_false_iff_ne]; omega
  have HV := Lib.hid hv
  have l1 := Lib.hid (varB_len v)
  have l2 := Lib.hid (varB_len t)
  have l3 := Lib.hid (varB_len l)
  have m1 := Lib.hid (sizeV_le v)
  have m2 := Lib.hid (sizeV_le t)
  have m3 := Lib.hid (sizeV_le l)
  clear hv
  have key1 := vappend_any none 0 0 [] v W (Rds.nil 0 _ _) (by omega) HZ.out
  go_wp2_with fail
  refine key1.mono ?_
  clear key1
  rintro e w1 ⟨v1, rfl, ho, hb⟩
  rw [List.nil_append] at ho
  obtain ⟨A1, c1, rfl⟩ := ho.slice
  have HO1 := Lib.hid (ho.rds (B' := 0))
  have HX1 := Lib.hid (HX.out.later hb lW)
  have HB1 := Lib.hid (below_next HBW.out HBW.out.size hb)
  have HT1 := Lib.hid (HTW.out.below hb)
  have HZ1 := Lib.hid (HZ.out.later hb)
  have lW1 : w.heap.size < w1.heap.size := HX1.out.lt
  clear ho hb HX HTW HZ lW
  have key1 := vsize_any t w1
  go_wp2_with fail
  rw [rounds_succ]
  go_wp2_with fail
  refine key1.mono ?_
  clear key1
  rintro e w2 ⟨rfl, rfl⟩
  by_cases hv : sizeV t = 0
  · have HN : Hid (issueT T key v t l s = (T, 0)) := if_pos (.inr (.inl hv))
    have hvb' : (((sizeV t : Nat) : Int) == 0) = true := by rw [hv]; rfl
    clear hv
    go_wp2_with fail
    go_ret
    rw [HN.out]
    exact tabPost_same HT.out HB1.out
  have htb : (((sizeV t : Nat) : Int) == 0) = false := by rw [beq_eq_false_iff_ne]; omega
  have HV2 := Lib.hid hv
  clear hv
  have key1 := vappend_any A1 _ c1 (varB v) t w1 HO1.out (by have := l1.out; have := m1.out; omega) HZ1.out
  go_wp2_with fail
  refine key1.mono ?_
  clear key1
  rintro e w2 ⟨v2, rfl, ho, hb⟩
  obtain ⟨ys, hys⟩ : ∃ ys, ys = varB v ++ varB t := ⟨_, rfl⟩
  rw [← hys] at ho
  have HYS := Lib.hid hys
  have LYS : Hid (ys.length = sizeV v + sizeV t) := by show _ = _; rw [hys, List.length_append, l1.out, l2.out]
  clear hys
  obtain ⟨A2, c2, rfl⟩ := ho.slice
  have HO2 := Lib.hid (ho.rds (B' := 0))
  have HX2 := Lib.hid (HX1.out.later hb lW1)
  have HB2 := Lib.hid (below_next HB1.out HB1.out.size hb)
  have HT2 := Lib.hid (HT1.out.below hb)
  have HZ2 := Lib.hid (HZ1.out.later hb)
  have lW2 : w.heap.size < w2.heap.size := HX2.out.lt
  clear ho hb HX1 HT1 HZ1 lW1 HO1 HB1
  have key1 := vsize_any l w2
  go_wp2_with fail
  rw [rounds_succ]
  go_wp2_with fail
  refine key1.mono ?_
  clear key1
  rintro e w3 ⟨rfl, rfl⟩
  by_cases hv : sizeV l = 0
  · have HN : Hid (issueT T key v t l s = (T, 0)) := if_pos (.inr (.inr hv))
    have hvb' : (((sizeV l : Nat) : Int) == 0) = true := by rw [hv]; rfl
    clear hv
    go_wp2_with fail
    go_ret
    rw [HN.out]
    exact tabPost_same HT.out HB2.out
  have hlb : (((sizeV l : Nat) : Int) == 0) = false := by rw [beq_eq_false_iff_ne]; omega
  have HNo : Hid (¬ (sizeV v = 0 ∨ sizeV t = 0 ∨ sizeV l = 0)) := by rintro (h | h | h); exact HV.out h; exact HV2.out h; exact hv h
  have HTX : Hid (textV v t l = varB v ++ varB t ++ varB l) := textV_yes HNo.out
  clear hv
  have key1 := vappend_any A2 _ c2 ys l w2 HO2.out (by have := LYS.out; have := m1.out; have := m2.out; omega) HZ2.out
  obtain ⟨zs, hzs⟩ : ∃ zs, zs = textV v t l := ⟨_, rfl⟩
  have HZS := Lib.hid hzs
  rw [show ys ++ varB l = zs from by rw [hzs, HTX.out, HYS.out]] at key1
  clear hzs
  go_wp2_with fail
  refine key1.mono ?_
  clear key1
  rintro e w3 ⟨v3, rfl, ho, hb⟩
  obtain ⟨A3, c3, rfl⟩ := ho.slice
  have HO3 := Lib.hid (ho.rds (B' := B))
  have HX3 := Lib.hid (HX2.out.later hb lW2)
  have HB3 := Lib.hid (below_next HB2.out HB2.out.size hb)
  have HT3 := Lib.hid (HT2.out.below hb)
  have lW3 : w.heap.size < w3.heap.size := HX3.out.lt
  clear ho hb HX2 HT2 HZ2 lW2 HO2 HB2 HT
  have HTl := Lib.hid HT3.out.1.len
  go_wp2_with fail
  rw [rounds_succ]
  go_wp2_with fail
  have x3 := HX3.out.x3
  have HD : Hid (Below w3.heap.size w3 w3.drew) := (Below.refl _ _).drew
  have y3 := later_cell HD.out x3 lW3
  go_region_held3 (fun w' => w'.cell? ⟨w.heap.size, 3, none⟩ = some (.int .i64 s))
    (first
      | go_keep
      | exact y3
      | exact HX5.out.x3
      | exact HX6.out.x3) ((first
    | (go_at_call 22
       have h0 := HD
       have key1 := text_any A3 zs.length c3 zs w3.drew (HT3.out.below HD.out) (HO3.out.below HD.out)
       refine key1.mono ?_
       clear key1
       rintro e w5 p
       obtain ⟨⟨T5, h5⟩, e5⟩ : ∃ r, textT T (strOfNums zs) = r := ⟨_, rfl⟩
       obtain ⟨rfl, ht, hf⟩ := p.intro e5
       have r5 := textT_range (T := T) (b := strOfNums zs) HTl.out
       rw [e5] at r5
       have R5 := Lib.hid r5
       have E5 := Lib.hid e5
       have HX5 := Lib.hid ((HX3.out.later HD.out lW3).frm hf)
       have HF5 : Hid (Frm tabO B w w5) := ((Frm.of_below HB3.out).trans (.of_below HD.out)).trans hf
       have HT5 := Lib.hid ht
       have LT5 := Lib.hid ht.1.len
       clear h0 HD p e5 r5 ht hf HX3 HB3 HT3 HO3)
    | (go_at_call 35
       have h0 := R5
       have key1 := make_fit (g := w5.heap.size) (t := 29) 3 [h5, s] w5 HT5.out rfl (by have := R5.out; simp; exact ⟨fit_of this, HFs.out⟩) (by simp) _ rfl (by decide) 2 rfl
       refine key1.mono ?_
       clear key1
       rintro e w6 p
       obtain ⟨⟨T6, h6⟩, e6⟩ : ∃ r, makeT T5 3 [h5, s] = r := ⟨_, rfl⟩
       obtain ⟨rfl, ht, hf⟩ := p.intro e6
       have r6 := makeT_range (T := T5) (k := 3) (p := [h5, s]) LT5.out
       rw [e6] at r6
       have R6 := Lib.hid r6
       have E6 := Lib.hid e6
       have HX6 := Lib.hid (HX5.out.frm hf)
       have HF6 := Lib.hid (HF5.out.trans hf)
       have HT6 := Lib.hid ht
       clear h0 p e6 r6 ht hf HX5 HF5 HT5 R5)))
  all_goals
    rename_i hHeld
    clear hHeld x3 y3
    have hconv := Lib.hid (run_const_bytes w6 #[.int .u8 116, .int .u8 105, .int .u8 99, .int .u8 107, .int .u8 101, .int .u8 116] 6 6)
    obtain ⟨V, hW⟩ : ∃ V, V = w6.alloc (.cells #[.int .u8 116, .int .u8 105, .int .u8 99, .int .u8 107, .int .u8 101, .int .u8 116] 5 (6, 7)) := ⟨_, rfl⟩
    have hr : Rds B V .u8 (some ⟨w6.heap.size, 0, none⟩) 6 6 ticketL := by
      rw [hW]
      exact rds_marked (xs := ticketL) (t := 5) (6, 7) rfl (by decide) _ rfl 6 rfl (by decide)
    have HBV : Hid (Below w6.heap.size w6 V) := by rw [hW]; exact below_new _
    have key1 := seal_any key (some ⟨w6.heap.size, 0, none⟩) 6 6 ticketL h6 V (HT6.out.below HBV.out) HFk.out (fit_of R6.out) hr
    rw [ticket_str] at key1
    have HFV := Lib.hid (HF6.out.trans (.of_below HBV.out))
    clear hr
    go_wp2_with ((with_reducible show wpList _ _ _ (Oper.mk _ (Op.convert 22 22 _) _ _ _ _ :: _) _ _); refine wp_convert rfl _ _ _ rfl rfl hconv.out ?_)
    rw [← hW]
    clear hW hconv
    refine key1.mono ?_
    clear key1
    rintro e w7 p
    have P7 := Lib.hid (tabPost_next HFV.out p)
    obtain ⟨rfl, -, -⟩ := p
    go_wp2_with fail
    go_ret
    have HE : issueT T key v t l s = sealT T6 key ticketS h6 := by
      unfold issueT
      rw [if_neg HNo.out, ← HZS.out, E5.out]
      simp only
      rw [E6.out]
    rw [HE]
    exact P7.out
end Go.Proofs.YtmaedahleenlgaaDoor

/- ticket.Redeem at any term. No condition. Printed by gen_redeem.py. -/
set_option linter.unusedVariables false
set_option linter.unusedSimpArgs false
namespace Go.Proofs.YtmaedahleenlgaaDoor
open Go Go.RowKit Go.WideMaps

theorem openV_range {T : List Nd} (hw : WfT T) (key sealed : Int) (hd : ByteArray) : 0 ≤ (openV T key hd sealed).1 ∧ (openV T key hd sealed).1 ≤ 65536 := by
  cases e : getT T sealed with
  | none => rw [openV_none e]; exact ⟨by decide, by decide⟩
  | some nd =>
    by_cases k : nd.kind = 10
    · obtain ⟨k0, h0, m0, hd', rfl, e2⟩ := sealed_form hw e k
      rw [openV_at e e2]
      have hg := (hw.get e).range m0 (by simp)
      have := getT_range e
      have := hw.len
      unfold openT
      split
      · show 0 ≤ m0 ∧ m0 ≤ 65536
        omega
      · exact ⟨by decide, by decide⟩
    · rw [openV_kind e k]; exact ⟨by decide, by decide⟩
theorem numsL_byt (s : ByteArray) : Byt (numsL s) := by
  intro x hx
  rw [show numsL s = s.data.toList.map fun x => (x.toNat : Int) from rfl] at hx
  obtain ⟨y, -, rfl⟩ := List.mem_map.1 hx
  have := y.toNat_lt
  omega
theorem readT_range {xs : List Int} {a b c : Int} (h : readT xs = some (a, b, c)) : (0 ≤ a ∧ a ≤ 4611686018427387903) ∧ (0 ≤ b ∧ b ≤ 4611686018427387903) ∧ (0 ≤ c ∧ c ≤ 4611686018427387903) := by
  unfold readT at h
  split at h
  · rename_i k
    simp only [Option.some.injEq, Prod.mk.injEq] at h
    obtain ⟨rfl, rfl, rfl⟩ := h
    obtain ⟨k1, k2, k3, -⟩ := k
    have f : ∀ ys : List Int, (readV ys).2.2 = 0 → 0 ≤ (readV ys).1 ∧ (readV ys).1 ≤ 4611686018427387903 := fun ys q => by
      obtain ⟨-, q2, q3⟩ := rd_ok q
      exact sizeV_pos.1 (by omega)
    exact ⟨f _ k1, f _ k2, f _ k3⟩
  · cases h
/-- What a ticket is redeemed to: its fields and an error's number. -/
def timeV (r : Option (Int × Int × Int)) (s now : Int) : (Int × Int × Int × Int) × Int := match r with
  | some (a, b, l) => if now < b ∨ l < now - b then ((0, 0, 0, 0), 9) else ((a, b, l, s), 0)
  | none => ((0, 0, 0, 0), 14)
def rowV (T : List Nd) (c now : Int) : (Int × Int × Int × Int) × Int := match getT T c with
  | some nd => if nd.kind = 3 ∧ nd.parts.length = 2 then timeV (if (nodeT T (nth nd.parts 0)).kind = 1 then readT (numsL (nodeT T (nth nd.parts 0)).text) else none) (nth nd.parts 1) now else ((0, 0, 0, 0), 14)
  | none => ((0, 0, 0, 0), 14)
def redeemV (T : List Nd) (key h now : Int) : (Int × Int × Int × Int) × Int := rowV T (openV T key ticketS h).1 now
theorem rowV_none {T : List Nd} {c now : Int} (h : getT T c = none) : rowV T c now = ((0, 0, 0, 0), 14) := by unfold rowV; rw [h]
theorem rowV_bad {T : List Nd} {c now : Int} {nd : Nd} (h : getT T c = some nd) (k : ¬ (nd.kind = 3 ∧ nd.parts.length = 2)) : rowV T c now = ((0, 0, 0, 0), 14) := by unfold rowV; rw [h]; exact if_neg k
theorem rowV_row {T : List Nd} {c now p0 p1 : Int} {tx : ByteArray} (h : getT T c = some ⟨3, tx, [p0, p1]⟩) : rowV T c now = timeV (if (nodeT T p0).kind = 1 then readT (numsL (nodeT T p0).text) else none) p1 now := by
  unfold rowV; rw [h]; exact if_pos ⟨rfl, rfl⟩
def RedeemPost (r : (Int × Int × Int × Int) × Int) (w : World) (e : Ending) (w' : World) : Prop :=
  e = .returned (.tuple #[.agg #[.int .i64 r.1.1, .int .i64 r.1.2.1, .int .i64 r.1.2.2.1, .int .i64 r.1.2.2.2], .int .i64 r.2]) ∧ Below w.heap.size w w'
theorem tk_size : (Tryd.prog.info? 61).map (·.size) = some 4 := by kernel_rfl

set_option maxHeartbeats 6400000 in
set_option maxRecDepth 100000 in
theorem redeem_any {B tb : Nat} {T : List Nd} (key h now : Int) (w : World) (ht : IsTab B w tb T) (hh : Fit h) (hnow : Fit now) :
    Calls Tryd.prog 26 #[.pointer (some ⟨tb, 0, none⟩), .int .i64 key, .int .i64 h, .int .i64 now] w (RedeemPost (redeemV T key h now) w) := by
  obtain ⟨R, hR⟩ : ∃ R, R = redeemV T key h now := ⟨_, rfl⟩
  rw [← hR]
  have HR := Lib.hid hR
  clear hR
  have HN := Lib.hid hnow
  have HWf := Lib.hid ht.1
  obtain ⟨W0, hW0⟩ : ∃ W, W = w.alloc (.cells #[.int .i64 0, .int .i64 0, .int .i64 0, .int .i64 0] 61) := ⟨_, rfl⟩
  have HB0 : Hid (Below w.heap.size w W0) := by rw [hW0]; exact below_new _
  have HG0 : Hid (TkAt W0 w.heap.size 0 0 0 0) := by rw [hW0]; exact heap_alloc_new w _
  have HS0 : Hid (W0.heap.size = w.heap.size + 1) := by rw [hW0]; show _ = _; simp
  have hcv := run_const_bytes W0 #[.int .u8 116, .int .u8 105, .int .u8 99, .int .u8 107, .int .u8 101, .int .u8 116] 6 6
  rw [HS0.out] at hcv
  rw [hW0] at hcv
  have hconv := Lib.hid hcv
  clear hcv
  obtain ⟨V, hW⟩ : ∃ V, V = (w.alloc (.cells #[.int .i64 0, .int .i64 0, .int .i64 0, .int .i64 0] 61)).alloc (.cells #[.int .u8 116, .int .u8 105, .int .u8 99, .int .u8 107, .int .u8 101, .int .u8 116] 5 (6, 7)) := ⟨_, rfl⟩
  have hr : Rds B V .u8 (some ⟨w.heap.size + 1, 0, none⟩) 6 6 ticketL := by
    rw [hW, ← hW0]
    exact rds_marked (xs := ticketL) (t := 5) (6, 7) HS0.out (by decide) _ rfl 6 rfl (by decide)
  have hBV : Below W0.heap.size W0 V := by rw [hW, ← hW0]; exact below_new _
  have HBV := Lib.hid (below_next HB0.out HB0.out.size hBV)
  have HTV := Lib.hid ((ht.below HB0.out).below hBV)
  have HGV := Lib.hid (HG0.out.later hBV HG0.out.lt)
  have key1 := open_all key h (some ⟨w.heap.size + 1, 0, none⟩) 6 6 ticketL V HTV.out hr hh
  rw [ticket_str] at key1
  clear ht hh hnow hr hBV HG0 hW0 HS0 HB0
  go_enter Tryd.func26, Tryd.ntmps26
  go_wp2_with ((with_reducible show wpList _ _ _ (Oper.mk _ (Op.convert 22 22 _) _ _ _ _ :: _) _ _); refine wp_convert rfl _ _ _ rfl rfl hconv.out ?_)
  rw [← hW]
  clear hW hconv
  refine key1.mono ?_
  clear key1
  rintro e w2 ⟨rfl, hb⟩
  obtain ⟨c, cok, hc⟩ : ∃ c ok, openV T key ticketS h = (c, ok) := ⟨_, _, rfl⟩
  have HC : Hid (R = rowV T c now) := by show _ = _; rw [HR.out]; unfold redeemV; rw [hc]
  have hcr := openV_range HWf.out key h ticketS
  rw [hc] at hcr ⊢
  simp only at hcr ⊢
  have HT2 := Lib.hid (HTV.out.below hb)
  have HG2 := Lib.hid (HGV.out.later hb HGV.out.lt)
  have HB2 := Lib.hid (below_next HBV.out HBV.out.size hb)
  have key1 := look_any c w2 HT2.out (by omega) (by omega)
  clear hc hb HTV HGV HBV HR
  go_wp2_with fail
  refine key1.mono ?_
  clear key1
  rintro e v3 ⟨P3, d3, rfl, ho3, hb3⟩
  have HG3 := Lib.hid (HG2.out.later hb3 HG2.out.lt)
  have lG3 : w.heap.size < v3.heap.size := HG3.out.lt
  cases hg : getT T c with
  | none =>
    have HE : Hid (R = ((0, 0, 0, 0), 14)) := by show _ = _; rw [HC.out]; exact rowV_none hg
    rw [show nodeT T c = ⟨0, ByteArray.empty, []⟩ from by unfold nodeT; rw [hg]; rfl]
    obtain ⟨w3, hw3⟩ : ∃ w3, w3 = v3.alloc (.cells #[.int .i64 0, .string ByteArray.empty, .slice P3 0 d3] 40) := ⟨_, rfl⟩
    have hbn : Below v3.heap.size v3 w3 := by rw [hw3]; exact below_new _
    have HG4 := Lib.hid (HG3.out.later hbn HG3.out.lt)
    have HB4 := Lib.hid (below_next HB2.out HB2.out.size (below_next hb3 hb3.size hbn))
    clear ho3 hb3 hbn hg hcr
    go_wp2_with ((with_reducible show wpList _ _ _ (Oper.mk _ (Op.store 61 _ _) _ _ _ _ :: _) _ _); (rw [← hw3]); (refine wp_store_row rfl rfl _ _ _ rfl w.heap.size _ _ 61 rfl rfl tk_size HG4.out rfl (by simp [Value.oneCell']) ?_))
    obtain ⟨u, hu⟩ : ∃ u, u = World.setRow w3 w.heap.size #[.int .i64 0, .int .i64 0, .int .i64 0, .int .i64 0] := ⟨_, rfl⟩
    rw [← hu]
    have hux : TkAt u w.heap.size 0 0 0 0 := by rw [hu]; exact setRow_heap _ w.heap.size _ _ _ _ HG4.out
    have HBu : Hid (Below w.heap.size w u) := by rw [hu]; exact below_setRow HB4.out (Nat.le_refl _) _
    have z0 := hux.x0
    have z1 := hux.x1
    have z2 := hux.x2
    have z3 := hux.x3
    clear hu hux
    refine bodyPost_ret (v := .tuple #[.agg #[.int .i64 0, .int .i64 0, .int .i64 0, .int .i64 0], .int .i64 14]) (by simp [results, Tryd.results26, go_sem, z0, z1, z2, z3]) rfl ?_
    rw [HE.out]
    exact ⟨rfl, HBu.out⟩
  | some nd =>
    rw [show nodeT T c = nd from by unfold nodeT; rw [hg]; rfl] at ho3 ⊢
    obtain ⟨w3, hw3⟩ : ∃ w3, w3 = v3.alloc (.cells #[.int .i64 nd.kind, .string nd.text, .slice P3 nd.parts.length d3] 40) := ⟨_, rfl⟩
    have hbn : Below v3.heap.size v3 w3 := by rw [hw3]; exact below_new _
    have HG4 := Lib.hid (HG3.out.later hbn HG3.out.lt)
    have HB4 := Lib.hid (below_next HB2.out HB2.out.size (below_next hb3 hb3.size hbn))
    by_cases hk : nd.kind = 3
    rotate_left
    · have HE : Hid (R = ((0, 0, 0, 0), 14)) := by show _ = _; rw [HC.out]; exact rowV_bad hg fun q => hk q.1
      have hkb : (nd.kind != 3) = true := by simp [hk]
      clear ho3 hb3 hbn hg hcr hk
      go_wp2_with ((with_reducible show wpList _ _ _ (Oper.mk _ (Op.store 61 _ _) _ _ _ _ :: _) _ _); (rw [← hw3]); (refine wp_store_row rfl rfl _ _ _ rfl w.heap.size _ _ 61 rfl rfl tk_size HG4.out rfl (by simp [Value.oneCell']) ?_))
      obtain ⟨u, hu⟩ : ∃ u, u = World.setRow w3 w.heap.size #[.int .i64 0, .int .i64 0, .int .i64 0, .int .i64 0] := ⟨_, rfl⟩
      rw [← hu]
      have hux : TkAt u w.heap.size 0 0 0 0 := by rw [hu]; exact setRow_heap _ w.heap.size _ _ _ _ HG4.out
      have HBu : Hid (Below w.heap.size w u) := by rw [hu]; exact below_setRow HB4.out (Nat.le_refl _) _
      have z0 := hux.x0
      have z1 := hux.x1
      have z2 := hux.x2
      have z3 := hux.x3
      clear hu hux
      refine bodyPost_ret (v := .tuple #[.agg #[.int .i64 0, .int .i64 0, .int .i64 0, .int .i64 0], .int .i64 14]) (by simp [results, Tryd.results26, go_sem, z0, z1, z2, z3]) rfl ?_
      rw [HE.out]
      exact ⟨rfl, HBu.out⟩
    have hkb : (nd.kind != 3) = false := by simp [hk]
    by_cases hl : nd.parts.length = 2
    rotate_left
    · have HE : Hid (R = ((0, 0, 0, 0), 14)) := by show _ = _; rw [HC.out]; exact rowV_bad hg fun q => hl q.2
      have hlb : ((nd.parts.length : Int) != 2) = true := by rw [bne_iff_ne]; omega
      clear ho3 hb3 hbn hg hcr hk hl
      go_wp2_with ((with_reducible show wpList _ _ _ (Oper.mk _ (Op.store 61 _ _) _ _ _ _ :: _) _ _); (rw [← hw3]); (refine wp_store_row rfl rfl _ _ _ rfl w.heap.size _ _ 61 rfl rfl tk_size HG4.out rfl (by simp [Value.oneCell']) ?_))
      obtain ⟨u, hu⟩ : ∃ u, u = World.setRow w3 w.heap.size #[.int .i64 0, .int .i64 0, .int .i64 0, .int .i64 0] := ⟨_, rfl⟩
      rw [← hu]
      have hux : TkAt u w.heap.size 0 0 0 0 := by rw [hu]; exact setRow_heap _ w.heap.size _ _ _ _ HG4.out
      have HBu : Hid (Below w.heap.size w u) := by rw [hu]; exact below_setRow HB4.out (Nat.le_refl _) _
      have z0 := hux.x0
      have z1 := hux.x1
      have z2 := hux.x2
      have z3 := hux.x3
      clear hu hux
      refine bodyPost_ret (v := .tuple #[.agg #[.int .i64 0, .int .i64 0, .int .i64 0, .int .i64 0], .int .i64 14]) (by simp [results, Tryd.results26, go_sem, z0, z1, z2, z3]) rfl ?_
      rw [HE.out]
      exact ⟨rfl, HBu.out⟩
    obtain ⟨kd, tx, ps⟩ := nd
    simp only at hk hl ho3 hkb hw3 ⊢
    subst hk
    match ps, hl with
    | [p0, p1], _ =>
      simp only [List.length_cons, List.length_nil, Nat.zero_add, Nat.reduceAdd] at ho3 hw3 ⊢
      obtain ⟨gp, rfl, lgp, a0, a1⟩ := two_parts ho3
      have HC2 : Hid (R = timeV (if (nodeT T p0).kind = 1 then readT (numsL (nodeT T p0).text) else none) p1 now) := by show _ = _; rw [HC.out]; exact rowV_row hg
      have hgood := HWf.out.get hg
      have hr0 := hgood.range p0 (by simp)
      have hr1 := hgood.range p1 (by simp)
      have hcl := getT_range hg
      have hTl := HWf.out.len
      have HFp : Hid (Fit p0) := ⟨by omega, by omega⟩
      have b0 := later_cell hbn a0 lgp
      have b1 := later_cell hbn a1 lgp
      have b2 : w3.cell? ⟨v3.heap.size, 2, none⟩ = some (.slice (some ⟨gp, 0, none⟩) 2 d3) := by rw [hw3]; simp [go_sem]
      have lv3 : v3.heap.size < w3.heap.size := by rw [hw3]; simp
      have lgp3 : gp < w3.heap.size := by omega
      have HT4 := Lib.hid (HT2.out.below (below_next hb3 hb3.size hbn))
      have key1 := look_any p0 w3 HT4.out HFp.out.1 HFp.out.2
      clear ho3 hb3 hbn hg hcr hgood hr0 hr1 hcl hTl HC HB2 HT2 HG2 HG3 lG3 hkb
      go_wp2_with fail
      rw [← hw3]
      clear hw3 a0 a1
      refine key1.mono ?_
      clear key1
      rintro e v4 ⟨P4, d4, rfl, ho4, hb4⟩
      obtain ⟨tn, htn⟩ : ∃ n, n = nodeT T p0 := ⟨_, rfl⟩
      rw [← htn] at ho4 ⊢
      have HC3 : Hid (R = timeV (if tn.kind = 1 then readT (numsL tn.text) else none) p1 now) := by show _ = _; rw [HC2.out, htn]
      have htx : tn.text.size ≤ 2048 := by
        rw [htn]
        unfold nodeT
        cases e : getT T p0 with
        | none => exact Nat.zero_le _
        | some n => exact (HWf.out.get e).text
      obtain ⟨w4, hw4⟩ : ∃ w4, w4 = v4.alloc (.cells #[.int .i64 tn.kind, .string tn.text, .slice P4 tn.parts.length d4] 40) := ⟨_, rfl⟩
      have hbn : Below v4.heap.size v4 w4 := by rw [hw4]; exact below_new _
      have hb5 := below_next hb4 hb4.size hbn
      replace b0 := later_cell hb5 b0 lgp3
      replace b1 := later_cell hb5 b1 lgp3
      replace b2 := later_cell hb5 b2 lv3
      have e0 : w4.cell? ⟨v4.heap.size, 0, none⟩ = some (.int .i64 tn.kind) := by rw [hw4]; simp [go_sem]
      have e1 : w4.cell? ⟨v4.heap.size, 1, none⟩ = some (.string tn.text) := by rw [hw4]; simp [go_sem]
      have lv4 : v4.heap.size < w4.heap.size := by rw [hw4]; simp
      have l3 : v3.heap.size < w4.heap.size := by have := hb5.size; omega
      have lg : gp < w4.heap.size := by have := hb5.size; omega
      have HG5 := Lib.hid (HG4.out.later hb5 HG4.out.lt)
      have HB5 := Lib.hid (below_next HB4.out HB4.out.size hb5)
      clear htn ho4 hb4 hbn hb5 HC2 HG4 HB4 HT4 lv3 lgp3 HFp
      go_wp2_with ((with_reducible show wpList _ _ _ (Oper.mk _ (Op.convert 9 22 _) _ _ _ _ :: _) _ _); refine wp_str_bytes rfl _ rfl tn.text rfl (by omega) ?_)
      intro cb w5 hrb hb
      have hS4 : v4.heap.size + 1 = w4.heap.size := by rw [hw4]; simp
      rw [← hw4, hS4] at hb
      clear hS4
      replace b0 := later_cell hb b0 lg
      replace b1 := later_cell hb b1 lg
      replace b2 := later_cell hb b2 l3
      replace e0 := later_cell hb e0 lv4
      have hs5 := hb.size
      have HG6 := Lib.hid (HG5.out.later hb HG5.out.lt)
      have HB6 := Lib.hid (below_next HB5.out HB5.out.size hb)
      have key1 := nums_any _ _ _ _ w5 (hrb B) (numsL_byt tn.text) (by omega)
      clear hrb hb HG5 HB5 hw4 e1
      go_wp2_with fail
      refine key1.mono ?_
      clear key1
      rintro e v6 ⟨na, nb, nc, ok, rfl, hyes, hno, hb⟩
      replace b1 := later_cell hb b1 (by show gp < _; omega)
      replace b2 := later_cell hb b2 (by show v3.heap.size < _; omega)
      replace e0 := later_cell hb e0 (by show v4.heap.size < _; omega)
      have hs6 := hb.size
      have HG7 := Lib.hid (HG6.out.later hb HG6.out.lt)
      have HB7 := Lib.hid (below_next HB6.out HB6.out.size hb)
      have HY := Lib.hid hyes
      have HNo := Lib.hid hno
      have q3 : v3.heap.size < v6.heap.size := by omega
      have q4 : v4.heap.size < v6.heap.size := by omega
      have qg : gp < v6.heap.size := by omega
      clear hb HG6 HB6 b0 hyes hno hs5 hs6 l3 lg lv4
      obtain ⟨w6, hw6⟩ : ∃ w6, w6 = v6.alloc (.cells #[.int .i64 na, .int .i64 nb, .int .i64 nc] 84) := ⟨_, rfl⟩
      have hbn : Below v6.heap.size v6 w6 := by rw [hw6]; exact below_new _
      have g0 : w6.cell? ⟨v6.heap.size, 0, none⟩ = some (.int .i64 na) := by rw [hw6]; simp [go_sem]
      have g1 : w6.cell? ⟨v6.heap.size, 1, none⟩ = some (.int .i64 nb) := by rw [hw6]; simp [go_sem]
      have g2 : w6.cell? ⟨v6.heap.size, 2, none⟩ = some (.int .i64 nc) := by rw [hw6]; simp [go_sem]
      have l6 : v6.heap.size < w6.heap.size := by rw [hw6]; simp
      have b1' := later_cell hbn b1 qg
      have b2' := later_cell hbn b2 q3
      have e0' := later_cell hbn e0 q4
      have HG8 := Lib.hid (HG7.out.later hbn HG7.out.lt)
      have HB8 := Lib.hid (below_next HB7.out HB7.out.size hbn)
      have r3 : v3.heap.size < w6.heap.size := by omega
      have r4 : v4.heap.size < w6.heap.size := by omega
      have rg : gp < w6.heap.size := by omega
      clear hbn HG7 HB7
      go_wp2_with fail
      rw [← hw6]
      clear hw6 b1 b2 e0 q3 q4 qg
      go_region_held3 (fun w' => (w'.cell? ⟨v6.heap.size, 0, none⟩ = some (.int .i64 na) ∧ w'.cell? ⟨v6.heap.size, 1, none⟩ = some (.int .i64 nb) ∧ w'.cell? ⟨v6.heap.size, 2, none⟩ = some (.int .i64 nc)) ∧ w'.cell? ⟨v3.heap.size, 2, none⟩ = some (.slice (some ⟨gp, 0, none⟩) 2 d3) ∧ w'.cell? ⟨gp, 1, none⟩ = some (.int .i64 p1)) (first | go_keep) ((first | fail))
      rename_i hHeld
      clear hHeld
      obtain ⟨w7, hw7⟩ : ∃ w7, w7 = (w6.alloc (.cells #[.int .i64 na, .int .i64 nb, .int .i64 nc, .int .i64 p1] 61)).drew := ⟨_, rfl⟩
      have hbn : Below w6.heap.size w6 w7 := by rw [hw7]; exact (below_new _).drew
      have HX7 : Hid (TkAt w7 w6.heap.size na nb nc p1) := by rw [hw7]; exact heap_alloc_new w6 _
      have HG9 := Lib.hid (HG8.out.later hbn HG8.out.lt)
      have HB9 := Lib.hid (below_next HB8.out HB8.out.size hbn)
      have k0 := later_cell hbn e0' r4
      have y0 := HX7.out.x0
      have y1 := HX7.out.x1
      have y2 := HX7.out.x2
      have y3 := HX7.out.x3
      rw [← hw7]
      clear hw7 hbn g0 g1 g2 l6 b1' b2' e0' HG8 HB8 r3 r4 rg htx hl
      cases ok with
      | false =>
        have HE : Hid (R = ((0, 0, 0, 0), 14)) := by
          show _ = _
          rw [HC3.out, HNo.out rfl]
          split <;> rfl
        clear HY HNo
        go_wp2_with ((with_reducible show wpList _ _ _ (Oper.mk _ (Op.store 61 _ _) _ _ _ _ :: _) _ _); (refine wp_store_row rfl rfl _ _ _ rfl w.heap.size _ _ 61 rfl rfl tk_size HG9.out rfl (by simp [Value.oneCell']) ?_))
        obtain ⟨u, hu⟩ : ∃ u, u = World.setRow w7 w.heap.size #[.int .i64 0, .int .i64 0, .int .i64 0, .int .i64 0] := ⟨_, rfl⟩
        rw [← hu]
        have hux : TkAt u w.heap.size 0 0 0 0 := by rw [hu]; exact setRow_heap _ w.heap.size _ _ _ _ HG9.out
        have HBu : Hid (Below w.heap.size w u) := by rw [hu]; exact below_setRow HB9.out (Nat.le_refl _) _
        have z0 := hux.x0
        have z1 := hux.x1
        have z2 := hux.x2
        have z3 := hux.x3
        clear hu hux
        refine bodyPost_ret (v := .tuple #[.agg #[.int .i64 0, .int .i64 0, .int .i64 0, .int .i64 0], .int .i64 14]) (by simp [results, Tryd.results26, go_sem, z0, z1, z2, z3]) rfl ?_
        rw [HE.out]
        exact ⟨rfl, HBu.out⟩
      | true =>
        have HV := Lib.hid (HY.out rfl)
        clear HY HNo
        by_cases hk1 : tn.kind = 1
        rotate_left
        · have HE : Hid (R = ((0, 0, 0, 0), 14)) := by show _ = _; rw [HC3.out, if_neg hk1]; rfl
          have hkb : (tn.kind != 1) = true := by simp [hk1]
          clear hk1
          go_wp2_with ((with_reducible show wpList _ _ _ (Oper.mk _ (Op.store 61 _ _) _ _ _ _ :: _) _ _); (refine wp_store_row rfl rfl _ _ _ rfl w.heap.size _ _ 61 rfl rfl tk_size HG9.out rfl (by simp [Value.oneCell']) ?_))
          obtain ⟨u, hu⟩ : ∃ u, u = World.setRow w7 w.heap.size #[.int .i64 0, .int .i64 0, .int .i64 0, .int .i64 0] := ⟨_, rfl⟩
          rw [← hu]
          have hux : TkAt u w.heap.size 0 0 0 0 := by rw [hu]; exact setRow_heap _ w.heap.size _ _ _ _ HG9.out
          have HBu : Hid (Below w.heap.size w u) := by rw [hu]; exact below_setRow HB9.out (Nat.le_refl _) _
          have z0 := hux.x0
          have z1 := hux.x1
          have z2 := hux.x2
          have z3 := hux.x3
          clear hu hux
          refine bodyPost_ret (v := .tuple #[.agg #[.int .i64 0, .int .i64 0, .int .i64 0, .int .i64 0], .int .i64 14]) (by simp [results, Tryd.results26, go_sem, z0, z1, z2, z3]) rfl ?_
          rw [HE.out]
          exact ⟨rfl, HBu.out⟩
        have hkb : (tn.kind != 1) = false := by simp [hk1]
        have HC4 : Hid (R = timeV (some (na, nb, nc)) p1 now) := by show _ = _; rw [HC3.out, if_pos hk1, HV.out]
        have hrg := readT_range HV.out
        have hb0 := hrg.2.1.1
        have hb1 := hrg.2.1.2
        have hn1 := HN.out.2
        clear hk1 hrg HC3
        by_cases ht1 : now < nb
        · have HE : Hid (R = ((0, 0, 0, 0), 9)) := by show _ = _; rw [HC4.out]; exact if_pos (.inl ht1)
          go_wp2_with ((with_reducible show wpList _ _ _ (Oper.mk _ (Op.store 61 _ _) _ _ _ _ :: _) _ _); (refine wp_store_row rfl rfl _ _ _ rfl w.heap.size _ _ 61 rfl rfl tk_size HG9.out rfl (by simp [Value.oneCell']) ?_))
          obtain ⟨u, hu⟩ : ∃ u, u = World.setRow w7 w.heap.size #[.int .i64 0, .int .i64 0, .int .i64 0, .int .i64 0] := ⟨_, rfl⟩
          rw [← hu]
          have hux : TkAt u w.heap.size 0 0 0 0 := by rw [hu]; exact setRow_heap _ w.heap.size _ _ _ _ HG9.out
          have HBu : Hid (Below w.heap.size w u) := by rw [hu]; exact below_setRow HB9.out (Nat.le_refl _) _
          have z0 := hux.x0
          have z1 := hux.x1
          have z2 := hux.x2
          have z3 := hux.x3
          clear hu hux
          refine bodyPost_ret (v := .tuple #[.agg #[.int .i64 0, .int .i64 0, .int .i64 0, .int .i64 0], .int .i64 9]) (by simp [results, Tryd.results26, go_sem, z0, z1, z2, z3]) rfl ?_
          rw [HE.out]
          exact ⟨rfl, HBu.out⟩
        have hsub : IntKind.i64.wrap (now - nb) = now - nb := by rw [IntKind.wrap_i64]; omega
        by_cases ht2 : nc < now - nb
        · have HE : Hid (R = ((0, 0, 0, 0), 9)) := by show _ = _; rw [HC4.out]; exact if_pos (.inr ht2)
          go_wp2_with ((with_reducible show wpList _ _ _ (Oper.mk _ (Op.store 61 _ _) _ _ _ _ :: _) _ _); (refine wp_store_row rfl rfl _ _ _ rfl w.heap.size _ _ 61 rfl rfl tk_size HG9.out rfl (by simp [Value.oneCell']) ?_))
          obtain ⟨u, hu⟩ : ∃ u, u = World.setRow w7 w.heap.size #[.int .i64 0, .int .i64 0, .int .i64 0, .int .i64 0] := ⟨_, rfl⟩
          rw [← hu]
          have hux : TkAt u w.heap.size 0 0 0 0 := by rw [hu]; exact setRow_heap _ w.heap.size _ _ _ _ HG9.out
          have HBu : Hid (Below w.heap.size w u) := by rw [hu]; exact below_setRow HB9.out (Nat.le_refl _) _
          have z0 := hux.x0
          have z1 := hux.x1
          have z2 := hux.x2
          have z3 := hux.x3
          clear hu hux
          refine bodyPost_ret (v := .tuple #[.agg #[.int .i64 0, .int .i64 0, .int .i64 0, .int .i64 0], .int .i64 9]) (by simp [results, Tryd.results26, go_sem, z0, z1, z2, z3]) rfl ?_
          rw [HE.out]
          exact ⟨rfl, HBu.out⟩
        have HE : Hid (R = ((na, nb, nc, p1), 0)) := by show _ = _; rw [HC4.out]; exact if_neg (by omega)
        go_wp2_with ((with_reducible show wpList _ _ _ (Oper.mk _ (Op.store 61 _ _) _ _ _ _ :: _) _ _); (refine wp_store_row rfl rfl _ _ _ rfl w.heap.size _ _ 61 rfl rfl tk_size HG9.out rfl (by simp [Value.oneCell']) ?_))
        obtain ⟨u, hu⟩ : ∃ u, u = World.setRow w7 w.heap.size #[.int .i64 na, .int .i64 nb, .int .i64 nc, .int .i64 p1] := ⟨_, rfl⟩
        rw [← hu]
        have hux : TkAt u w.heap.size na nb nc p1 := by rw [hu]; exact setRow_heap _ w.heap.size _ _ _ _ HG9.out
        have HBu : Hid (Below w.heap.size w u) := by rw [hu]; exact below_setRow HB9.out (Nat.le_refl _) _
        have z0 := hux.x0
        have z1 := hux.x1
        have z2 := hux.x2
        have z3 := hux.x3
        clear hu hux
        refine bodyPost_ret (v := .tuple #[.agg #[.int .i64 na, .int .i64 nb, .int .i64 nc, .int .i64 p1], .int .i64 0]) (by simp [results, Tryd.results26, go_sem, z0, z1, z2, z3]) rfl ?_
        rw [HE.out]
        exact ⟨rfl, HBu.out⟩

end Go.Proofs.YtmaedahleenlgaaDoor
