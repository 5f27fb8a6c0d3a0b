/- Rows that are no tickets. Plain. -/
import Derived.Test.YtmaedahleenlgaaDoorPureTicket2
set_option linter.unusedVariables false
set_option linter.unusedSimpArgs false
namespace Go.Proofs.YtmaedahleenlgaaDoor
open Go Go.RowKit

def noTk : (Int × Int × Int × Int) × Int := ((0, 0, 0, 0), 14)
/-- A term that is no ticket's row, whatever else is made. -/
def BadRow (T : List Nd) (x : Int) : Prop := In T x ∧ ∀ (n : Nat) (T' : List Nd), Ext n T T' → ∀ now, rowV T' x now = noTk
theorem BadRow.ext {n : Nat} {T T' : List Nd} {x : Int} (h : BadRow T x) (e : Ext n T T') : BadRow T' x := ⟨h.1.ext e, fun m T'' e' now => h.2 (n + m) T'' (e.trans e') now⟩
theorem bad_kind {T : List Nd} {x : Int} {nd : Nd} (h : getT T x = some nd) (k : ¬ (nd.kind = 3 ∧ nd.parts.length = 2)) : BadRow T x := ⟨⟨nd, h⟩, fun n T' e now => rowV_bad (e.get h) k⟩
theorem bad_text {T : List Nd} {x p q : Int} {nd : Nd} (h : getT T x = some ⟨3, ByteArray.empty, [p, q]⟩) (hp : getT T p = some nd) (k : nd.kind ≠ 1) : BadRow T x := ⟨⟨_, h⟩, fun n T' e now => by
  rw [rowV_row (e.get h)]
  have : (nodeT T' p).kind ≠ 1 := by unfold nodeT; rw [e.get hp]; exact k
  rw [if_neg this]
  rfl⟩
theorem rowV_zero (T : List Nd) (now : Int) : rowV T 0 now = noTk := rowV_none (by unfold getT; rw [if_neg (by decide)])
/-- What a sealed term is redeemed to. -/
theorem SealAt.redeem {T : List Nd} {x key c now : Int} {hd : ByteArray} (h : SealAt T x key hd c) : redeemV T key x now = if hd = ticketS then rowV T c now else noTk := by
  unfold redeemV
  rw [h.open_]
  unfold openT
  by_cases e : hd = ticketS
  · rw [if_pos e, if_pos ⟨rfl, e⟩]
  · rw [if_neg e, if_neg fun q => e q.2]
    exact rowV_zero T now
theorem redeem_kind {T : List Nd} {x key now : Int} {nd : Nd} (h : getT T x = some nd) (k : nd.kind ≠ 10) : redeemV T key x now = noTk := by
  unfold redeemV
  rw [openV_kind h k]
  exact rowV_zero T now
end Go.Proofs.YtmaedahleenlgaaDoor
