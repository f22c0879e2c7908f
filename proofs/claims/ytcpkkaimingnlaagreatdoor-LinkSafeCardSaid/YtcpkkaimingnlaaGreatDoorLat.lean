/-
  Guards for a walk's arms: which operation stands next, told by its slot.
-/
import Derived.Test.YtcpkkaimingnlaaGreatDoorLlw
namespace Go.Proofs.YtcpkkaimingnlaaGreatDoor
open Go.RowKit

section
variable {P : Program} {ops : Array Oper} {rest : List Oper} {a : Act} {w : World} {Q : Exit → Act → World → Prop}
theorem atD (k : Nat) {op : Op} {ty : TypeId} {pos : String} {after : Array Edge} {g : Option (Nat × Bool)} (h : wpList P ops Q (⟨some k, op, ty, pos, after, g⟩ :: rest) a w) : wpList P ops Q (⟨some k, op, ty, pos, after, g⟩ :: rest) a w := h
theorem atS (k j : Nat) {t ty : TypeId} {pos : String} {after : Array Edge} {g : Option (Nat × Bool)} (h : wpList P ops Q (⟨none, .store t (.tmp k) (.tmp j), ty, pos, after, g⟩ :: rest) a w) : wpList P ops Q (⟨none, .store t (.tmp k) (.tmp j), ty, pos, after, g⟩ :: rest) a w := h
theorem atC (k : Nat) {c : Value} {t ty : TypeId} {pos : String} {after : Array Edge} {g : Option (Nat × Bool)} (h : wpList P ops Q (⟨none, .store t (.tmp k) (.const c), ty, pos, after, g⟩ :: rest) a w) : wpList P ops Q (⟨none, .store t (.tmp k) (.const c), ty, pos, after, g⟩ :: rest) a w := h
end
end Go.Proofs.YtcpkkaimingnlaaGreatDoor
