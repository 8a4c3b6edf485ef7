/- The statement PageTorn. Conditions: that the scripts can be read; sizes. -/
import Derived.Test.YtegohgaccmkigaaDoorPgF
set_option linter.unusedSimpArgs false
set_option linter.unusedVariables false
namespace Go.Proofs.YtegohgaccmkigaaDoor
open Go.RowKit

theorem Fn.frame {P : Program} {B : Base} {g : FuncId} {args : Array Value} {pre : List Assn} {R : Value → List Assn → Prop} (h : Fn P B g args pre R) (S : List Assn) : Fn P B g args (pre ++ S) (fun v l => ∃ l', R v l' ∧ l = l' ++ S) := ⟨fun w F ho => by
  rw [List.append_assoc] at ho
  refine (h.run w (S ++ F) ho).mono ?_
  rintro _ w' ⟨v, l, rfl, hR, ho'⟩
  exact ⟨v, l ++ S, rfl, ⟨l, hR, rfl⟩, by rw [List.append_assoc]; exact ho'⟩⟩
theorem RoS.rd {B : Base} {v : Value} {cs : List Value} (h : RoS B v cs) (S : List Assn) : RdV B S v cs := by
  obtain ⟨a, cap, rfl, h | ⟨b, o, C, rfl, k, h⟩⟩ := h
  · exact ⟨a, cap, rfl, .inl h⟩
  · exact ⟨_, cap, rfl, .inr ⟨b, o, rfl, fun w ho => ho.range (g := b) (C := C) (fun j u hj => by have := h j u hj; rwa [Nat.mul_one] at this)⟩⟩

/-- One call of the statements. -/
structure OpP where
  kind : Int
  slot : Int
  at_ : Int
  data : List UInt8
  mark : Int
/-- A slice of calls that lies in memory that is only read. -/
def RoLP (B : Base) (v : Value) (l : List OpP) : Prop := ∃ a cap, v = .slice a l.length cap ∧ (l = [] ∨ ∃ b o C, a = some ⟨b, o, none⟩ ∧ ROc B b C ∧
  ∀ i (hi : i < l.length), ∃ da dc, rdl C (o + i * 5) [.int .i64 l[i].kind, .int .i64 l[i].slot, .int .i64 l[i].at_, .slice da l[i].data.length dc, .int .i64 l[i].mark] ∧ RoS B (.slice da l[i].data.length dc) (bytesV l[i].data))

/-- Add: the records then, and what it answers. -/
def addR (recs : List (List UInt8)) (b : List UInt8) : List (List UInt8) × Int × Int :=
  if 200 < b.length then (recs, 0, 2) else if 243 < usedR recs + b.length + 1 then (recs, 0, 3) else (recs ++ [b], recs.length, 0)
theorem addR_used {recs : List (List UInt8)} {b : List UInt8} (h : usedR recs ≤ 243) : usedR (addR recs b).1 ≤ 243 := by
  unfold addR
  split
  · exact h
  · split
    · exact h
    · rw [usedR_append]; have : usedR [b] = b.length + 1 := by simp [usedR]
      omega
theorem openR_err {b : List UInt8} {e : Int} (hb : b.length = 256) (h : openR b = .error e) : e = 30 ∨ e = 31 := by
  unfold openR at h
  rw [if_neg (by omega)] at h
  split at h
  · injection h with h; exact .inl h.symm
  · split at h
    · injection h with h; exact .inr h.symm
    · cases h
theorem Pg.open_err {P : Program} {B : Base} {f : FuncId} {args : Array Value} {S : List Assn} {b : List UInt8} {e : Int} (h : openR b = .error e) (H : Fn P B f args S (OpenPost S b)) : Fn P B f args S (fun v l => v = .tuple #[.pointer none, .int .i64 e] ∧ l = S) := H.mono fun v l hp => OpenPost.of_err h hp

theorem RdV.takeB {B : Base} {S : List Assn} {a : Option Addr} {m c : Nat} {b : List UInt8} (hv : RdV B S (.slice a m c) (bytesV b)) (hi c' : Nat) (hh : hi ≤ b.length) : RdV B S (.slice a hi c') (bytesV (b.take hi)) := by
  have := hv.take hi c' (by simpa using hh)
  rwa [show (bytesV b).take hi = bytesV (b.take hi) by simp [bytesV]] at this

end Go.Proofs.YtegohgaccmkigaaDoor
