/- The package wal: what Open finds; Open refused. Conditions: none. -/
import Derived.Test.YtegohgaccmkigaaDoorWlE
set_option linter.unusedSimpArgs false
set_option linter.unusedVariables false
namespace Go.Proofs.YtegohgaccmkigaaDoor
open Go.RowKit

/-- The record that begins at k, by the sum ahead of it: its length, its sum. -/
def takeRec (al : List UInt8) (k : Nat) (s : UInt32) : Option (Nat × UInt32) :=
  if (al.drop k).length < 8 then none
  else if (get64 ((al.drop k).take 4)).toNat = 0 ∨ 1024 < (get64 ((al.drop k).take 4)).toNat ∨ (al.drop k).length - 8 < (get64 ((al.drop k).take 4)).toNat ∨ sealW s k (((al.drop k).take (8 + (get64 ((al.drop k).take 4)).toNat)).drop 8) ≠ (get64 (((al.drop k).take 8).drop 4)).toUInt32 then none
  else some ((get64 ((al.drop k).take 4)).toNat, (get64 (((al.drop k).take 8).drop 4)).toUInt32)
/-- The records from k on: where they end, the last one's sum, each one's end and bytes. -/
def scanW (al : List UInt8) : Nat → Nat → UInt32 → Nat × UInt32 × List (Nat × List UInt8)
  | 0, k, s => (k, s, [])
  | f + 1, k, s => match takeRec al k s with
    | none => (k, s, [])
    | some (n, s') => ((scanW al f (k + (8 + n)) s').1, (scanW al f (k + (8 + n)) s').2.1, (k + (8 + n), ((al.drop k).take (8 + n)).drop 8) :: (scanW al f (k + (8 + n)) s').2.2)
theorem wru32_u64 (x : UInt64) : IntKind.u32.wrap (x.toNat : Int) = (x.toUInt32.toNat : Int) := by
  simp [IntKind.wrap, IntKind.bits, IntKind.signed]

set_option maxHeartbeats 2000000 in
set_option maxRecDepth 100000 in
theorem Wl.open_no (B : Base) (b : Nat) (D : DD) (first count : Int) (hs : D.secs.length ≤ 4096) (hf : -(2 ^ 63) ≤ first ∧ first < 2 ^ 63) (hcn : -(2 ^ 63) ≤ count ∧ count < 2 ^ 63) (h : first < 0 ∨ count < 1 ∨ (D.secs.length : Int) < count ∨ (D.secs.length : Int) - count < first) :
    Fn Tryd.prog B 33 #[.pointer (some ⟨b, 0, none⟩), .int .i64 first, .int .i64 count] [dskA b D] (fun u l => u = .tuple #[.pointer none, .slice none 0 0, .int .i64 1] ∧ l = [dskA b D]) := by
  refine Fn.enter3 159 Tryd.func33 rfl rfl (Nat.le_of_ble_eq_true rfl) (fun F => ?_)
  try simp only [List.cons_append, List.nil_append]
  refine T.seq ?_
  refine T.region ?_
  refine LW.q rfl (Qt.assign rfl) ?_
  refine LW.q rfl (Qt.assign rfl) ?_
  refine LW.q rfl (Qt.assign rfl) ?_
  refine LW.done ?_
  refine T.seq ?_
  refine T.seq ?_
  refine T.region ?_
  refine LW.q rfl (Qt.move rfl) ?_
  refine LW.q rfl (Qt.lss rfl rfl) ?_
  refine LW.q rfl (Qt.move rfl) ?_
  refine LW.split (t := 21) rfl (fun h1 => ?_) (fun h1 => ?_)
  · skip
    try replace h1 := of_decide_eq_true h1
    refine LW.s rfl ?_
    refine LW.s rfl ?_
    refine LW.q rfl (Qt.pick rfl rfl) ?_
    refine LW.q rfl (Qt.move rfl) ?_
    first | refine LW.gT (t := 25) rfl rfl ?_ | refine LW.gT (t := 25) rfl (decide_eq_true (by omega)) ?_ | refine LW.gT (t := 25) rfl (by omega) ?_
    refine LW.s rfl ?_
    refine LW.s rfl ?_
    refine LW.s rfl ?_
    refine LW.s rfl ?_
    refine LW.s rfl ?_
    refine LW.s rfl ?_
    refine LW.q rfl (Qt.pick rfl rfl) ?_
    refine LW.q rfl (Qt.move rfl) ?_
    first | refine LW.gT (t := 33) rfl rfl ?_ | refine LW.gT (t := 33) rfl (decide_eq_true (by omega)) ?_ | refine LW.gT (t := 33) rfl (by omega) ?_
    refine LW.s rfl ?_
    refine LW.s rfl ?_
    refine LW.s rfl ?_
    refine LW.s rfl ?_
    refine LW.s rfl ?_
    refine LW.s rfl ?_
    refine LW.s rfl ?_
    refine LW.s rfl ?_
    refine LW.q rfl (Qt.pick rfl rfl) ?_
    refine LW.done ?_
    first | refine T.condT rfl ?_ | refine T.condPT rfl (by omega) ?_ | refine T.condBT rfl (by omega) ?_
    refine T.seq ?_
    refine T.region ?_
    refine LW.q rfl (Qt.assign rfl) ?_
    refine LW.q rfl (Qt.assign rfl) ?_
    refine LW.q rfl (Qt.assign rfl) ?_
    refine LW.done ?_
    refine T.ret ?_
    exact ⟨.inl rfl, _, _, res [_, _, _] rfl ⟨rvT rfl, rvT rfl, rvT rfl, trivial⟩, ⟨rfl, rfl⟩, Sub.any⟩
  · skip
    try replace h1 := of_decide_eq_false h1
    refine LW.q rfl (Qt.move rfl) ?_
    refine LW.q rfl (Qt.lss rfl rfl) ?_
    refine LW.q rfl (Qt.pick rfl rfl) ?_
    refine LW.q rfl (Qt.move rfl) ?_
    refine LW.split (t := 25) rfl (fun h2 => ?_) (fun h2 => ?_)
    · skip
      try replace h2 := of_decide_eq_true h2
      refine LW.s rfl ?_
      refine LW.s rfl ?_
      refine LW.s rfl ?_
      refine LW.s rfl ?_
      refine LW.s rfl ?_
      refine LW.s rfl ?_
      refine LW.q rfl (Qt.pick rfl rfl) ?_
      refine LW.q rfl (Qt.move rfl) ?_
      first | refine LW.gT (t := 33) rfl rfl ?_ | refine LW.gT (t := 33) rfl (decide_eq_true (by omega)) ?_ | refine LW.gT (t := 33) rfl (by omega) ?_
      refine LW.s rfl ?_
      refine LW.s rfl ?_
      refine LW.s rfl ?_
      refine LW.s rfl ?_
      refine LW.s rfl ?_
      refine LW.s rfl ?_
      refine LW.s rfl ?_
      refine LW.s rfl ?_
      refine LW.q rfl (Qt.pick rfl rfl) ?_
      refine LW.done ?_
      first | refine T.condT rfl ?_ | refine T.condPT rfl (by omega) ?_ | refine T.condBT rfl (by omega) ?_
      refine T.seq ?_
      refine T.region ?_
      refine LW.q rfl (Qt.assign rfl) ?_
      refine LW.q rfl (Qt.assign rfl) ?_
      refine LW.q rfl (Qt.assign rfl) ?_
      refine LW.done ?_
      refine T.ret ?_
      exact ⟨.inl rfl, _, _, res [_, _, _] rfl ⟨rvT rfl, rvT rfl, rvT rfl, trivial⟩, ⟨rfl, rfl⟩, Sub.any⟩
    · skip
      try replace h2 := of_decide_eq_false h2
      refine LW.q rfl (Qt.move rfl) ?_
      refine LW.q rfl (Qt.move rfl) ?_
      refine LW.q rfl (Qt.nilCheck rfl) ?_
      refine LW.q rfl (Qt.fieldAddr0 (by kernel_rfl) rfl) ?_
      refine LW.e rfl (Ef.call (Dk.sectorsF B b D) Tryd.func31 rfl rfl rfl ?_)
      rintro _ _ ⟨rfl, rfl⟩
      try simp only [List.cons_append, List.nil_append]
      refine LW.q rfl (Qt.gtr rfl rfl) ?_
      refine LW.q rfl (Qt.pick rfl rfl) ?_
      refine LW.q rfl (Qt.move rfl) ?_
      refine LW.split (t := 33) rfl (fun h3 => ?_) (fun h3 => ?_)
      · skip
        try replace h3 := of_decide_eq_true h3
        refine LW.s rfl ?_
        refine LW.s rfl ?_
        refine LW.s rfl ?_
        refine LW.s rfl ?_
        refine LW.s rfl ?_
        refine LW.s rfl ?_
        refine LW.s rfl ?_
        refine LW.s rfl ?_
        refine LW.q rfl (Qt.pick rfl rfl) ?_
        refine LW.done ?_
        first | refine T.condT rfl ?_ | refine T.condPT rfl (by omega) ?_ | refine T.condBT rfl (by omega) ?_
        refine T.seq ?_
        refine T.region ?_
        refine LW.q rfl (Qt.assign rfl) ?_
        refine LW.q rfl (Qt.assign rfl) ?_
        refine LW.q rfl (Qt.assign rfl) ?_
        refine LW.done ?_
        refine T.ret ?_
        exact ⟨.inl rfl, _, _, res [_, _, _] rfl ⟨rvT rfl, rvT rfl, rvT rfl, trivial⟩, ⟨rfl, rfl⟩, Sub.any⟩
      · skip
        try replace h3 := of_decide_eq_false h3
        refine LW.q rfl (Qt.move rfl) ?_
        refine LW.q rfl (Qt.move rfl) ?_
        refine LW.q rfl (Qt.nilCheck rfl) ?_
        refine LW.q rfl (Qt.fieldAddr0 (by kernel_rfl) rfl) ?_
        refine LW.e rfl (Ef.call (Dk.sectorsF B b D) Tryd.func31 rfl rfl rfl ?_)
        rintro _ _ ⟨rfl, rfl⟩
        try simp only [List.cons_append, List.nil_append]
        refine LW.q rfl (Qt.move rfl) ?_
        refine LW.q rfl (Qt.sub rfl rfl (wr64 (by omega) (by omega))) ?_
        refine LW.q rfl (Qt.gtr rfl rfl) ?_
        refine LW.q rfl (Qt.pick rfl rfl) ?_
        refine LW.done ?_
        first | refine T.condT rfl ?_ | refine T.condPT rfl (by omega) ?_ | refine T.condBT rfl (by omega) ?_
        refine T.seq ?_
        refine T.region ?_
        refine LW.q rfl (Qt.assign rfl) ?_
        refine LW.q rfl (Qt.assign rfl) ?_
        refine LW.q rfl (Qt.assign rfl) ?_
        refine LW.done ?_
        refine T.ret ?_
        exact ⟨.inl rfl, _, _, res [_, _, _] rfl ⟨rvT rfl, rvT rfl, rvT rfl, trivial⟩, ⟨rfl, rfl⟩, Sub.any⟩
end Go.Proofs.YtegohgaccmkigaaDoor
