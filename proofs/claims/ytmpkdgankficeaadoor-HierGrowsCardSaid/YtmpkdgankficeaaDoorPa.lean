/- Reading types: a byte. -/
import Derived.Test.YtmpkdgankficeaaDoorLw
import Derived.Test.YtmpkdgankficeaaDoorBs
import Derived.BigQuiet
import Derived.Lib.Hide
import Derived.Deep.QuietTactic
set_option maxRecDepth 100000
set_option maxHeartbeats 4000000
set_option linter.unusedVariables false
set_option linter.unusedSimpArgs false
namespace Go.Proofs.YtmpkdgankficeaaDoor.Pr
open Go.RowKit Bs

/-- The text of these bytes. -/
def ba (l : List UInt8) : ByteArray := ⟨l.toArray⟩
theorem ba_list (l : List UInt8) : (ba l).data.toList = l := by simp [ba]
theorem ba_toList (l : List UInt8) : (ba l).toList = l := by rw [ByteArray.toList_eq]; simp [ba]
theorem ba_size (l : List UInt8) : (ba l).size = l.length := by simp [ba, ByteArray.size]
theorem ba_of (s : ByteArray) : ba s.data.toList = s := str_ext (by simp [ba])
theorem ba_rest (c : UInt8) (r : List UInt8) : (ba (c :: r)).extract 1 (ba (c :: r)).size = ba r := str_ext ((extract_rest (ba (c :: r)) c r (ba_list _)).trans (ba_list r).symm)

/-- take: not there. -/
theorem take_no (b : Nat) (l : List UInt8) (c : UInt8) (w : World) (h : w.cell? ⟨b, 0, none⟩ = some (.string (ba l))) (hl : l.head? ≠ some c) (hz : l.length ≤ 9223372036854775807) :
    Calls Tryd.prog 81 #[.pointer (some ⟨b, 0, none⟩), .int .u8 c.toNat] w fun e w' => e = .returned (.bool false) ∧ w = w' := by
  cases l with
  | nil =>
    have e1 : (ba []).toList.isEmpty = true := by rw [ba_toList]; rfl
    have e2 : (!(ba []).toList.isEmpty) = false := by rw [ba_toList]; rfl
    go_enter Tryd.func81, Tryd.ntmps81
    go_wp2
    go_ret
    exact ⟨rfl, rfl⟩
  | cons x r =>
    have e1 : (ba (x :: r)).toList.isEmpty = false := by rw [ba_toList]; rfl
    have e2 : (!(ba (x :: r)).toList.isEmpty) = true := by rw [ba_toList]; rfl
    have e3 : (0 : Nat) < (ba (x :: r)).size := by rw [ba_size]; simp
    have e5 : ((((ba (x :: r))[0]'e3).toNat : Int) != (c.toNat : Int)) = true := by
      have h1 : (ba (x :: r))[0]'e3 = x := by simp [ba, ByteArray.getElem_eq_getElem_data]
      rw [h1]
      have h2 : x ≠ c := fun e => hl (by rw [e]; rfl)
      have h3 : x.toNat ≠ c.toNat := fun e => h2 (UInt8.toNat_inj.1 e)
      rw [bne_iff_ne]
      omega
    go_enter Tryd.func81, Tryd.ntmps81
    go_wp2
    go_ret
    exact ⟨rfl, rfl⟩

/-- take: it stands there. -/
theorem take_yes (b : Nat) (r : List UInt8) (c : UInt8) (w : World) (h : w.cell? ⟨b, 0, none⟩ = some (.string (ba (c :: r)))) (hf : w.frozen? ⟨b, 0, none⟩ = false) (hz : r.length + 1 ≤ 9223372036854775807) :
    Calls Tryd.prog 81 #[.pointer (some ⟨b, 0, none⟩), .int .u8 c.toNat] w fun e w' => e = .returned (.bool true) ∧ w' = w.setCell ⟨b, 0, none⟩ (.string (ba r)) := by
  have e1 : (ba (c :: r)).toList.isEmpty = false := by rw [ba_toList]; rfl
  have e2 : (!(ba (c :: r)).toList.isEmpty) = true := by rw [ba_toList]; rfl
  have e3 : (0 : Nat) < (ba (c :: r)).size := by rw [ba_size]; simp
  have e5 : ((((ba (c :: r))[0]'e3).toNat : Int) != (c.toNat : Int)) = false := by
    have h1 : (ba (c :: r))[0]'e3 = c := by simp [ba, ByteArray.getElem_eq_getElem_data]
    rw [h1]
    simp
  have F := Lib.hid (ba_rest c r)
  go_enter Tryd.func81, Tryd.ntmps81
  go_wp2
  go_ret
  exact ⟨rfl, by rw [F.out]⟩
end Go.Proofs.YtmpkdgankficeaaDoor.Pr
