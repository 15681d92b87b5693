/- Layer 13's contracts in the form in which layer 16 takes them. -/
import Derived.Test.YtpmdpfgaafaceaaAuthC
import Derived.Test.YtpmdpfgaafaceaaNamesJ
namespace Go.Proofs.Ytpmdpfgaafaceaa
open Go.RowKit Go.PlainAid
set_option linter.unusedVariables false

def userB (s : ByteArray) : Bool := partedR s 64 userI
def roomB (s : ByteArray) : Bool := partedR s 33 roomI
def locOf (s : ByteArray) : ByteArray := s.extract 1 (colonI s).toNat
def srvOf (s : ByteArray) : ByteArray := s.extract ((colonI s).toNat + 1) s.size
theorem reach_max {s : ByteArray} (h : s.size ≤ reach) : s.size ≤ maxLen := by unfold reach at h; unfold maxLen; omega

theorem userB_any (s : ByteArray) (w : World) (hs : s.size ≤ reach) (hm : HasMax w) :
    Calls Try.prog 39 #[.string s] w fun e w' => e = .returned (.bool (userB s)) ∧ Below w.heap.size w w' := user_any s w (reach_max hs) hm
theorem roomB_any (s : ByteArray) (w : World) (hs : s.size ≤ reach) (hm : HasMax w) :
    Calls Try.prog 38 #[.string s] w fun e w' => e = .returned (.bool (roomB s)) ∧ Below w.heap.size w w' := room_any s w (reach_max hs) hm
theorem ruserB_any (s : ByteArray) (w : World) (hs : s.size ≤ reach) :
    Calls Try.prog 52 #[.string s] w fun e w' => e = .returned (.bool (userB s)) ∧ Below w.heap.size w w' :=
  (ruser_any s w (reach_max hs)).mono fun e w' ⟨he, hw⟩ => ⟨he, by rw [← hw]; exact Below.refl _ _⟩
theorem rroomB_any (s : ByteArray) (w : World) (hs : s.size ≤ reach) :
    Calls Try.prog 51 #[.string s] w fun e w' => e = .returned (.bool (roomB s)) ∧ Below w.heap.size w w' :=
  (rroom_any s w (reach_max hs)).mono fun e w' ⟨he, hw⟩ => ⟨he, by rw [← hw]; exact Below.refl _ _⟩
theorem splitY (s : ByteArray) (w : World) (hs : s.size ≤ reach) (hm : HasMax w) (h : namedR s = true) :
    Calls Try.prog 37 #[.string s] w fun e w' => e = .returned (.tuple #[.string (locOf s), .string (srvOf s), .nilIface]) ∧ Below w.heap.size w w' := by
  obtain ⟨k, hk, _⟩ := named_colon h
  have e : (colonI s).toNat = k := by omega
  unfold locOf srvOf
  rw [e]
  exact split_yes s w k (reach_max hs) hm h hk
theorem splitN (s : ByteArray) (w : World) (hs : s.size ≤ reach) (hm : HasMax w) (h : namedR s = false) :
    Calls Try.prog 37 #[.string s] w fun e w' => e = .returned (.tuple #[.string ⟨#[]⟩, .string ⟨#[]⟩, .iface 81 (.int .i64 3)]) ∧ Below w.heap.size w w' := split_no s w (reach_max hs) hm h
theorem rsplitY (s : ByteArray) (w : World) (hs : s.size ≤ reach) (h : namedR s = true) :
    Calls Try.prog 50 #[.string s] w fun e w' => e = .returned (.tuple #[.string (locOf s), .string (srvOf s), .int .i64 0]) ∧ Below w.heap.size w w' := by
  obtain ⟨k, hk, _⟩ := named_colon h
  have e : (colonI s).toNat = k := by omega
  unfold locOf srvOf
  rw [e]
  exact (rsplit_yes s w k (reach_max hs) h hk).mono fun e w' ⟨he, n, hw⟩ => ⟨he, by rw [hw]; exact below_drewN (Below.refl _ _) n⟩
theorem rsplitN (s : ByteArray) (w : World) (hs : s.size ≤ reach) (h : namedR s = false) :
    Calls Try.prog 50 #[.string s] w fun e w' => e = .returned (.tuple #[.string ⟨#[]⟩, .string ⟨#[]⟩, .int .i64 3]) ∧ Below w.heap.size w w' :=
  (rsplit_no s w (reach_max hs) h).mono fun e w' ⟨he, hw⟩ => ⟨he, by rw [← hw]; exact Below.refl _ _⟩
end Go.Proofs.Ytpmdpfgaafaceaa
