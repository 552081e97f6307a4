/- A part of this proof: AlarmPlays returns true for every input and leaves its arguments as they were; there are no conditions. -/
import Derived.Test.YtaclkgdbkejfjaaO
namespace Go.Lk
theorem br_AlarmPlays (a0 : List limelightlaw12_Ask) (q0 : (∀ a ∈ a0, Q36 a) ∧ a0.length * 24 ≤ 140737488351232) : limelightlaw12_AlarmPlays a0 = some true := alarmPlays_eq a0 (by omega)
end Go.Lk
