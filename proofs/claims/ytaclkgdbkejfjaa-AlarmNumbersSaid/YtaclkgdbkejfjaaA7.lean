/- A part of this proof: AlarmNumbers returns true for every input and leaves its arguments as they were; there are no conditions. -/
import Derived.Test.YtaclkgdbkejfjaaA6
namespace Go.Lk
theorem br_AlarmNumbers : limelightlaw12_AlarmNumbers = some true := alarmNumbers_eq
end Go.Lk
