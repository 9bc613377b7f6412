/- RiscNumbers: what the proof imports. -/
import Derived.Test.YtembhjfejhnpfaaRiscP
import Derived.Test.YtembhjfejhnpfaaRiscNumW
