/-
  massiflaw17.DiskFates: its walk and the opening of its arguments, side by side.
-/
import Derived.Test.YtiiblpgiafbaoaaLawFates
import Derived.Test.YtiiblpgiafbaoaaLawOpsOpen
import Derived.Test.YtiiblpgiafbaoaaFateOpen
