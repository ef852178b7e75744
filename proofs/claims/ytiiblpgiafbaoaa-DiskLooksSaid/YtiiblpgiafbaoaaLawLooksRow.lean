/-
  massiflaw17.DiskLooks: its walk and the opening of its arguments, side by side.
-/
import Derived.Test.YtiiblpgiafbaoaaLawLooks
import Derived.Test.YtiiblpgiafbaoaaLawOpsOpen
