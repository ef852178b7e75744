/-
  massiflaw17.DiskPlain: its walk and the opening of its arguments, side by side.
-/
import Derived.Test.YtiiblpgiafbaoaaLawPlain
import Derived.Test.YtiiblpgiafbaoaaLawOpsOpen
