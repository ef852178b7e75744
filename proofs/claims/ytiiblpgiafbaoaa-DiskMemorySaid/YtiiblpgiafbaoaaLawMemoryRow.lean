/-
  massiflaw17.DiskMemory: its walk and the opening of its arguments, side by side.
-/
import Derived.Test.YtiiblpgiafbaoaaLawMemory
import Derived.Test.YtiiblpgiafbaoaaEditsOpen
