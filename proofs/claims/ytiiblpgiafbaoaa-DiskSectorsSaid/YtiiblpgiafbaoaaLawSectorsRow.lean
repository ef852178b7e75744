/-
  massiflaw17.DiskSectors: its walk and the opening of its arguments, side by side.
-/
import Derived.Test.YtiiblpgiafbaoaaLawSectors
import Derived.Test.YtiiblpgiafbaoaaEditsOpen
