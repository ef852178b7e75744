/-
  massiflaw17.DiskChosen: its walk and the opening of its arguments, side by side.
-/
import Derived.Test.YtiiblpgiafbaoaaLawChosen
import Derived.Test.YtiiblpgiafbaoaaEditsOpen
