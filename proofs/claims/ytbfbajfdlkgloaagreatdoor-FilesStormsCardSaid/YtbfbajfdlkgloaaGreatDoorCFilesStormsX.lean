/-
  massiflaw19.FilesStorms: its walk and the opening of its arguments, side by side.
-/
import Derived.Test.YtbfbajfdlkgloaaGreatDoorCFilesStormsW
import Derived.Test.YtbfbajfdlkgloaaGreatDoorCFilesStormOpen
