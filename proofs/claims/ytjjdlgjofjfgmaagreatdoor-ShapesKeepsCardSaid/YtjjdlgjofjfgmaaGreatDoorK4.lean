/-
 (Its theorems lie in K2 and K3.)
-/
import Derived.Test.YtjjdlgjofjfgmaaGreatDoorK2
import Derived.Test.YtjjdlgjofjfgmaaGreatDoorK3
