/- Part 24 of 47 of the proof of the law: contracts of the functions that it reaches, and plain facts. Conditions: those that each contract names. -/
import Derived.Test.YtendjepcjmfmfaaGreatDoorOrdB23
import Derived.Deep.RegionHeld3
import Derived.Test.YtendjepcjmfmfaaGreatDoorOrdB07
import Derived.BigQuiet
