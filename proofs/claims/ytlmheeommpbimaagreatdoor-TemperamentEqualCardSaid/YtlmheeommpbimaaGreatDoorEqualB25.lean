/- Part 25 of 37 of the proof of the law: contracts of the functions that it reaches, and plain facts. Conditions: those that each contract names. -/
import Derived.Test.YtlmheeommpbimaaGreatDoorEqualB24
import Derived.Deep.RegionHeld3
import Derived.Test.YtlmheeommpbimaaGreatDoorEqualB07
import Derived.BigQuiet
