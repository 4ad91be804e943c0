/- Part 26 of 42 of the proof of the law: contracts of the functions that it reaches, and plain facts. Conditions: those that each contract names. -/
import Derived.Test.YtlmheeommpbimaaGreatDoorRestsB25
import Derived.Deep.RegionHeld3
import Derived.Test.YtlmheeommpbimaaGreatDoorRestsB07
import Derived.BigQuiet
