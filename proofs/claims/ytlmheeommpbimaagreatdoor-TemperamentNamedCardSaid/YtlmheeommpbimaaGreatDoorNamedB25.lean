/- Part 25 of 37 of the proof of the law: contracts of the functions that it reaches, and plain facts. Conditions: those that each contract names. -/
import Derived.Test.YtlmheeommpbimaaGreatDoorNamedB24
import Derived.Deep.RegionHeld3
import Derived.Test.YtlmheeommpbimaaGreatDoorNamedB07
import Derived.BigQuiet
