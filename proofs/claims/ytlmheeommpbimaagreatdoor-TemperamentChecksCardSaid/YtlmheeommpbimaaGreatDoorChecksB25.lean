/- Part 25 of 39 of the proof of the law: contracts of the functions that it reaches, and plain facts. Conditions: those that each contract names. -/
import Derived.Test.YtlmheeommpbimaaGreatDoorChecksB24
import Derived.Deep.RegionHeld3
import Derived.Test.YtlmheeommpbimaaGreatDoorChecksB07
import Derived.BigQuiet
