/- Part 27 of 42 of the proof of the law: contracts of the functions that it reaches, and plain facts. Conditions: those that each contract names. -/
import Derived.Test.YtlmheeommpbimaaGreatDoorRestsB26
import Derived.Test.YtlmheeommpbimaaGreatDoorRestsB13
import Derived.Test.YtlmheeommpbimaaGreatDoorRestsB03
import Derived.Test.YtlmheeommpbimaaGreatDoorRestsB25
import Derived.BigQuiet
import Derived.Deep.QuietTactic
