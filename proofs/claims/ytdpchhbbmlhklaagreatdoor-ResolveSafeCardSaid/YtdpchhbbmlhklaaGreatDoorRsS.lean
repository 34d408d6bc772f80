/- Nothing is laid here. -/
import Derived.Test.YtdpchhbbmlhklaaGreatDoorProg
