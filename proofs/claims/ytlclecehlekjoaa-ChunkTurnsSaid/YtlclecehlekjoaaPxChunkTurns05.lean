import Derived.Lib.MakeNoZero
import Derived.Test.YtlclecehlekjoaaPxChunkTurns04

