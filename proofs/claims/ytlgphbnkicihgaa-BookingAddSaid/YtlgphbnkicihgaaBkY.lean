/- A part of the proof: see the last text. -/
import Derived.Test.YtlgphbnkicihgaaAbY
