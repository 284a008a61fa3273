/- What is done to one memory does not touch another one, and what is put into a memory, and cleared, leaves it as it was at first: the program's MemoryApart is true at every input. No conditions. -/
import Derived.Test.YtdboiflfehpjhaaBrid4
import Derived.Test.YtdboiflfehpjhaaPlain4g
namespace Go.Proofs.Ytdboiflfehpjhaa.lawMemory
theorem memoryApart_holds : Rows.MemoryApartSaid := holds Try.plain4
end Go.Proofs.Ytdboiflfehpjhaa.lawMemory
