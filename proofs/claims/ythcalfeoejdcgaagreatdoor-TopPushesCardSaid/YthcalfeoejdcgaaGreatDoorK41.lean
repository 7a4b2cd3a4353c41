import Derived.Test.YthcalfeoejdcgaaGreatDoorK35
import Derived.KernelRfl
namespace Go.Proofs.YthcalfeoejdcgaaGreatDoor
open Go.RowKit Go.RowKit
theorem yzh :ydo (T4 4) Tryz.f4.results.toList ((R4 4).code 110 (yd9 Tryz.f4.body) pL0.tm sPu)=true:=by kernel_rfl
end Go.Proofs.YthcalfeoejdcgaaGreatDoor
