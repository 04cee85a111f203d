import Derived.Test.YtffboamedcmpaaaGreatDoorRows
import Derived.ProofKit
import Derived.OpenShut
import Derived.Carry
import Derived.Test.YtffboamedcmpaaaGreatDoorProg
import Derived.KernelRfl
import Derived.Lib.SmallJoins
import Derived.Deep.Slices
import GoSem.Core.Utf8
import Derived.Lib.Bytealg
import GoSem.Op.String
import Derived.Test.YtffboamedcmpaaaGreatDoorBd
set_option linter.all false
set_option maxHeartbeats 4000000
set_option maxRecDepth 100000
namespace Go.Proofs.YtffboamedcmpaaaGreatDoor
open Go.ChangeShapes Go.WideShapes Go.RowKit
theorem aap {w:World} {a:Addr} {v:Value} (h:w.cell? a=some v):a.block<w.heap.size:=by
 rcases Nat.lt_or_ge a.block w.heap.size with hl|hl
 ·exact hl
 ·have:w.heap[a.block]? =none:=by simp [hl]
  simp [World.cell?,this] at h
section
variable {H:Type} {enc:TypeId×Value->H} {P:Program}
theorem aaq (hl:laidOutB P=true) {W W':World} (hb:Below W.heap.size W W'):∀ (ts:List TypeId) (vs:List Value) (ds:List (DataW H)) (ps:List MemPlace),
  (∀ t∈ts,P.readableRec t=true/\t<P.types.size)->DataW.TrodAll enc P W 0 (λ_=>true) true ts vs ds ps->(∀ x∈ps,x.block<W.heap.size)->
  DataW.TrodAll enc P W' 0 (λb=>decide (b<W.heap.size)) true ts vs ds ps:=by
 intro ts
 induction ts with
 |nil=>
  intro vs ds ps _ h _;obtain ⟨rfl,rfl,rfl⟩:=trodAll_nil h;exact trodAll_mk0
 |cons t ts ih=>
  intro vs ds ps hr h hlt;obtain ⟨v,vs',d,ds',p,q,rfl,rfl,rfl,h0,hs⟩:=trodAll_cons h;have h1:=hr t (by simp);exact trodAll_cons_mk (Below.trod hl h1.1 h1.2 h0 hb (λx hx=>hlt x (by simp [hx]))) (ih vs' ds' q (λt ht=>hr t (by simp [ht])) hs (λx hx=>hlt x (by simp [hx])))
theorem RD {f:Func} {s:ChangeSpec} {W W':World} {args:Array Value} {ds:List (DataW H)} {before:List MemPlace} {tb:TypeId}
  (hW:DataW.Whole enc P f.params.toList s.vars false W args.toList ds [] before) (hvs:s.vars=[])
  (hfn:s.fn H (ds++[])={results:=[.lit (.bool true)],args:=ds}) (hrt:f.resultTypes=#[tb]) (htb:P.underlying tb=some .bool)
  (hl:laidOutB P=true) (hr:∀ t∈f.params.toList,P.readableRec t=true/\t<P.types.size) (hb:Below W.heap.size W W'):
  s.post enc P f false true false false W args (.bool true) W':=by
 have hlt:∀ p∈before,p.block<W.heap.size:=λp hp=>hW.lt p hp
 have hW0:=hW;obtain ⟨p,q,hA,hV,rfl,hz,hn⟩:=hW;rw [hvs] at hV;obtain ⟨_,rfl⟩:=trodVars_none hV;refine ⟨ds,[],p++[],[],p,[],hW0,?_,?_,?_,?_,λh=>by cases h⟩
 ·rw [hfn,hrt];exact trodAll_mk1 (shut_bool htb true)
 ·rw [hfn];exact aaq hl hb _ _ _ _ hr hA (λx hx=>hlt x (by simp [hx]))
 ·rw [hfn,hvs];rfl
 ·exact World.keptBut_mono (λ_ h=>h) (hb.frame _)
end
open Go.Am
abbrev bH:ae:= .ag true 1 [] .bR
abbrev aB:ae:= .aa .i64 0
def tI:cN:=[(2,⟨.eP .i64,1,8,[aB]⟩),
 (3,⟨.eP .i64,1,8,[aB]⟩),
 (4,⟨.ij,1,1,[.bo]⟩),
 (5,⟨.eP .u8,1,1,[.aa .u8 0]⟩),
 (7,⟨.bO [(0,2),(1,3),(2,4),(3,6)],4,24,[aB,aB, .bo, .aa .u8 0]⟩),
 (9,⟨.fF,1,16,[.ai []]⟩),
 (12,⟨.eP .u64,1,8,[.aa .u64 0]⟩),
 (13,⟨.bO [(0,9),(1,12)],2,24,[.ai [], .aa .u64 0]⟩),
 (18,⟨.bO [(0,17)],1,8,[.bU]⟩),
 (20,⟨.fB,1,16,[.cq]⟩),
 (21,⟨.eP .i32,1,4,[.aa .i32 0]⟩),
 (26,⟨.bO [(0,24),(1,25)],2,48,[bH,bH]⟩),
 (27,⟨.bO [(0,24),(1,25)],2,48,[bH,bH]⟩),
 (30,⟨.bO [(0,27),(2,3),(3,3),(4,28),(5,29),(6,3)],7,120,[bH,bH,aB,aB,bH,bH,aB]⟩),
 (31,⟨.bO [(0,27),(2,3),(3,3),(4,28),(5,29),(6,3)],7,120,[bH,bH,aB,aB,bH,bH,aB]⟩),
 (33,⟨.bO [(0,32),(1,32)],2,48,[bH,bH]⟩),
 (34,⟨.bO [(0,32),(1,32)],2,48,[bH,bH]⟩),
 (36,⟨.bO [(0,3),(1,35)],2,32,[aB,bH]⟩),
 (37,⟨.bO [(0,3),(1,35)],2,32,[aB,bH]⟩),
 (40,⟨.bO [(0,31),(7,34),(9,37),(11,38),(12,3),(13,39)],14,256,[bH,bH,aB,aB,bH,bH,aB,bH,bH,aB,bH,bH,aB,bH]⟩),
 (41,⟨.bO [(0,31),(7,34),(9,37),(11,38),(12,3),(13,39)],14,256,[bH,bH,aB,aB,bH,bH,aB,bH,bH,aB,bH,bH,aB,bH]⟩),
 (43,⟨.bO [(0,3),(1,9),(2,42)],3,48,[aB, .ai [],bH]⟩),
 (44,⟨.bO [(0,3),(1,9),(2,42)],3,48,[aB, .ai [],bH]⟩),
 (46,⟨.bO [(0,44),(3,3),(4,3),(5,3),(6,3),(7,3),(8,3),(9,45),(10,4),(11,3),(12,3),(13,3)],14,152,[aB, .ai [],bH,aB,aB,aB,aB,aB,aB,bH, .bo,aB,aB,aB]⟩),
 (47,⟨.bO [(0,44),(3,3),(4,3),(5,3),(6,3),(7,3),(8,3),(9,45),(10,4),(11,3),(12,3),(13,3)],14,152,[aB, .ai [],bH,aB,aB,aB,aB,aB,aB,bH, .bo,aB,aB,aB]⟩),
 (48,⟨.bO [(0,41),(14,47),(28,3)],29,416,[bH,bH,aB,aB,bH,bH,aB,bH,bH,aB,bH,bH,aB,bH,aB, .ai [],bH,aB,aB,aB,aB,aB,aB,bH, .bo,aB,aB,aB,aB]⟩),
 (49,⟨.bO [(0,41),(14,47),(28,3)],29,416,[bH,bH,aB,aB,bH,bH,aB,bH,bH,aB,bH,bH,aB,bH,aB, .ai [],bH,aB,aB,aB,aB,aB,aB,bH, .bo,aB,aB,aB,aB]⟩),
 (50,⟨.eP .i64,1,8,[aB]⟩),
 (59,⟨.bO [(0,9),(1,3),(2,9)],3,40,[.ai [],aB, .ai []]⟩),
 (60,⟨.bO [(0,9),(1,3),(2,9)],3,40,[.ai [],aB, .ai []]⟩),
 (61,⟨.bO [(0,3),(1,3)],2,16,[aB,aB]⟩),
 (62,⟨.bO [(0,3),(1,3)],2,16,[aB,aB]⟩),
 (63,⟨.bO [(0,3),(1,3),(2,9),(3,62),(5,9),(6,62)],8,80,[aB,aB, .ai [],aB,aB, .ai [],aB,aB]⟩),
 (64,⟨.bO [(0,3),(1,3),(2,9),(3,62),(5,9),(6,62)],8,80,[aB,aB, .ai [],aB,aB, .ai [],aB,aB]⟩),
 (72,⟨.bO [(0,3),(1,9),(2,9),(3,9),(4,3)],5,64,[aB, .ai [], .ai [], .ai [],aB]⟩),
 (73,⟨.bO [(0,3),(1,9),(2,9),(3,9),(4,3)],5,64,[aB, .ai [], .ai [], .ai [],aB]⟩),
 (75,⟨.bO [(0,50),(1,9),(2,45),(3,3),(4,74)],5,80,[aB, .ai [],bH,aB,bH]⟩),
 (76,⟨.bO [(0,50),(1,9),(2,45),(3,3),(4,74)],5,80,[aB, .ai [],bH,aB,bH]⟩),
 (77,⟨.bO [(0,73),(5,57),(6,3),(7,4),(8,4),(9,3),(10,3),(11,3),(12,3),(13,76)],18,216,[aB, .ai [], .ai [], .ai [],aB,bH,aB, .bo, .bo,aB,aB,aB,aB,aB, .ai [],bH,aB,bH]⟩),
 (78,⟨.bO [(0,73),(5,57),(6,3),(7,4),(8,4),(9,3),(10,3),(11,3),(12,3),(13,76)],18,216,[aB, .ai [], .ai [], .ai [],aB,bH,aB, .bo, .bo,aB,aB,aB,aB,aB, .ai [],bH,aB,bH]⟩),
 (79,⟨.bO [(0,3),(1,73),(6,3),(7,9)],8,96,[aB,aB, .ai [], .ai [], .ai [],aB,aB, .ai []]⟩),
 (80,⟨.bO [(0,3),(1,73),(6,3),(7,9)],8,96,[aB,aB, .ai [], .ai [], .ai [],aB,aB, .ai []]⟩),
 (97,⟨.bO [(0,3),(1,3),(2,3),(3,3),(4,73),(9,76)],14,176,[aB,aB,aB,aB,aB, .ai [], .ai [], .ai [],aB,aB, .ai [],bH,aB,bH]⟩),
 (98,⟨.bO [(0,3),(1,3),(2,3),(3,3),(4,73),(9,76)],14,176,[aB,aB,aB,aB,aB, .ai [], .ai [], .ai [],aB,aB, .ai [],bH,aB,bH]⟩),
 (115,⟨.e8 117,1,8,[.bU]⟩),
 (116,⟨.bO [(0,31),(7,76),(12,73),(17,39)],18,288,[bH,bH,aB,aB,bH,bH,aB,aB, .ai [],bH,aB,bH,aB, .ai [], .ai [], .ai [],aB,bH]⟩),
 (117,⟨.bO [(0,31),(7,76),(12,73),(17,39)],18,288,[bH,bH,aB,aB,bH,bH,aB,aB, .ai [],bH,aB,bH,aB, .ai [], .ai [], .ai [],aB,bH]⟩),
 (120,⟨.gE,1,8,[.bV]⟩),
 (125,⟨.e8 128,1,8,[.bU]⟩),
 (127,⟨.bO [(0,125),(1,126)],2,32,[.bU,bH]⟩),
 (128,⟨.bO [(0,125),(1,126)],2,32,[.bU,bH]⟩),
 (129,⟨.bO [(0,62),(2,3),(3,3),(4,3),(5,9),(6,9)],7,72,[aB,aB,aB,aB,aB, .ai [], .ai []]⟩),
 (130,⟨.bO [(0,62),(2,3),(3,3),(4,3),(5,9),(6,9)],7,72,[aB,aB,aB,aB,aB, .ai [], .ai []]⟩),
 (132,⟨.fB,1,16,[.cq]⟩),
 (133,⟨.fB,1,16,[.cq]⟩),
 (137,⟨.bO [(0,4),(1,4),(2,64)],10,88,[.bo, .bo,aB,aB, .ai [],aB,aB, .ai [],aB,aB]⟩),
 (138,⟨.bO [(0,4),(1,4),(2,64)],10,88,[.bo, .bo,aB,aB, .ai [],aB,aB, .ai [],aB,aB]⟩),
 (139,⟨.bO [(0,130),(7,138)],17,160,[aB,aB,aB,aB,aB, .ai [], .ai [], .bo, .bo,aB,aB, .ai [],aB,aB, .ai [],aB,aB]⟩),
 (140,⟨.bO [(0,130),(7,138)],17,160,[aB,aB,aB,aB,aB, .ai [], .ai [], .bo, .bo,aB,aB, .ai [],aB,aB, .ai [],aB,aB]⟩),
 (141,⟨.gE,1,8,[.bV]⟩),
 (143,⟨.gE,1,8,[.bV]⟩),
 (146,⟨.e8 148,1,8,[.bU]⟩),
 (147,⟨.bO [(0,47)],14,152,[aB, .ai [],bH,aB,aB,aB,aB,aB,aB,bH, .bo,aB,aB,aB]⟩),
 (148,⟨.bO [(0,47)],14,152,[aB, .ai [],bH,aB,aB,aB,aB,aB,aB,bH, .bo,aB,aB,aB]⟩),
 (162,⟨.e8 166,1,8,[.bU]⟩),
 (165,⟨.bO [(0,47),(14,164)],15,160,[aB, .ai [],bH,aB,aB,aB,aB,aB,aB,bH, .bo,aB,aB,aB, .cA]⟩),
 (166,⟨.bO [(0,47),(14,164)],15,160,[aB, .ai [],bH,aB,aB,aB,aB,aB,aB,bH, .bo,aB,aB,aB, .cA]⟩),
 (181,⟨.bO [(0,74),(1,4)],2,32,[bH, .bo]⟩),
 (182,⟨.bO [(0,74),(1,4)],2,32,[bH, .bo]⟩),
 (183,⟨.bO [(0,3),(1,3),(2,182)],4,48,[aB,aB,bH, .bo]⟩),
 (184,⟨.bO [(0,3),(1,3),(2,182)],4,48,[aB,aB,bH, .bo]⟩),
 (185,⟨.e8 184,1,8,[.bU]⟩),
 (190,⟨.fB,1,16,[.cq]⟩),
 (191,⟨.fB,1,16,[.cq]⟩),
 (194,⟨.e8 5,1,8,[.bU]⟩),
 (215,⟨.bO [(0,3),(1,9)],2,24,[aB, .ai []]⟩),
 (216,⟨.bO [(0,3),(1,9)],2,24,[aB, .ai []]⟩),
 (223,⟨.e7 16 5,16,16,[.aa .u8 0, .aa .u8 0, .aa .u8 0, .aa .u8 0, .aa .u8 0, .aa .u8 0, .aa .u8 0, .aa .u8 0, .aa .u8 0, .aa .u8 0, .aa .u8 0, .aa .u8 0, .aa .u8 0, .aa .u8 0, .aa .u8 0, .aa .u8 0]⟩),
 (228,⟨.eP .u64,1,8,[.aa .u64 0]⟩),
 (231,⟨.e8 235,1,8,[.bU]⟩),
 (232,⟨.bO [(0,3),(1,3)],2,16,[aB,aB]⟩),
 (233,⟨.bO [(0,3),(1,3)],2,16,[aB,aB]⟩),
 (234,⟨.bO [(0,41),(14,3),(15,233)],17,280,[bH,bH,aB,aB,bH,bH,aB,bH,bH,aB,bH,bH,aB,bH,aB,aB,aB]⟩),
 (235,⟨.bO [(0,41),(14,3),(15,233)],17,280,[bH,bH,aB,aB,bH,bH,aB,bH,bH,aB,bH,bH,aB,bH,aB,aB,aB]⟩),
 (239,⟨.gE,1,8,[.bV]⟩),
 (263,⟨.bO [(0,3),(1,25)],2,32,[aB,bH]⟩),
 (264,⟨.bO [(0,3),(1,25)],2,32,[aB,bH]⟩),
 (280,⟨.gE,1,8,[.bV]⟩),
 (286,⟨.bO [(0,130)],7,72,[aB,aB,aB,aB,aB, .ai [], .ai []]⟩),
 (287,⟨.bO [(0,130)],7,72,[aB,aB,aB,aB,aB, .ai [], .ai []]⟩),
 (288,⟨.bO [(0,130)],7,72,[aB,aB,aB,aB,aB, .ai [], .ai []]⟩),
 (304,⟨.bO [(0,3),(1,9)],2,24,[aB, .ai []]⟩),
 (305,⟨.bO [(0,3),(1,9)],2,24,[aB, .ai []]⟩),
 (308,⟨.e8 3,1,8,[.bU]⟩),
 (309,⟨.e8 9,1,8,[.bU]⟩),
 (318,⟨.eP .u32,1,4,[.aa .u32 0]⟩),
 (324,⟨.e7 16 5,16,16,[.aa .u8 0, .aa .u8 0, .aa .u8 0, .aa .u8 0, .aa .u8 0, .aa .u8 0, .aa .u8 0, .aa .u8 0, .aa .u8 0, .aa .u8 0, .aa .u8 0, .aa .u8 0, .aa .u8 0, .aa .u8 0, .aa .u8 0, .aa .u8 0]⟩),
 (330,⟨.bO [(0,3),(1,3)],2,16,[aB,aB]⟩),
 (331,⟨.bO [(0,3),(1,3)],2,16,[aB,aB]⟩),
 (338,⟨.fB,1,16,[.cq]⟩),
 (339,⟨.fB,1,16,[.cq]⟩),
 (369,⟨.bO [(0,3),(1,3)],2,16,[aB,aB]⟩),
 (370,⟨.bO [(0,3),(1,3)],2,16,[aB,aB]⟩),
 (373,⟨.e7 2 35,2,48,[bH,bH]⟩),
 (375,⟨.bO [],0,0,[]⟩),
 (376,⟨.bO [],0,0,[]⟩),
 (377,⟨.bO [(0,45)],1,24,[bH]⟩),
 (378,⟨.bO [(0,45)],1,24,[bH]⟩),
 (379,⟨.bO [(0,73)],5,64,[aB, .ai [], .ai [], .ai [],aB]⟩),
 (380,⟨.bO [(0,73)],5,64,[aB, .ai [], .ai [], .ai [],aB]⟩),
 (386,⟨.e8 78,1,8,[.bU]⟩),
 (399,⟨.eP .i64,1,8,[aB]⟩),
 (407,⟨.eP .u64,1,8,[.aa .u64 0]⟩),
 (411,⟨.e7 2 318,2,8,[.aa .u32 0, .aa .u32 0]⟩),
 (412,⟨.e8 415,1,8,[.bU]⟩),
 (414,⟨.bO [(0,34)],2,48,[bH,bH]⟩),
 (415,⟨.bO [(0,34)],2,48,[bH,bH]⟩),
 (431,⟨.eP .u64,1,8,[.aa .u64 0]⟩),
 (443,⟨.e8 431,1,8,[.bU]⟩),
 (448,⟨.e7 256 5,256,256,[.aa .u8 0, .aa .u8 0, .aa .u8 0, .aa .u8 0, .aa .u8 0, .aa .u8 0, .aa .u8 0, .aa .u8 0, .aa .u8 0, .aa .u8 0, .aa .u8 0, .aa .u8 0, .aa .u8 0, .aa .u8 0, .aa .u8 0, .aa .u8 0, .aa .u8 0, .aa .u8 0, .aa .u8 0, .aa .u8 0, .aa .u8 0, .aa .u8 0, .aa .u8 0, .aa .u8 0, .aa .u8 0, .aa .u8 0, .aa .u8 0, .aa .u8 0, .aa .u8 0, .aa .u8 0, .aa .u8 0, .aa .u8 0, .aa .u8 0, .aa .u8 0, .aa .u8 0, .aa .u8 0, .aa .u8 0, .aa .u8 0, .aa .u8 0, .aa .u8 0, .aa .u8 0, .aa .u8 0, .aa .u8 0, .aa .u8 0, .aa .u8 0, .aa .u8 0, .aa .u8 0, .aa .u8 0, .aa .u8 0, .aa .u8 0, .aa .u8 0, .aa .u8 0, .aa .u8 0, .aa .u8 0, .aa .u8 0, .aa .u8 0, .aa .u8 0, .aa .u8 0, .aa .u8 0, .aa .u8 0, .aa .u8 0, .aa .u8 0, .aa .u8 0, .aa .u8 0, .aa .u8 0, .aa .u8 0, .aa .u8 0, .aa .u8 0, .aa .u8 0, .aa .u8 0, .aa .u8 0, .aa .u8 0, .aa .u8 0, .aa .u8 0, .aa .u8 0, .aa .u8 0, .aa .u8 0, .aa .u8 0, .aa .u8 0, .aa .u8 0, .aa .u8 0, .aa .u8 0, .aa .u8 0, .aa .u8 0, .aa .u8 0, .aa .u8 0, .aa .u8 0, .aa .u8 0, .aa .u8 0, .aa .u8 0, .aa .u8 0, .aa .u8 0, .aa .u8 0, .aa .u8 0, .aa .u8 0, .aa .u8 0, .aa .u8 0, .aa .u8 0, .aa .u8 0, .aa .u8 0, .aa .u8 0, .aa .u8 0, .aa .u8 0, .aa .u8 0, .aa .u8 0, .aa .u8 0, .aa .u8 0, .aa .u8 0, .aa .u8 0, .aa .u8 0, .aa .u8 0, .aa .u8 0, .aa .u8 0, .aa .u8 0, .aa .u8 0, .aa .u8 0, .aa .u8 0, .aa .u8 0, .aa .u8 0, .aa .u8 0, .aa .u8 0, .aa .u8 0, .aa .u8 0, .aa .u8 0, .aa .u8 0, .aa .u8 0, .aa .u8 0, .aa .u8 0, .aa .u8 0, .aa .u8 0, .aa .u8 0, .aa .u8 0, .aa .u8 0, .aa .u8 0, .aa .u8 0, .aa .u8 0, .aa .u8 0, .aa .u8 0, .aa .u8 0, .aa .u8 0, .aa .u8 0, .aa .u8 0, .aa .u8 0, .aa .u8 0, .aa .u8 0, .aa .u8 0, .aa .u8 0, .aa .u8 0, .aa .u8 0, .aa .u8 0, .aa .u8 0, .aa .u8 0, .aa .u8 0, .aa .u8 0, .aa .u8 0, .aa .u8 0, .aa .u8 0, .aa .u8 0, .aa .u8 0, .aa .u8 0, .aa .u8 0, .aa .u8 0, .aa .u8 0, .aa .u8 0, .aa .u8 0, .aa .u8 0, .aa .u8 0, .aa .u8 0, .aa .u8 0, .aa .u8 0, .aa .u8 0, .aa .u8 0, .aa .u8 0, .aa .u8 0, .aa .u8 0, .aa .u8 0, .aa .u8 0, .aa .u8 0, .aa .u8 0, .aa .u8 0, .aa .u8 0, .aa .u8 0, .aa .u8 0, .aa .u8 0, .aa .u8 0, .aa .u8 0, .aa .u8 0, .aa .u8 0, .aa .u8 0, .aa .u8 0, .aa .u8 0, .aa .u8 0, .aa .u8 0, .aa .u8 0, .aa .u8 0, .aa .u8 0, .aa .u8 0, .aa .u8 0, .aa .u8 0, .aa .u8 0, .aa .u8 0, .aa .u8 0, .aa .u8 0, .aa .u8 0, .aa .u8 0, .aa .u8 0, .aa .u8 0, .aa .u8 0, .aa .u8 0, .aa .u8 0, .aa .u8 0, .aa .u8 0, .aa .u8 0, .aa .u8 0, .aa .u8 0, .aa .u8 0, .aa .u8 0, .aa .u8 0, .aa .u8 0, .aa .u8 0, .aa .u8 0, .aa .u8 0, .aa .u8 0, .aa .u8 0, .aa .u8 0, .aa .u8 0, .aa .u8 0, .aa .u8 0, .aa .u8 0, .aa .u8 0, .aa .u8 0, .aa .u8 0, .aa .u8 0, .aa .u8 0, .aa .u8 0, .aa .u8 0, .aa .u8 0, .aa .u8 0, .aa .u8 0, .aa .u8 0, .aa .u8 0, .aa .u8 0, .aa .u8 0, .aa .u8 0, .aa .u8 0, .aa .u8 0, .aa .u8 0, .aa .u8 0, .aa .u8 0, .aa .u8 0, .aa .u8 0, .aa .u8 0, .aa .u8 0, .aa .u8 0, .aa .u8 0, .aa .u8 0]⟩),
 (449,⟨.bO [(0,5),(1,5)],2,2,[.aa .u8 0, .aa .u8 0]⟩),
 (450,⟨.bO [(0,5),(1,5)],2,2,[.aa .u8 0, .aa .u8 0]⟩),
 (451,⟨.e7 16 450,32,32,[.aa .u8 0, .aa .u8 0, .aa .u8 0, .aa .u8 0, .aa .u8 0, .aa .u8 0, .aa .u8 0, .aa .u8 0, .aa .u8 0, .aa .u8 0, .aa .u8 0, .aa .u8 0, .aa .u8 0, .aa .u8 0, .aa .u8 0, .aa .u8 0, .aa .u8 0, .aa .u8 0, .aa .u8 0, .aa .u8 0, .aa .u8 0, .aa .u8 0, .aa .u8 0, .aa .u8 0, .aa .u8 0, .aa .u8 0, .aa .u8 0, .aa .u8 0, .aa .u8 0, .aa .u8 0, .aa .u8 0, .aa .u8 0]⟩),
 (454,⟨.bO [(0,17),(1,17),(2,17),(3,9)],4,40,[.bU, .bU, .bU, .ai []]⟩),
 (456,⟨.e7 0 16,0,0,[]⟩),
 (457,⟨.bO [(0,456)],0,0,[]⟩),
 (464,⟨.bO [(0,12),(1,12),(2,318),(3,459),(4,5),(5,5),(6,460),(7,461),(8,194),(9,462),(10,463)],11,48,[.aa .u64 0, .aa .u64 0, .aa .u32 0, .aa .u8 0, .aa .u8 0, .aa .u8 0, .aa .u8 0, .cA, .bU, .aa .i32 0, .aa .i32 0]⟩)]++[(22,80),(24,140),(25,64),(28,264),(29,184),(32,370),(35,331),(38,78),(39,130),(42,305),(45,9),(55,60),(57,3),(74,216),(95,98),(124,73),(126,5),(295,21),(322,324),(346,62),(352,74),(364,308),(419,39),(470,57)].map (λ(n,e)=>(n,⟨.dK e,1,24,[bH]⟩))++[1,23,52,53,54,56,58,66,67,68,69,71,81,82,84,85,86,87,89,90,91,92,93,94,96,99,101,103,104,106,108,110,111,112,113,114,118,121,122,123,131,135,136,142,144,145,149,150,151,152,153,154,155,156,158,159,160,161,163,164,167,168,169,171,172,173,174,175,176,178,179,180,186,187,188,189,192,193,195,196,197,198,199,200,201,202,203,204,206,208,210,211,212,213,214,217,218,219,220,221,222,224,226,227,229,230,236,237,240,241,242,244,245,247,248,249,251,252,254,255,257,259,260,261,262,265,266,267,268,269,270,271,272,274,275,276,277,278,279,281,282,283,285,290,291,292,293,294,296,297,299,300,302,303,306,307,312,314,315,316,317,319,320,321,323,325,326,328,329,332,333,334,335,337,340,341,342,343,344,345,347,348,349,351,353,354,355,356,357,359,361,363,365,366,367,368,371,372,374,382,384,385,387,389,390,391,392,393,394,396,397,398,401,402,403,404,405,406,408,409,410,413,416,417,418,420,422,424,425,427,428,429,430,432,433,434,435,436,437,438,439,440,442,445,446,447,453,461,466,467,468,469,471].map λn=>(n,⟨.il,1,8,[.cA]⟩)
theorem dW:dA Tryz.prog tI:=dA.Ql (by kernel_rfl)
theorem jd:Tryz.prog.follows .mixedOrders=true:=by kernel_rfl
end Go.Proofs.YtffboamedcmpaaaGreatDoor
namespace Go.Am
theorem RE {a:Bool} {p q:Prop} (h:a=true) (g:p):(a=true->p)/\(a=false->q):=⟨λ_=>g,λe=>absurd (h.symm.trans e) (by decide)⟩
theorem LR {a:Bool} {p q:Prop} (h:a=false) (g:q):(a=true->p)/\(a=false->q):=⟨λe=>absurd (e.symm.trans h) (by decide),λ_=>g⟩
theorem akd {c:Prop} [Decidable c] {p q:Prop} (g:c->p) (k:¬c->q):(decide c=true->p)/\(decide c=false->q):=⟨λh=>g (of_decide_eq_true h),λh=>k (of_decide_eq_false h)⟩
theorem C8 {c:Prop} [Decidable c] {p q:Prop} (h:c) (g:p):(decide c=true->p)/\(decide c=false->q):=⟨λ_=>g,λe=>absurd h (of_decide_eq_false e)⟩
theorem fu {c:Prop} [Decidable c] {p q:Prop} (h:¬c) (g:q):(decide c=true->p)/\(decide c=false->q):=⟨λe=>absurd (of_decide_eq_true e) h,λ_=>g⟩
theorem akf {P:Program} {σ:az} {f:FuncId} {args:List ae} {m n:Nat} {K:ae->az->Nat->Prop} {es es':List (aS×bs)} {res:ae} (h:bz P f args (aD es) m (cG m (λx e=>x= .cE res/\e=es'))) (hK:K res (tG σ m es') n)
  (hw:lB σ m es:=by repeat (first|exact trivial|refine ⟨rfl,?_⟩)) (hpl:wm es=true:=by rfl) (hpl':wm es'=true:=by rfl) (h1:es'.map (·.1)=es.map (·.1):=by rfl) (h2:A3 es=true:=by rfl) (h3:A3 es'=true:=by rfl)
  (hmn:m<=n:=by decide) (hargs:oc m args=true:=by rfl) (hnr:A4 σ m=true:=by rfl):bz P f args σ n K:=
 bz.tE hw hpl hpl' (uQ h1 h2 h3) hmn hargs hnr h hK
theorem akg {P:Program} {σ:az} {f:FuncId} {args:List ae} {m n:Nat} {K:ae->az->Nat->Prop} {es:List (aS×bs)} {res:ae} (h:bz P f args (aD es) m (cG m (λx e=>x= .cE res/\e=es))) (hK:K res (tG σ m es) n)
  (hw:lB σ m es:=by repeat (first|exact trivial|refine ⟨rfl,?_⟩)) (hpl:wm es=true:=by rfl)
  (hmn:m<=n:=by decide) (hargs:oc m args=true:=by rfl) (hnr:A4 σ m=true:=by rfl):bz P f args σ n K:=
 bz.Iy hw hpl hmn hargs hnr h hK
structure xX (q:Prop):Prop where
 akc:q
theorem ak {p q:Prop} (h:q) (e:xX q->p:=by
 intro h
 conv=>whnf
 repeat ((first|refine RE (by decide) ?_|refine LR (by decide) ?_|refine bz.eV (by assumption) rfl ?_|refine ⟨_,rfl,by assumption,?_⟩|refine ⟨_,⟨by omega,by assumption⟩,?_⟩|refine ⟨⟨by omega,by omega⟩,?_⟩|refine ⟨by omega,?_⟩|refine ⟨by kernel_rfl,?_⟩);(conv=>whnf))
 exact h.1):p:=e ⟨h⟩
theorem eJ {p q:Prop} (h:q) (e:xX q->p:=by
 intro h
 conv=>whnf
 repeat ((first|refine RE (by decide) ?_|refine LR (by decide) ?_|refine C8 (by omega) ?_|refine fu (by omega) ?_|refine bz.eV (by assumption) rfl ?_|refine ⟨_,rfl,by assumption,?_⟩|refine ⟨_,⟨by omega,by assumption⟩,?_⟩|refine ⟨⟨by omega,by omega⟩,?_⟩|refine ⟨by omega,?_⟩|refine ⟨by kernel_rfl,?_⟩|refine akf (by assumption) ?_|refine akg (by assumption) ?_);(conv=>whnf))
 exact h.1):p:=e ⟨h⟩
theorem bm {p:Prop} (e:p:=by
 conv=>whnf
 repeat ((first|refine RE (by decide) ?_|refine LR (by decide) ?_|refine C8 (by omega) ?_|refine fu (by omega) ?_|refine bz.eV (by assumption) rfl ?_|refine ⟨_,rfl,by assumption,?_⟩|refine ⟨_,⟨by omega,by assumption⟩,?_⟩|refine ⟨⟨by omega,by omega⟩,?_⟩|refine ⟨by omega,?_⟩|refine ⟨by kernel_rfl,?_⟩|refine akf (by assumption) ?_|refine akg (by assumption) ?_);(conv=>whnf))
 first|exact iL.bw _|rfl|exact ⟨_,_,⟨rfl,rfl⟩,rfl,⟨rfl,rfl⟩,⟨rfl,rfl,rfl,rfl,trivial⟩⟩):p:=e
theorem cC {p q:Prop} (h:q) (e:xX q->p:=by
 intro h
 conv=>whnf
 repeat ((first|refine RE (by decide) ?_|refine LR (by decide) ?_|refine bz.eV (by assumption) rfl ?_|refine ⟨_,rfl,by assumption,?_⟩|refine ⟨_,⟨by omega,by assumption⟩,?_⟩|refine ⟨⟨by omega,by omega⟩,?_⟩|refine ⟨by omega,?_⟩|refine ⟨by kernel_rfl,?_⟩|refine RE (by rfl) ?_|refine LR (by rfl) ?_);(conv=>whnf))
 exact h.1):p:=e ⟨h⟩
theorem mq {p q:Prop} (h:q) (e:xX q->p:=by
 intro h
 conv=>whnf
 repeat ((first|refine RE (by decide) ?_|refine LR (by decide) ?_|refine C8 (by omega) ?_|refine fu (by omega) ?_|refine bz.eV (by assumption) rfl ?_|refine ⟨_,rfl,by assumption,?_⟩|refine ⟨_,⟨by omega,by assumption⟩,?_⟩|refine ⟨⟨by omega,by omega⟩,?_⟩|refine ⟨by omega,?_⟩|refine ⟨by kernel_rfl,?_⟩|refine RE (by rfl) ?_|refine LR (by rfl) ?_|refine akf (by assumption) ?_|refine akg (by assumption) ?_);(conv=>whnf))
 exact h.1):p:=e ⟨h⟩
theorem dC {p:Prop} (e:p:=by
 conv=>whnf
 repeat ((first|refine RE (by decide) ?_|refine LR (by decide) ?_|refine C8 (by omega) ?_|refine fu (by omega) ?_|refine bz.eV (by assumption) rfl ?_|refine ⟨_,rfl,by assumption,?_⟩|refine ⟨_,⟨by omega,by assumption⟩,?_⟩|refine ⟨⟨by omega,by omega⟩,?_⟩|refine ⟨by omega,?_⟩|refine ⟨by kernel_rfl,?_⟩|refine RE (by rfl) ?_|refine LR (by rfl) ?_|refine akf (by assumption) ?_|refine akg (by assumption) ?_);(conv=>whnf))
 first|done|exact iL.bw _|rfl|exact ⟨_,_,⟨rfl,rfl⟩,rfl,⟨rfl,rfl⟩,⟨rfl,rfl,rfl,rfl,trivial⟩⟩):p:=e
theorem aG {p:Prop} (h:p:=by kernel_rfl):p:=h
theorem iV {p q:Prop} (h:q) (e:xX q->p:=by
 intro h
 conv=>whnf
 repeat ((first|refine ⟨λ_=>?_,λh=>absurd h (by decide)⟩|refine ⟨λh=>absurd h (by decide),λ_=>?_⟩|refine ⟨λ_=>?_,λh=>absurd (show true=false from h) (by decide)⟩|refine ⟨λh=>absurd (show false=true from h) (by decide),λ_=>?_⟩);(conv=>whnf))
 exact h.1):p:=e ⟨h⟩
theorem wu {p q:Prop} (h:q) (e:xX q->p:=by
 intro h
 conv=>whnf
 repeat ((first|refine ⟨λ_=>?_,λh=>absurd h (by decide)⟩|refine ⟨λh=>absurd h (by decide),λ_=>?_⟩|refine ⟨by kernel_rfl,?_⟩);(conv=>whnf))
 exact h.1):p:=e ⟨h⟩
theorem oT {p:Prop} (h:p:=by repeat (first|exact mO.fa|refine mO.aX (iL.bw _) ?_|refine mO.aX (iL.eR _ _ _) ?_|fail "end")):p:=h
theorem fM {p:Prop} (h:p:=by
 conv=>whnf
 refine ⟨_,_,_,rfl,rfl,?_,_,_,⟨rfl,rfl⟩,rfl,⟨rfl,rfl⟩,⟨rfl,rfl,trivial⟩⟩
 repeat (first|exact mO.fa|refine mO.aX (iL.bw _) ?_|refine mO.aX (iL.eR _ _ _) ?_|fail "end")):p:=h
theorem dh {k:Nat} (h:k<=9223372036854775806:=by omega):bs.ah (ae.aa .i64 (IntKind.i64.wrap ((k:Int)+1)))=bs.ah (ae.aa .i64 ((k+1:Nat):Int)):=by
 rw [bj (by omega) (by omega)];rfl
theorem ake {X:Type} {A B bs:X->Prop} (x:X) (a:A x) (c:bs x:=by repeat (first|exact trivial|refine ⟨rfl,?_⟩)) (b:B x:=by first|decide|omega|(dsimp only;omega)):∃ x,A x/\B x/\bs x:=⟨x,a,b,c⟩
end Go.Am
namespace Go.Proofs.YtffboamedcmpaaaGreatDoor
open Go.Am
theorem LS {o:Option Code} (h:o.isSome=true):o=some (o.getD .skip):=by cases o<;>first|rfl|cases h
theorem bK {f:FuncId} {fn:Func} (hf:Tryz.prog.funcs[f]? =some fn) {args:List ae} {res:ae} (h:oR Tryz.prog tI none fn.ntmps 0 (fn.body.getD .skip) (n5 args) 0 (xN Eq tI fn res))
  (hb:fn.body.isSome=true:=by rfl) (hn:(fn.name== "runtime.NumGoroutine")=false:=by kernel_rfl) (hl:Nat.ble args.length fn.ntmps=true:=by rfl) (hro:lE fn.ntmps fn.results.toList=true:=by rfl):aC Tryz.prog f args res:=
 aC.Qd dW jd hf (LS hb) hn hl hro h
theorem cU {f:FuncId} {fn:Func} (hf:Tryz.prog.funcs[f]? =some fn) {args:List ae} {res:ae} (h:oR Tryz.prog tI none fn.ntmps 0 (fn.body.getD .skip) (n5 args) 0 (xN iL tI fn res))
  (hb:fn.body.isSome=true:=by rfl) (hn:(fn.name== "runtime.NumGoroutine")=false:=by kernel_rfl) (hl:Nat.ble args.length fn.ntmps=true:=by rfl) (hro:lE fn.ntmps fn.results.toList=true:=by rfl):aC Tryz.prog f args res:=
 aC.CL dW jd hf (LS hb) hn hl hro h
theorem bn {f:FuncId} {fn:Func} (hf:Tryz.prog.funcs[f]? =some fn) {args:List ae} {σ:az} {n:Nat} {K:ae->az->Nat->Prop} (h:oR Tryz.prog tI none fn.ntmps n (fn.body.getD .skip) (zn σ args) n (uO tI fn K))
  (hb:fn.body.isSome=true:=by rfl) (hn:(fn.name== "runtime.NumGoroutine")=false:=by kernel_rfl) (hl:Nat.ble args.length fn.ntmps=true:=by rfl) (hro:lE fn.ntmps fn.results.toList=true:=by rfl):bz Tryz.prog f args σ n K:=
 bz.sc dW jd hf (LS hb) hn hl hro h
theorem cn {r:Option Nat} {nt lo n:Nat} {c:Code} {σ:az} {K:Exit->az->Nat->Prop} {q:Prop} (h:q) (e:xX q->db Tryz.prog r nt lo c σ n K:=by
 intro h;refine se dW jd _ _ _ _ ?_
 conv=>whnf
 exact h.1):db Tryz.prog r nt lo c σ n K:=e ⟨h⟩
theorem eK {r:Option Nat} {nt lo n:Nat} {x y:Code} {K:Exit->az->Nat->Prop} {σ:az} {q:Prop} (h:q) (e:xX q->db Tryz.prog r nt lo (.seq x y) σ n K:=by
 intro h;refine db.CF (se dW jd _ _ _ _ ?_)
 conv=>whnf
 exact h.1):db Tryz.prog r nt lo (.seq x y) σ n K:=e ⟨h⟩
theorem akh {X:Type} {σ:az} (st:X->List (Am.aS×bs)) (m:Nat) (I:X->Prop) (μ:X->Nat) {r:Option Nat} {nt lo n:Nat} {c:Code} {K:Exit->az->Nat->Prop} (x0:X) (h0:I x0)
  (h:∀ x,I x->oR Tryz.prog tI r nt lo c (aD (st x)) m (Q0 st m I μ x K)) (hw:lB σ m (st x0):=by repeat (first|exact trivial|refine ⟨rfl,?_⟩)) (hm:lo<=m:=by decide):db Tryz.prog r nt lo (.loop c) σ n K:=
 db.cK st m I μ hm x0 h0 hw λx hx=>se dW jd _ _ _ _ (h x hx)
open Go.ChangeShapes Go.WideShapes Go.ChangeAt Go.RowKit Go.Am
def xY (W:World):Nat->Nat->Prop:=λk _=>k<W.heap.size
theorem RG {f:FuncId} {args:List ae} {vals:List Value} {W:World} (hG:mb Tryz.prog W) (h:aC Tryz.prog f args (.aE true)) (hl:vals.length=args.length) (hv:∀ (i:Nat) (x:ae) (v:Value),args[i]? =some x->vals[i]? =some v->cb W (xY W) x v):
  Calls Tryz.prog f vals.toArray W λe w'=>e= .returned (.bool true)/\Below W.heap.size W w':=by
 refine (h.H7 W (xY W) vals hG (λk o hk=>hk) hl hv).mono λe w' ⟨v,F',e1,e2,_,_,e5⟩=>⟨?_,e2.1⟩
 cases e5;exact e1
theorem aas {W:World} {F:Nat->Nat->Prop} {k:IntKind} {n:Int}:cb W F (.aa k n) (.int k n):= .fK k n
theorem RH {W:World} {F:Nat->Nat->Prop}:∀ (i:Nat) (x:ae) (v:Value),([]:List ae)[i]? =some x->([]:List Value)[i]? =some v->cb W F x v:=λi x v h=>by simp at h
theorem IG {W:World} {F:Nat->Nat->Prop} {x:ae} {v:Value} {l:List ae} {m:List Value} (h:cb W F x v) (h':∀ (i:Nat) (x:ae) (v:Value),l[i]? =some x->m[i]? =some v->cb W F x v):
  ∀ (i:Nat) (y:ae) (u:Value),(x::l)[i]? =some y->(v::m)[i]? =some u->cb W F y u
 |0,y,u,h1,h2=>by simp_all
 |i+1,y,u,h1,h2=>h' i y u (by simpa using h1) (by simpa using h2)
theorem RF (b o i:Nat):(⟨b,o,none⟩:Addr).add i=⟨b,o+i,none⟩:=by grind [Addr.add]
theorem aar {α H:Type} {enc:TypeId×Value->H} {W:World} {fuel:Nat} {t e:TypeId} {v:Value} {x:DataW H×List MemPlace} (ht:Tryz.prog.underlying t=some (.slice e)) {sz:Nat} (hC:Tryz.prog.cellsOf e=sz) (hsz:0<sz) (el:α->List ae) (Q:α->Prop)
  (hel:∀ (n:Nat) (cs:List Value) (y:DataW H×List MemPlace),cs.length=sz->DataW.trod enc Tryz.prog W 0 (λ_=>true) true n e cs=some y->∃ a,Q a/\(el a).length=sz/\∀ (j:Nat) (x:ae) (c:Value),(el a)[j]? =some x->cs[j]? =some c->cb W (xY W) x c/\c.oneCell'=true)
  (hf:DataW.trod enc Tryz.prog W 0 (λ_=>true) true fuel t [v]=some x):
  ∃ (isNil:Bool) (l:List α),cb W (xY W) (.ag isNil sz (l.map el) .av) v/\(isNil=true->l=[])/\l.length<=maxLen/\∀ a∈l,Q a:=by
 rcases Go.Deep.open_slice ht hf with ⟨hcs,_⟩|⟨a,len,cap,m,n,D,Pl,hcs,_,hle,hm,hmm,_,hcell⟩
 ·obtain rfl:v= .slice none 0 0:=by simpa using hcs
  exact ⟨true,[], .iK (els:=[]) (λ_ _=>undef) rfl (Nat.le_refl _) (by simp) (λi el j x h=>by simp at h) (λi el j x h=>by simp at h) (λi el j x h=>by simp at h),λ_=>rfl,by simp [maxLen],by simp⟩
 ·obtain rfl:v= .slice (some a) len cap:=by simpa using hcs
  obtain rfl:m=cap:=by simpa using hmm
  rcases Nat.eq_zero_or_pos len with rfl|hpos
  ·exact ⟨false,[], .iK (els:=[]) (λ_ _=>undef) rfl (Nat.zero_le _) (by simp) (λi el j x h=>by simp at h) (λi el j x h=>by simp at h) (λi el j x h=>by simp at h),λ_=>rfl,by simp [maxLen],by simp⟩
  have one:∀ i,i<len->∃ p:α×List Value,Q p.1/\(el p.1).length=sz/\p.2.length=sz/\(∀ (j:Nat) (x:ae) (c:Value),(el p.1)[j]? =some x->p.2[j]? =some c->cb W (xY W) x c/\c.oneCell'=true)/\∀ j,j<sz->W.cell? ((a.add (i*sz)).add j)=p.2[j]?:=by
   intro i hi;obtain ⟨cs,hcells,htr⟩:=hcell i om;rw [hC] at hcells;obtain ⟨_,hl2,hc2⟩:=World.cells?_some hcells;obtain ⟨b,q1,q2,q3⟩:=hel n cs _ hl2 htr;exact ⟨(b,cs),q1,q2,hl2,q3,hc2⟩
  obtain ⟨p0,_⟩:=one 0 hpos;have hex:∀ i,∃ p:α×List Value,i<len->Q p.1/\(el p.1).length=sz/\p.2.length=sz/\(∀ (j:Nat) (x:ae) (c:Value),(el p.1)[j]? =some x->p.2[j]? =some c->cb W (xY W) x c/\c.oneCell'=true)/\∀ j,j<sz->W.cell? ((a.add (i*sz)).add j)=p.2[j]?:=λi=>by
   by_cases hi:i<len
   ·obtain ⟨p,hp⟩:=one i hi;grind
   grind
  obtain ⟨f,hfn⟩:=Classical.skolem.1 hex;have hget:∀ (i:Nat) (r:List ae),(((List.range len).map λi=>(f i).1).map el)[i]? =some r->i<len/\r=el (f i).1:=λi r h=>by
   grind
  have hcl:∀ (i j:Nat),i<len->j<sz->∃ c,(f i).2[j]? =some c/\W.cell? ((a.add (i*sz)).add j)=some c:=λi j hi hj=>by
   grind
  obtain ⟨c0,_,hc0⟩:=hcl 0 0 hpos hsz;obtain ⟨blk,base,spot⟩:=a;have hspot:spot=none:=by simpa [Addr.add] using World.cell?_spot hc0
  subst hspot;refine ⟨false,(List.range len).map λi=>(f i).1,?_,(λh=>by cases h),by simp;omega,λb hb=>?_⟩
  ·have hlen:(((List.range len).map λi=>(f i).1).map el).length=len:=by simp
   have:=cb.iK (w:=W) (F:=xY W) (isNil:=false) (sz:=sz) (els:=((List.range len).map λi=>(f i).1).map el) (ad:=some ⟨blk,base,none⟩) (c:=m) (λi j=>(f i).2.getD j undef) rfl om (λr hr=>by
     grind) (λi r j x hr hx=>by
     obtain ⟨hi',rfl⟩:=hget i r hr;have hj:j<sz:=by grind
     obtain ⟨c,h1,h2⟩:=hcl i j hi' hj;rw [RF,RF] at h2;exact ⟨blk,base,rfl,aap h2,by grind⟩) (λi r j x hr hx=>by
     grind) (λi r j x hr hx=>by
     grind)
   rwa [hlen] at this
  grind
end Go.Proofs.YtffboamedcmpaaaGreatDoor
namespace Go.Am
open Go.RowKit
section
theorem db.aat {P:Program} {σ:az} {r:Option Nat} {nt lo n:Nat} {c:Code} {K:Exit->az->Nat->Prop} (t:Nat) (e:TypeId) (sz':Nat) {isNil:Bool} {sz:Nat} (hs:σ (.aj t)= .ah (.ag isNil sz [] .bR)) (_ht:Nat.blt t nt=true)
  (h:db P r nt lo c (aU (aU σ (.aJ n) (.aN e sz' 0)) (.aj t) (.ah (.ag isNil sz' [] (.cO n)))) (n+1) K):db P r nt lo c σ n K:=by
 refine ⟨λb tp a w h0 hsim=>?_⟩;obtain ⟨g,hh,hf,hE,hn⟩:=hsim;obtain ⟨h1,h2⟩:=hh.Cf (t:=e) (sz:=sz') (N:=0) hh.nX.2;have h3:bh b (aU (aU σ (.aJ n) (.aN e sz' 0)) (.aj t) (.ah (.ag isNil sz' [] (.cO n)))) (·<n+1) (g.lP n 0) w:=
  (h1.sZ (λid=>cL (by intro e;cases e)) (λid=>cL (by intro e;cases e))).iU (λi hi=>by omega)
 refine h.jG b tp a w h0 ⟨_,h3,⟨hf.mN,hf.nW,λi hi=>?_⟩,hE.gD h2,om⟩;have hr:=hf.kI i hi
 by_cases hit:i=t
 ·subst hit;have e1:dV σ i= .ag isNil sz [] .bR:=by grind [dV]
  rw [e1] at hr;rw [C3];obtain ⟨ad,c',ev,hp,htok⟩:=(hr.kG h2).jj;rw [ev];refine .jc ((iL.eR _ _ _).pH _ _ _ hp) ?_;exact ⟨none,0,by simp [cf.lP],Nat.le_refl _,λ_=> .inl ⟨htok,rfl⟩⟩
 ·rw [wg (by grind)];have e2:dV (aU σ (.aJ n) (.aN e sz' 0)) i=dV σ i:=by trivial
  rw [e2];exact hr.kG h2
variable {P:Program} {T:cN} {σ:az}
theorem aau (R:ae->Prop) (T:cN) (fn:Func):RA R T fn=uO T fn (λv σ _=>∃ res,R res/\zm iL σ v res):=by funext e _ _;cases e<;>rfl
theorem Rj.II (hT:dA P T) {f:FuncId} {fn:Func} {c:Code} (hf:P.funcs[f]? =some fn) (hb:fn.body=some c) (hn:(fn.name== "runtime.NumGoroutine")=false) {args:List ae} {R:ae->Prop} (hl:Nat.ble args.length fn.ntmps=true) (hro:lE fn.ntmps fn.results.toList=true)
  (h:db P none fn.ntmps 0 c (n5 args) 0 (RA R T fn)):Rj P f args R:=by
 rw [QG,aau] at h;refine ⟨lC hf hb hn,λw F vals hG hF hvl hv=>(bz.E4 (bz.xG hT hf hb hn hl hro h) w F hG hF (bh.H5 w F hG hF) hvl λi x v hx hy=> .bC (hv i x v hx hy)).mono ?_⟩;rintro _ w' ⟨v,x,σ',n',g',he,⟨res,hR,hk⟩,hrep,hs,hb,h0,h1⟩;exact ⟨v,_,res,he,hb,λk o hk=> .inl (h0 k o hk),λk o hk=>hk.elim (h1 k o) .inr,hR,zm.Lk (λ_ _ h=>h) hs hk hrep⟩
theorem aC.IH {f:FuncId} {args:List ae} {res:ae} (h:Rj P f args (λr=>iL r res)):aC P f args res:=
 ⟨h.aag,λw F vals h0 h1 h2 h3=>(h.aah w F vals h0 h1 h2 h3).mono λ_ _ ⟨v,F',_,e1,e2,e3,e4,e5,e6⟩=>⟨v,F',e1,e2,e3,e4,e5.pH _ _ _ e6⟩⟩
end
section
variable {P:Program} {T:cN} {σ:az} {o:Oper} {n:Nat} {K:ae->az->Nat->Prop}
theorem mf.aav {mt kt et:TypeId} (hm:P.underlying mt=some (.map kt et)) {c0:Call} (hop:o.op= .call c0) (hcal:c0.callee= .builtin .clear) (hat:c0.argTypes[0]? =some mt) {x:Operand} (hargs:c0.args=#[x])
  {m clock:Nat} {es:iC} (hx:aM σ x= .cg m) (hs:σ (.af m)= .c9 (.dP clock es))
  (hK:K (.aw []) (aU σ (.af m) (.c9 (.dP clock []))) (n+1)):mf P o σ n K:=by
 refine ⟨λb g a w h hr=>?_⟩;have hrx:=hr x (by simp [hop,Op.operands,Call.operands,hargs]);rw [hx] at hrx;obtain ⟨c,hc,ex⟩:=hrx.xu;obtain ⟨arr,h1,h2⟩:=h.s8 m _ c hs hc;have hl:(σ (.af m)).dw=true:=by rw [hs];rfl
 have run:∀ {w':World},(Builtin.clear_ c0.argTypes o.type #[a.eval x]).run P w= .ok (.tuple #[]) w'->(execOp a.eval o).run P w= .ok (.value (.tuple #[])) w':=by
  intro w' hb;obtain ⟨dst,op,ty,pos,after,guard⟩:=o;simp only at hop;subst hop;refine tl hcal ?_;simp only [builtin,hargs,List.map_toArray,List.map_cons,List.map_nil,Sem.run_bind,hb,Result.andThen_ok,Sem.run_pure]
 obtain ⟨hw,hh⟩:=FC (es':=#[]) (clock':=clock) h1;obtain ⟨k1,k2⟩:=h.j8 (X:= .c9 (.dP clock [])) hl hc hw (λ_=>⟨[],hh,rfl,λi e x he=>by simp at he⟩);refine ⟨.value (.tuple #[]), .tuple #[],_, .aw [],_,n+1,g,run ?_, .inl rfl,hK,Nat.le_succ n, .jN (vs:=[]) rfl (λi x v h1=>by simp at h1),k1.qp (Nat.le_succ n),k2⟩;simp [Builtin.clear_,hat,ex,run_underlying hm,MapKept.run_getObj_map h1,MapKept.run_setObj_map _ h1,Result.andThen]
end
end Go.Am
namespace Gw
structure dL where
 bE:Int
 jy:ByteArray
 cH:List (Int×ByteArray)
def uR (size:Int) (p:Int×ByteArray):Bool:=decide (0<=p.1) && (decide (p.1<size) && decide (p.2.size=16))
def ef (d:dL):Bool:=(decide (0<=d.bE) && (decide (d.bE<=65536) && decide ((d.jy.size:Int)=d.bE*16))) && d.cH.all (uR d.bE)
def nB (l:List UInt8) (i:Nat) (t:List UInt8):List UInt8:=l.take i++t++l.drop (i+t.length)
theorem IL (l:List UInt8) (i:Nat) (t:List UInt8) (h:i+t.length<=l.length):(nB l i t).length=l.length:=by simp [nB];omega
def oU (at_ n:Nat) (l:List UInt8) (p:Int×ByteArray):List UInt8:=if (at_:Int)<=p.1/\p.1<at_+n then nB l ((p.1.toNat - at_)*16) p.2.data.toList else l
def A9 (d:dL) (at_ n:Nat):List UInt8:=d.cH.foldl (oU at_ n) ((d.jy.data.toList.drop (at_*16)).take (n*16))
theorem aaB (at_ n:Nat) (l:List UInt8) (p:Int×ByteArray) (hl:l.length=n*16) (hp:p.2.size=16):(oU at_ n l p).length=n*16:=by
 unfold oU;split
 ·rename_i h;have:p.2.data.toList.length=16:=hp;rw [IL _ _ _ om,hl]
 ·exact hl
theorem RL (at_ n:Nat) (ps:List (Int×ByteArray)) (l:List UInt8) (hl:l.length=n*16) (hp:∀ p∈ps,p.2.size=16):(ps.foldl (oU at_ n) l).length=n*16:=by
 induction ps generalizing l with
 |nil=>exact hl
 |cons p ps ih=>exact ih _ (aaB _ _ _ _ hl (hp p (by simp))) (λq hq=>hp q (by simp [hq]))
theorem mr {d:dL} (h:ef d=true):0<=d.bE/\d.bE<=65536/\(d.jy.size:Int)=d.bE*16/\∀ p∈d.cH,0<=p.1/\p.1<d.bE/\p.2.size=16:=by
 unfold ef at h;simp only [Bool.and_eq_true,decide_eq_true_eq,List.all_eq_true] at h;refine ⟨h.1.1,h.1.2.1,h.1.2.2,λp hp=>?_⟩;have:=h.2 p hp;unfold uR at this;simp only [Bool.and_eq_true,decide_eq_true_eq] at this;exact ⟨this.1,this.2.1,this.2.2⟩
def lV (size:Int):dL:=⟨min (max size 0) 65536,⟨(List.replicate ((min (max size 0) 65536).toNat*16) (0:UInt8)).toArray⟩,[]⟩
def fC (s:ByteArray):Nat:=(s.size+15) / 16
def uS (s:ByteArray):List UInt8:=s.data.toList++List.replicate (fC s*16 - s.data.toList.length) 0
def rh (s:ByteArray) (k:Nat):List UInt8:=s.data.toList.take (k*16)++List.replicate (fC s*16 - (s.data.toList.take (k*16)).length) 0
theorem LY (s:ByteArray) (k:Nat):(rh s k).length=fC s*16:=by
 have h:s.data.toList.length=s.size:=rfl;unfold rh;rw [List.length_append,List.length_replicate,List.length_take];unfold fC;omega
theorem aaE (s:ByteArray):rh s 0=List.replicate (fC s*16) 0:=by simp [rh]
theorem IM (s:ByteArray):rh s (fC s)=uS s:=by
 have h:s.data.toList.length=s.size:=rfl;unfold rh uS;rw [List.take_of_length_le (by unfold fC;omega)]
theorem aaD (s:ByteArray) (k:Nat) (hk:k<fC s):rh s (k+1)=(rh s k).take (k*16)++(s.data.toList.drop (k*16)).take 16++(rh s k).drop (k*16+((s.data.toList.drop (k*16)).take 16).length):=by
 have h:s.data.toList.length=s.size:=rfl;have hks:k*16<s.data.toList.length:=by unfold fC at hk;omega
 have h1:(s.data.toList.take (k*16)).length=k*16:=by rw [List.length_take];omega
 have h2:s.data.toList.take ((k+1)*16)=s.data.toList.take (k*16)++(s.data.toList.drop (k*16)).take 16:=by
  rw [show (k+1)*16=k*16+16 from om,List.take_add]
 unfold rh;rw [h1,h2,List.length_append,h1];rw [List.take_append_of_le_length (Nat.le_of_eq h1.symm),List.take_of_length_le (Nat.le_of_eq h1)];congr 1;generalize (s.data.toList.drop (k*16)).take 16=t;rw [List.drop_append,List.drop_of_length_le (l:=s.data.toList.take (k*16)) om,List.nil_append,h1,List.drop_replicate];congr 1;omega
theorem RO (d:dL) (h:ef d=true) (at_ n:Nat) (hn:(n:Int)<=d.bE - at_):(A9 d at_ n).length=n*16:=by
 have hs:=mr h;have hf:d.jy.data.toList.length=d.jy.size:=rfl;exact RL at_ n _ _ (by rw [List.length_take,List.length_drop,hf];omega) (λp hp=>(hs.2.2.2 p hp).2.2)
def FF (d:dL) (at_ n:Int):Bool:=ef d && (decide (0<=at_) && (decide (0<=n) && decide (n<=d.bE - at_)))
def pK (d:dL) (at_ n:Int):List UInt8:=if FF d at_ n=true then A9 d at_.toNat n.toNat else []
def A8 (d:dL) (at_ n:Int):Nat:=if FF d at_ n=true then 0 else 121
def lF (d:dL):dL:=if ef d=true then ⟨d.bE,⟨(A9 d 0 d.bE.toNat).toArray⟩,[]⟩ else d
def A7 (picks:ByteArray) (i:Nat):Nat:=if i<picks.size then (picks.data.toList.getD i 0).toNat % 3 else 0
def FE (l:List UInt8) (p:Int×ByteArray) (k:Nat):List UInt8:=if k=1 then nB l (p.1.toNat*16) p.2.data.toList else if k=2 then nB l (p.1.toNat*16) (p.2.data.toList.take 8) else l
def si (picks:ByteArray) (ps:List (Int×ByteArray)) (k:Nat) (l:List UInt8):List UInt8:=(List.range k).foldl (λl i=>FE l (ps.getD i (0,ByteArray.empty)) (A7 picks i)) l
theorem LV (picks:ByteArray) (ps:List (Int×ByteArray)) (k:Nat) (l:List UInt8):si picks ps (k+1) l=FE (si picks ps k l) (ps.getD k (0,ByteArray.empty)) (A7 picks k):=by
 unfold si;rw [List.range_succ,List.foldl_append];rfl
theorem aaz (l:List UInt8) (p:Int×ByteArray) (k:Nat) (h:p.1.toNat*16+p.2.size<=l.length):(FE l p k).length=l.length:=by
 have hs:p.2.data.toList.length=p.2.size:=rfl;unfold FE;split
 ·rw [IL _ _ _ om]
 ·split
  ·rw [IL _ _ _ (by rw [List.length_take];omega)]
  ·rfl
theorem aaC (l:List UInt8) (i:Nat) (t:List UInt8) (ht:t.length=16) (h:i+16<=l.length):nB (nB l (i+8) (t.drop 8)) i (t.take 8)=nB l i t:=by
 have h1:(t.drop 8).length=8:=by rw [List.length_drop];omega
 have h2:(t.take 8).length=8:=by rw [List.length_take];omega
 unfold nB;rw [h1,h2,ht];have hl:(l.take (i+8)).length=i+8:=by rw [List.length_take];omega
 rw [List.append_assoc (l.take (i+8)),List.take_append_of_le_length om,List.take_take,Nat.min_eq_left om];rw [List.drop_append_of_le_length om,List.drop_of_length_le (l:=l.take (i+8)) om,List.nil_append];rw [List.append_assoc,List.append_assoc,<-List.append_assoc (t.take 8),List.take_append_drop]
theorem LU (picks:ByteArray) (ps:List (Int×ByteArray)) (k:Nat) (l:List UInt8) (h:∀ i,i<k->(ps.getD i (0,ByteArray.empty)).1.toNat*16+(ps.getD i (0,ByteArray.empty)).2.size<=l.length):(si picks ps k l).length=l.length:=by
 induction k with
 |zero=>rfl
 |succ k ih=>
  rw [LV,aaz _ _ _ (by rw [ih (λi hi=>h i om)];exact h k om)];exact ih (λi hi=>h i om)
def jO (d:dL) (picks:ByteArray):dL:=if ef d=true then ⟨d.bE,⟨(si picks d.cH d.cH.length d.jy.data.toList).toArray⟩,[]⟩ else d
def oV (at_:Int) (s:ByteArray) (k:Nat):List (Int×ByteArray):=(List.range k).map λi:Nat=>(at_+(i:Int),⟨(((uS s).drop (i*16)).take 16).toArray⟩)
theorem L3 (at_:Int) (s:ByteArray) (k:Nat):(oV at_ s k).length=k:=by simp [oV]
theorem RP (at_:Int) (s:ByteArray) (k:Nat):oV at_ s (k+1)=oV at_ s k++[(at_+(k:Int),⟨(((uS s).drop (k*16)).take 16).toArray⟩)]:=by
 unfold oV;rw [List.range_succ,List.map_append];rfl
theorem RN (s:ByteArray):(uS s).length=fC s*16:=by rw [<-IM,LY]
def ri (d:dL) (at_:Int) (s:ByteArray):Nat:=if ef d=false\/at_<0 then 121 else if d.bE - (fC s:Int)<at_ then 120 else 0
def jZ (d:dL) (at_:Int) (s:ByteArray):dL:=if ri d at_ s=0 then ⟨d.bE,d.jy,d.cH++oV at_ s (fC s)⟩ else d
theorem aaw (n:Nat) (h:n<=65536) (x:ByteArray) (hx:x.size=n*16):ef ⟨(n:Int),x,[]⟩=true:=by
 unfold ef;have h2:(x.size:Int)=(n:Int)*16:=om;simp [h2];omega
theorem aaH (d:dL) (hc:ef d=true) (a:Nat) (s:ByteArray):ri d (a:Int) s=if d.bE - (fC s:Int)<(a:Int) then 120 else 0:=by
 unfold ri;rw [if_neg (by rw [hc];simp)]
def nA (n:Nat) (f:Nat->List UInt8):List UInt8:=(List.range n).flatMap f
theorem IK (n:Nat) (f:Nat->List UInt8):nA (n+1) f=nA n f++f n:=by simp [nA,List.range_succ]
theorem RJ (n:Nat) (f:Nat->List UInt8) (hf:∀ i,i<n->(f i).length=16):(nA n f).length=n*16:=by
 induction n with
 |zero=>rfl
 |succ n ih=>
  rw [IK,List.length_append,ih (λi hi=>hf i om),hf n om];omega
theorem FD (n:Nat) (f:Nat->List UInt8) (hf:∀ i,i<n->(f i).length=16) (j:Nat):(nA n f)[j]? =if j<n*16 then (f (j / 16))[j % 16]? else none:=by
 induction n with
 |zero=>simp [nA]
 |succ n ih=>
  have hl:=RJ n f (λi hi=>hf i om);have ih:=ih (λi hi=>hf i om);rw [IK]
  by_cases h:j<n*16
  ·rw [List.getElem?_append_left om,ih,if_pos h,if_pos om]
  ·rw [List.getElem?_append_right om,hl]
   by_cases h2:j<(n+1)*16
   ·rw [if_pos h2,show j / 16=n from om,show j % 16=j - n*16 from by omega]
   ·rw [if_neg h2];exact List.getElem?_eq_none (by rw [hf n om];omega)
theorem RK (l:List UInt8) (n:Nat) (hl:l.length=n*16):l=nA n (λi=>(l.drop (i*16)).take 16):=by
 have hf:∀ i,i<n->((l.drop (i*16)).take 16).length=16:=λi hi=>by rw [List.length_take,List.length_drop,hl];omega
 apply List.ext_getElem?;intro j;rw [FD _ _ hf]
 by_cases h:j<n*16
 ·rw [if_pos h,List.getElem?_take_of_lt om,List.getElem?_drop];congr 1;omega
 ·rw [if_neg h];exact List.getElem?_eq_none om
theorem IJ {d:dL} (hc:ef d=true):d.jy.data.toList.length=d.bE.toNat*16:=by
 have h:=mr hc;have:d.jy.data.toList.length=d.jy.size:=rfl;omega
theorem aaJ {a:Nat} {s:ByteArray} {k:Nat} (hk:k<=fC s) {p:Int×ByteArray} (hp:p∈oV (a:Int) s k):∃ j,j<k/\p.1=((a+j:Nat):Int)/\p.2.size=16:=by
 unfold oV at hp;obtain ⟨j,hj,rfl⟩:=List.mem_map.1 hp;have hj':j<k:=by simpa using hj
 refine ⟨j,hj',by simp,?_⟩;show (((uS s).drop (j*16)).take 16).toArray.size=16;rw [List.size_toArray,List.length_take,List.length_drop,RN];omega
theorem aax {d:dL} (hc:ef d=true) (a:Nat) (s:ByteArray) (h:((a+fC s:Nat):Int)<=d.bE):ef ⟨d.bE,d.jy,d.cH++oV (a:Int) s (fC s)⟩=true:=by
 have hs:=mr hc;unfold ef at hc ⊢;simp only [Bool.and_eq_true,List.all_append] at hc ⊢;refine ⟨hc.1,hc.2,?_⟩;rw [List.all_eq_true];intro p hp;obtain ⟨j,hj,h1,h2⟩:=aaJ (Nat.le_refl _) hp;unfold uR;simp only [Bool.and_eq_true,decide_eq_true_eq];omega
theorem aaG {d:dL} (hc:ef d=true) (a n:Nat) (h:((a+n:Nat):Int)<=d.bE):pK d (a:Int) (n:Int)=A9 d a n/\A8 d (a:Int) (n:Int)=0:=by
 have hm:FF d (a:Int) (n:Int)=true:=by
  unfold FF;rw [hc];simp only [Bool.true_and,Bool.and_eq_true,decide_eq_true_eq];omega
 exact ⟨by rw [pK,if_pos hm,Int.toNat_natCast,Int.toNat_natCast],by simp [A8,hm]⟩
theorem aaI {d:dL} {a:Nat} {s:ByteArray} (h:ri d (a:Int) s=0):jZ d (a:Int) s=⟨d.bE,d.jy,d.cH++oV (a:Int) s (fC s)⟩:=by rw [jZ,if_pos h]
theorem L0 (d:dL) (a:Int) (s:ByteArray):(jZ d a s).bE=d.bE:=by unfold jZ;split<;>rfl
theorem LZ (d:dL) (a:Int) (s:ByteArray):(jZ d a s).cH.length<=d.cH.length+fC s:=by
 unfold jZ;split
 ·rw [List.length_append,L3];exact Nat.le_refl _
 ·omega
def lH (s:List UInt8) (p:Nat):Nat×Nat:=Go.Utf8.decode ⟨s.toArray⟩ p
theorem IZ (s:List UInt8) (p:Nat):1<=(lH s p).2:=by
 grind [lH,Go.Utf8.decode]
theorem Mi (s:List UInt8) (p:Nat):(lH s p).2<=4:=by
 grind [lH,Go.Utf8.decode]
def pb (p s:List UInt8):Bool:=decide (p.length<=s.length) && decide (s.take p.length=p)
def pc (s:List UInt8):Nat->Nat->List Int->Option (List Int)
 |0,_,acc=>some acc
 |f+1,p,acc=>if p<s.length then (if ((lH s p).1:Int)≠65533\/pb [239,191,189] (s.drop p)=true then pc s f (p+(lH s p).2) (acc++[((lH s p).1:Int)]) else none) else some acc
def mw (s:List UInt8):Option (List Int):=pc s (s.length+1) 0 []
theorem Su (s:List UInt8):∀ (f p:Nat) (acc l:List Int),pc s f p acc=some l->l.length<=acc.length+(s.length - p)
 |0,p,acc,l,h=>by grind [pc]
 |f+1,p,acc,l,h=>by
  rw [pc] at h;have hd:=IZ s p;split at h
  ·split at h
   ·have:=Su s f _ _ _ h;grind
   ·cases h
  simp_all
theorem Sv {s:List UInt8} {l:List Int} (h:mw s=some l):l.length<=s.length:=by
 have:=Su s _ _ _ _ h;simp_all
def Bg (r:Int):Bool:=decide (r<32)||(decide (r=47)||decide (r=127))
def I0 (l:List Int):Int:=match l.findIdx? Bg with|some i=>(i:Int)|none=>-1
def Df (s:List UInt8) (l:List Int):Bool:=!(decide (l.length<1)||(decide (20<l.length)||(decide (s=[46])||decide (s=[46,46])))) && !l.any Bg
def o8 (s:List UInt8):Bool:=match mw s with|none=>false|some l=>Df s l
open Go
def qy (s:List UInt8):List Int:=match mw s with|some l=>l|none=>s.map λb=>(1114112+b.toNat:Int)
def kL:List Int->List Int->Int
 |[],[]=>0
 |[],_::_=>-1
 |_::_,[]=>1
 |a::l,b::m=>if a<b then -1 else if b<a then 1 else kL l m
def lI (a b:List UInt8):Bool:=decide (kL (qy a) (qy b)<0)
def jP:List UInt8->List (List UInt8)
 |[]=>[[]]
 |b::l=>if b=47 then []::jP l else match jP l with
  |[]=>[[b]]
  |h::t=>(b::h)::t
def Bh (l:List (List UInt8)):Bool:=decide (l.length<=16) && l.all o8
def ir (p:List UInt8):Option (List (List UInt8)):=if p=[47] then some [] else match p with
 |[]=>none
 |b::r=>if b=47 then (if Bh (jP r)=true then some (jP r) else none) else none
theorem aba (s:List UInt8):jP s≠[]:=by
 cases s with
 |nil=>simp [jP]
 |cons b l=>
  grind [jP]
theorem Sr {s:List UInt8} (h:Lib.indexByte s 47=-1):jP s=[s]/\s.count 47=0:=by
 induction s with
 |nil=>trivial
 |cons b l ih=>
  rw [Lib.indexByte] at h;have hg:=Lib.indexByte_ge l 47;grind [jP]
theorem Ss {s:List UInt8} {m:Nat} (h:Lib.indexByte s 47=(m:Int)):m<s.length/\jP s=s.take m::jP (s.drop (m+1))/\s.count 47=(s.drop (m+1)).count 47+1:=by
 induction s generalizing m with
 |nil=>trivial
 |cons b l ih=>
  rw [Lib.indexByte] at h
  by_cases hb:b=47
  ·rw [if_pos (by simp [hb])] at h;obtain rfl:m=0:=om;grind [jP]
  rw [if_neg (by simp [hb])] at h
  by_cases h2:Lib.indexByte l 47=-1
  ·simp_all
  rw [if_neg (by simp [h2])] at h;obtain ⟨k,rfl⟩:∃ k,m=k+1:=⟨m - 1,om⟩;grind [jP]
theorem aa9 {s:List UInt8} (h:0<s.count 47):∃ m:Nat,Lib.indexByte s 47=(m:Int):=by
 have hg:=Lib.indexByte_ge s 47
 by_cases h1:Lib.indexByte s 47=-1
 ·have:=(Sr h1).2;omega
 ·exact ⟨(Lib.indexByte s 47).toNat,om⟩
theorem aa8 {s:List UInt8} (h:s.count 47=0):jP s=[s]:=by
 have hg:=Lib.indexByte_ge s 47
 by_cases h1:Lib.indexByte s 47=-1
 ·exact (Sr h1).1
 ·have:=(Ss (s:=s) (m:=(Lib.indexByte s 47).toNat) om).2.2;omega
def kd (c:Nat):Nat:=if c<128 then 1 else if 194<=c/\c<224 then 2 else if 224<=c/\c<240 then 3 else if 240<=c/\c<245 then 4 else 0
theorem abh (c:Nat):kd c<=4:=by grind [kd]
def yd (n:Nat):Nat:=if n=1 then 0 else if n=2 then 128 else if n=3 then 2048 else 65536
def Bi (s:List UInt8) (p n:Nat):Nat->Nat->Nat->Option Nat
 |0,_,r=>some r
 |f+1,i,r=>if i<n then (if (s.getD (p+i) 0).toNat<128\/192<=(s.getD (p+i) 0).toNat then none else Bi s p n f (i+1) (r*64+(s.getD (p+i) 0).toNat % 64)) else some r
def abe (c n:Nat):Nat:=if n=4 then c % 8 else if n=3 then c % 16 else c % 64
def pQ (n r:Nat):Nat×Nat:=if r<yd n\/(55296<=r/\r<=57343)\/1114111<r then (0,0) else (r,n)
def abd (n:Nat):Option Nat->Nat×Nat
 |none=>(0,0)
 |some r=>pQ n r
def mz (s:List UInt8) (p:Nat):Nat×Nat:=
 if kd (s.getD p 0).toNat=0\/s.length<p+kd (s.getD p 0).toNat then (0,0) else if kd (s.getD p 0).toNat=1 then ((s.getD p 0).toNat,1) else
  abd (kd (s.getD p 0).toNat) (Bi s p (kd (s.getD p 0).toNat) 4 1 (abe (s.getD p 0).toNat (kd (s.getD p 0).toNat)))
def wF (s:List UInt8):Nat->Nat->List Int->Option (List Int)
 |0,_,acc=>some acc
 |f+1,p,acc=>if p<s.length then (if (mz s p).2=0 then none else wF s f (p+(mz s p).2) (acc++[((mz s p).1:Int)])) else some acc
def Mj (s:List UInt8):Option (List Int):=wF s (s.length+1) 0 []
theorem abf (s:List UInt8) (i:Nat):(ByteArray.get! ⟨s.toArray⟩ i)=s.getD i 0:=by
 simp [ByteArray.get!];rfl
def kM (c:Nat):Prop:=c<55296\/(57344<=c/\c<=1114111)
instance (c:Nat):Decidable (kM c):=by unfold kM;infer_instance
theorem abk (c:Nat):(Go.Utf8.valid (c:Int)=true)=kM c:=by
 grind [Go.Utf8.valid,kM]
def tL (b0 b1 b2 b3 l:Nat):Nat×Nat:=
 if b0<128 then (b0,1)
 else if b0 / 32=6/\1<l/\b1 / 64=2 then (if 128<=b0 % 32*64+b1 % 64 then (b0 % 32*64+b1 % 64,2) else (65533,1))
 else if b0 / 16=14/\1<l/\b1 / 64=2/\2<l/\b2 / 64=2 then (if 2048<=b0 % 16*4096+b1 % 64*64+b2 % 64/\kM (b0 % 16*4096+b1 % 64*64+b2 % 64) then (b0 % 16*4096+b1 % 64*64+b2 % 64,3) else (65533,1))
 else if b0 / 8=30/\1<l/\b1 / 64=2/\2<l/\b2 / 64=2/\3<l/\b3 / 64=2 then (if 65536<=b0 % 8*262144+b1 % 64*4096+b2 % 64*64+b3 % 64/\kM (b0 % 8*262144+b1 % 64*4096+b2 % 64*64+b3 % 64) then (b0 % 8*262144+b1 % 64*4096+b2 % 64*64+b3 % 64,4) else (65533,1))
 else (65533,1)
theorem abc (s:List UInt8) (p:Nat) (hp:p<s.length):lH s p=tL (s.getD p 0).toNat (s.getD (p+1) 0).toNat (s.getD (p+2) 0).toNat (s.getD (p+3) 0).toNat (s.length - p):=by
 unfold lH Go.Utf8.decode tL;have hsz:(⟨s.toArray⟩:ByteArray).size=s.length:=rfl;have e1:∀ k,(p+k<s.length)=(k<s.length - p):=λk=>by grind
 grind [abf,Go.Utf8.runeError,abk]
def j2 (b0 b1 b2 b3 l:Nat):Nat×Nat:=
 if kd b0=0\/l<kd b0 then (0,0) else if kd b0=1 then (b0,1) else
  if kd b0=2 then (if b1<128\/192<=b1 then (0,0) else pQ 2 (b0 % 64*64+b1 % 64))
  else if kd b0=3 then (if (b1<128\/192<=b1)\/(b2<128\/192<=b2) then (0,0) else pQ 3 ((b0 % 16*64+b1 % 64)*64+b2 % 64))
  else (if (b1<128\/192<=b1)\/(b2<128\/192<=b2)\/(b3<128\/192<=b3) then (0,0) else pQ 4 (((b0 % 8*64+b1 % 64)*64+b2 % 64)*64+b3 % 64))
theorem Mk {s:List UInt8} {p n f i r:Nat} (h:¬i<n):Bi s p n f i r=some r:=by
 cases f with
 |zero=>rfl
 |succ f=>rw [Bi,if_neg h]
theorem Dg {s:List UInt8} {p n f i r:Nat} (h:i<n):Bi s p n (f+1) i r=if (s.getD (p+i) 0).toNat<128\/192<=(s.getD (p+i) 0).toNat then none else Bi s p n f (i+1) (r*64+(s.getD (p+i) 0).toNat % 64):=by
 rw [Bi,if_pos h]
theorem FU (s:List UInt8) (p:Nat) (hp:p<s.length):mz s p=j2 (s.getD p 0).toNat (s.getD (p+1) 0).toNat (s.getD (p+2) 0).toNat (s.getD (p+3) 0).toNat (s.length - p):=by
 unfold mz j2;have hle:=abh (s.getD p 0).toNat;generalize hn:kd (s.getD p 0).toNat=n at hle ⊢
 by_cases h0:n=0\/s.length - p<n
 ·grind
 rw [if_neg (show ¬(n=0\/s.length<p+n) by omega),if_neg h0]
 by_cases h1:n=1
 ·simp_all
 rw [if_neg h1,if_neg h1];have hn3:n=2\/n=3\/n=4:=om;rcases hn3 with rfl|rfl|rfl
 ·rw [if_pos rfl,Dg dd,Mk dd];split
  ·rfl
  ·rfl
 ·rw [if_neg dd,if_pos rfl,Dg dd,Dg dd,Mk dd]
  by_cases q1:(s.getD (p+1) 0).toNat<128\/192<=(s.getD (p+1) 0).toNat
  ·rw [if_pos q1,if_pos (.inl q1)];rfl
  rw [if_neg q1]
  by_cases q2:(s.getD (p+2) 0).toNat<128\/192<=(s.getD (p+2) 0).toNat
  ·rw [if_pos (show (s.getD (p+(1+1)) 0).toNat<128\/192<=(s.getD (p+(1+1)) 0).toNat from q2),if_pos (.inr q2)];rfl
  ·rw [if_neg (show ¬((s.getD (p+(1+1)) 0).toNat<128\/192<=(s.getD (p+(1+1)) 0).toNat) from q2),if_neg (λh=>h.elim q1 q2)];rfl
 ·rw [if_neg dd,if_neg dd,Dg dd,Dg dd,Dg dd,Mk dd]
  by_cases q1:(s.getD (p+1) 0).toNat<128\/192<=(s.getD (p+1) 0).toNat
  ·rw [if_pos q1,if_pos (.inl q1)];rfl
  rw [if_neg q1]
  by_cases q2:(s.getD (p+2) 0).toNat<128\/192<=(s.getD (p+2) 0).toNat
  ·rw [if_pos (show (s.getD (p+(1+1)) 0).toNat<128\/192<=(s.getD (p+(1+1)) 0).toNat from q2),if_pos (.inr (.inl q2))];rfl
  rw [if_neg (show ¬((s.getD (p+(1+1)) 0).toNat<128\/192<=(s.getD (p+(1+1)) 0).toNat) from q2)]
  by_cases q3:(s.getD (p+3) 0).toNat<128\/192<=(s.getD (p+3) 0).toNat
  ·rw [if_pos (show (s.getD (p+(1+1+1)) 0).toNat<128\/192<=(s.getD (p+(1+1+1)) 0).toNat from q3),if_pos (.inr (.inr q3))];rfl
  ·rw [if_neg (show ¬((s.getD (p+(1+1+1)) 0).toNat<128\/192<=(s.getD (p+(1+1+1)) 0).toNat) from q3),if_neg (λh=>h.elim q1 (λh=>h.elim q2 q3))];rfl
theorem abb (b0 b1 b2 b3 l:Nat) (hl:0<l) (h0:b0<256) (h1:b1<256) (h2:b2<256) (h3:b3<256):
  ((j2 b0 b1 b2 b3 l).2≠0->tL b0 b1 b2 b3 l=j2 b0 b1 b2 b3 l/\((j2 b0 b1 b2 b3 l).1=65533->2<l/\b0=239/\b1=191/\b2=189))/\
  ((j2 b0 b1 b2 b3 l).2=0->(tL b0 b1 b2 b3 l).1=65533/\¬(2<l/\b0=239/\b1=191/\b2=189)):=by
 have hsz:kd b0=if b0<128 then 1 else if 194<=b0/\b0<224 then 2 else if 224<=b0/\b0<240 then 3 else if 240<=b0/\b0<245 then 4 else 0:=rfl
 by_cases c1:b0<128
 ·grind [j2,tL]
 rw [if_neg c1] at hsz
 by_cases c2:194<=b0/\b0<224
 ·rw [if_pos c2] at hsz
  by_cases g:1<l/\b1 / 64=2
  ·have ht:j2 b0 b1 b2 b3 l=pQ 2 (b0 % 64*64+b1 % 64):=by grind [j2]
   grind [pQ,yd,tL]
  grind [j2,tL]
 rw [if_neg c2] at hsz
 by_cases c3:224<=b0/\b0<240
 ·rw [if_pos c3] at hsz
  by_cases g:1<l/\b1 / 64=2/\2<l/\b2 / 64=2
  ·have ht:j2 b0 b1 b2 b3 l=pQ 3 ((b0 % 16*64+b1 % 64)*64+b2 % 64):=by grind [j2]
   grind [kM,tL,pQ,yd]
  ·have ht:j2 b0 b1 b2 b3 l=(0,0):=by
    grind [j2]
   grind [tL]
 rw [if_neg c3] at hsz
 by_cases c4:240<=b0/\b0<245
 ·rw [if_pos c4] at hsz
  by_cases g:1<l/\b1 / 64=2/\2<l/\b2 / 64=2/\3<l/\b3 / 64=2
  ·have ht:j2 b0 b1 b2 b3 l=pQ 4 (((b0 % 8*64+b1 % 64)*64+b2 % 64)*64+b3 % 64):=by grind [j2]
   grind [kM,tL,pQ,yd]
  ·have ht:j2 b0 b1 b2 b3 l=(0,0):=by
    unfold j2;grind
   grind [tL]
 grind [j2,tL,kM]
theorem abg (s:List UInt8) (p:Nat):pb [239,191,189] (s.drop p)=decide (2<s.length - p/\(s.getD p 0).toNat=239/\(s.getD (p+1) 0).toNat=191/\(s.getD (p+2) 0).toNat=189):=by
 have e:∀ i,s.getD (p+i) 0=(s.drop p).getD i 0:=λi=>by simp_all
 have e0:=e 0;rw [Nat.add_zero] at e0;rw [e0,e 1,e 2,<-List.length_drop];have k:∀ (x:UInt8) (n:Nat) (hn:n<256),(x=UInt8.ofNat n)=(x.toNat=n):=λx n hn=>by
  apply propext;constructor
  ·simp_all
  ·intro h;apply UInt8.toNat_inj.1;rw [h];simp;omega
 generalize s.drop p=t;unfold pb
 match t with
 |[]=>rfl
 |[a]=>rfl
 |[a,b]=>rfl
 |a::b::c::t=>
  have k0:=k a 239 dd;have k1:=k b 191 dd;have k2:=k c 189 dd;simp_all
theorem abj (s:List UInt8) (p:Nat) (hp:p<s.length):
  ((mz s p).2≠0->lH s p=mz s p/\((mz s p).1=65533->pb [239,191,189] (s.drop p)=true))/\((mz s p).2=0->(lH s p).1=65533/\pb [239,191,189] (s.drop p)=false):=by
 rw [abc s p hp,FU s p hp,abg];obtain ⟨h1,h2⟩:=abb (s.getD p 0).toNat (s.getD (p+1) 0).toNat (s.getD (p+2) 0).toNat (s.getD (p+3) 0).toNat (s.length - p) om (UInt8.toNat_lt _) (UInt8.toNat_lt _) (UInt8.toNat_lt _) (UInt8.toNat_lt _);grind
theorem Sw (s:List UInt8):∀ (f p:Nat) (acc:List Int),pc s f p acc=wF s f p acc
 |0,_,_=>rfl
 |f+1,p,acc=>by
  rw [pc,wF]
  by_cases hp:p<s.length
  ·rw [if_pos hp,if_pos hp];obtain ⟨h1,h2⟩:=abj s p hp
   by_cases hn:(mz s p).2=0
   ·simp_all
   ·obtain ⟨e,q⟩:=h1 hn;rw [if_neg hn,e,if_pos,Sw s f];grind
  grind
theorem abi (s:List UInt8):mw s=Mj s:=Sw s _ _ _
def ye (r:Nat):List Nat:=
 if r<128 then [r] else if r<2048 then [192+r / 64,128+r % 64] else if r<65536 then [224+r / 4096,128+r / 64 % 64,128+r % 64] else [240+r / 262144,128+r / 4096 % 64,128+r / 64 % 64,128+r % 64]
def sx (r:Nat):List UInt8:=(ye r).map UInt8.ofNat
theorem SA (r:Nat):0<(sx r).length:=by
 grind [sx,ye]
theorem uX {n:Nat} (h:n<256):(UInt8.ofNat n).toNat=n:=by simp;omega
theorem abo (b:Nat):(b<128/\kd b=1)\/((194<=b/\b<224)/\kd b=2)\/((224<=b/\b<240)/\kd b=3)\/((240<=b/\b<245)/\kd b=4)\/((128<=b/\b<194\/245<=b)/\kd b=0):=by
 unfold kd;split
 ·omega
 ·split
  ·omega
  grind
theorem SG (b0 b1 b2 b3 l:Nat) (h0:b0<256) (h1:b1<256) (h2:b2<256) (h3:b3<256) (hn:(j2 b0 b1 b2 b3 l).2≠0):
  kM (j2 b0 b1 b2 b3 l).1/\ye (j2 b0 b1 b2 b3 l).1=[b0,b1,b2,b3].take (j2 b0 b1 b2 b3 l).2/\(j2 b0 b1 b2 b3 l).2<=l/\(j2 b0 b1 b2 b3 l).2<=4:=by
 unfold j2 at hn ⊢;rcases abo b0 with ⟨hb,hs⟩|⟨hb,hs⟩|⟨hb,hs⟩|⟨hb,hs⟩|⟨hb,hs⟩<;>rw [hs] at hn ⊢
 ·by_cases hl:(1:Nat)=0\/l<1
  ·simp_all
  rw [if_neg hl,if_pos rfl];refine ⟨.inl (by simp only;omega),?_,by simp only;omega,by simp⟩;grind [ye]
 ·grind [pQ,kM,ye]
 ·by_cases hl:(3:Nat)=0\/l<3
  ·simp_all
  rw [if_neg hl,if_neg dd,if_neg dd,if_pos rfl] at hn ⊢
  by_cases hc:(b1<128\/192<=b1)\/(b2<128\/192<=b2)
  ·simp_all
  rw [if_neg hc] at hn ⊢;unfold pQ at hn ⊢;have hle:yd 3=2048:=rfl;rw [hle] at hn ⊢;generalize hr:(b0 % 16*64+b1 % 64)*64+b2 % 64=r at hn ⊢
  by_cases hf:r<2048\/(55296<=r/\r<=57343)\/1114111<r
  ·simp_all
  rw [if_neg hf];refine ⟨by grind [kM],?_,by simp only;omega,by simp⟩;simp only;unfold ye;grind
 ·by_cases hl:(4:Nat)=0\/l<4
  ·simp_all
  rw [if_neg hl,if_neg dd,if_neg dd,if_neg dd] at hn ⊢
  by_cases hc:(b1<128\/192<=b1)\/(b2<128\/192<=b2)\/(b3<128\/192<=b3)
  ·simp_all
  rw [if_neg hc] at hn ⊢;unfold pQ at hn ⊢;have hle:yd 4=65536:=rfl;rw [hle] at hn ⊢;generalize hr:((b0 % 8*64+b1 % 64)*64+b2 % 64)*64+b3 % 64=r at hn ⊢
  by_cases hf:r<65536\/(55296<=r/\r<=57343)\/1114111<r
  ·simp_all
  rw [if_neg hf];refine ⟨by grind [kM],?_,by simp only;omega,by simp⟩;simp only;unfold ye;rw [if_neg om,if_neg om,if_neg om];show [_,_,_,_]=[b0,b1,b2,b3];simp only [List.cons.injEq,and_true];omega
 trivial
theorem Sz (s:List UInt8):∀ (k p:Nat),p+k<=s.length->s.drop p=((List.range k).map λi=>s.getD (p+i) 0)++s.drop (p+k)
 |0,p,_=>by simp
 |k+1,p,h=>by
  rw [Sz s k p om,List.range_succ,List.map_append,List.append_assoc];grind [List.drop_eq_getElem_cons]
theorem abq (s:List UInt8) (p:Nat) (hp:p<s.length) (hn:(mz s p).2≠0):kM (mz s p).1/\s.drop p=sx (mz s p).1++s.drop (p+(mz s p).2):=by
 rw [FU s p hp] at hn ⊢;obtain ⟨h1,h2,h3,h4⟩:=SG _ _ _ _ _ (UInt8.toNat_lt _) (UInt8.toNat_lt _) (UInt8.toNat_lt _) (UInt8.toNat_lt _) hn;refine ⟨h1,?_⟩;unfold sx;rw [h2];generalize (j2 _ _ _ _ _).2=n at*;rw [Sz s n p om];congr 1;have e:∀ x:UInt8,UInt8.ofNat x.toNat=x:=λx=>by simp
 match n,h4 with
 |0,_=>rfl
 |1,_=>simp_all
 |2,_=>simp [e,List.range_succ]
 |3,_=>simp [e,List.range_succ]
 |4,_=>simp [e,List.range_succ]
theorem abr {r:Nat} (h:kM r) (t:List UInt8):mz (sx r++t) 0=(r,(sx r).length):=by
 have hp:=SA r;rw [FU _ 0 (by grind)];unfold kM at h;unfold j2;unfold sx ye
 by_cases c1:r<128
 ·grind [uX,kd]
 by_cases c2:r<2048
 ·rw [if_neg c1,if_pos c2];have e0:(([192+r / 64,128+r % 64].map UInt8.ofNat++t).getD 0 0).toNat=192+r / 64:=uX om;grind [uX,kd,yd,pQ]
 by_cases c3:r<65536
 ·rw [if_neg c1,if_neg c2,if_pos c3];have e0:(([224+r / 4096,128+r / 64 % 64,128+r % 64].map UInt8.ofNat++t).getD 0 0).toNat=224+r / 4096:=uX om;have e1:(([224+r / 4096,128+r / 64 % 64,128+r % 64].map UInt8.ofNat++t).getD (0+1) 0).toNat=128+r / 64 % 64:=uX om;have e2:(([224+r / 4096,128+r / 64 % 64,128+r % 64].map UInt8.ofNat++t).getD (0+2) 0).toNat=128+r % 64:=uX om;rw [e0,e1,e2];have hs:kd (224+r / 4096)=3:=by grind [kd]
  have hl:yd 3=2048:=rfl;rw [hs,if_neg (by simp),if_neg dd,if_neg dd,if_pos rfl,if_neg om,show ((224+r / 4096) % 16*64+(128+r / 64 % 64) % 64)*64+(128+r % 64) % 64=r by omega];grind [pQ]
 ·rw [if_neg c1,if_neg c2,if_neg c3];have e0:(([240+r / 262144,128+r / 4096 % 64,128+r / 64 % 64,128+r % 64].map UInt8.ofNat++t).getD 0 0).toNat=240+r / 262144:=uX om;have e1:(([240+r / 262144,128+r / 4096 % 64,128+r / 64 % 64,128+r % 64].map UInt8.ofNat++t).getD (0+1) 0).toNat=128+r / 4096 % 64:=uX om;have e2:(([240+r / 262144,128+r / 4096 % 64,128+r / 64 % 64,128+r % 64].map UInt8.ofNat++t).getD (0+2) 0).toNat=128+r / 64 % 64:=uX om;have e3:(([240+r / 262144,128+r / 4096 % 64,128+r / 64 % 64,128+r % 64].map UInt8.ofNat++t).getD (0+3) 0).toNat=128+r % 64:=uX om;rw [e0,e1,e2,e3];have hs:kd (240+r / 262144)=4:=by grind [kd]
  have hl:yd 4=65536:=rfl;rw [hs,if_neg (by simp),if_neg dd,if_neg dd,if_neg dd,if_neg om,show (((240+r / 262144) % 8*64+(128+r / 4096 % 64) % 64)*64+(128+r / 64 % 64) % 64)*64+(128+r % 64) % 64=r by omega];grind [pQ]
open Go (Op.bytesLess)
def wG (m:List Nat):List UInt8:=m.flatMap sx
theorem I1 (r:Nat) (m:List Nat):wG (r::m)=sx r++wG m:=by simp [wG]
def pe (m:List Nat):List Int:=m.map λ(r:Nat)=>((r:Nat):Int)
theorem abp (s:List UInt8) (p:Nat) (hp:p<s.length):mz s p=mz (s.drop p) 0:=by
 grind [FU]
theorem Sx (s:List UInt8):∀ (m:List Nat) (f p:Nat) (acc:List Int),(∀ r∈m,kM r)->p<=s.length->s.drop p=wG m->s.length<f+p->wF s f p acc=some (acc++pe m)
 |[],f,p,acc,_,hp,hd,hf=>by
  have:s.length<=p:=by have:=congrArg List.length hd;grind [wG]
  cases f with
  |zero=>simp [wF,pe]
  |succ f=>grind [wF,pe]
 |r::m,f,p,acc,hv,hp,hd,hf=>by
  have hl:=congrArg List.length hd;rw [I1,List.length_append,List.length_drop] at hl;have hpos:=SA r;obtain ⟨f,rfl⟩:∃ g,f=g+1:=⟨f - 1,om⟩;have ht:mz s p=(r,(sx r).length):=by grind [abp,I1,abr]
  rw [wF,if_pos om,ht];simp only;rw [if_neg om,Sx s m f (p+(sx r).length) (acc++[(r:Int)]) (λx hx=>hv x (by simp [hx])) om (by rw [<-List.drop_drop,hd,I1];simp) om];simp [pe]
theorem abl {m:List Nat} (h:∀ r∈m,kM r):Mj (wG m)=some (pe m):=by
 grind [Mj,Sx]
theorem SB (s:List UInt8):∀ (f p:Nat) (acc l:List Int),p<=s.length->s.length<f+p->wF s f p acc=some l->∃ m,l=acc++pe m/\(∀ r∈m,kM r)/\s.drop p=wG m
 |0,p,acc,l,hp,hf,_=>absurd hf om
 |f+1,p,acc,l,hp,hf,h=>by
  rw [wF] at h
  by_cases hlt:p<s.length
  ·rw [if_pos hlt] at h
   by_cases hn:(mz s p).2=0
   ·simp_all
   ·rw [if_neg hn] at h;obtain ⟨h1,h2⟩:=abq s p hlt hn;have hle:p+(mz s p).2<=s.length:=by
     grind [FU,SG,UInt8.toNat_lt]
    obtain ⟨m,k1,k2,k3⟩:=SB s f _ _ l hle om h;refine ⟨(mz s p).1::m,by grind [pe],λr hr=>?_,by rw [h2,k3,I1]⟩;grind
  ·rw [if_neg hlt] at h;simp only [Option.some.injEq] at h;exact ⟨[],by rw [h];simp [pe],by simp,by rw [List.drop_of_length_le om];rfl⟩
theorem I3 {s:List UInt8} {l:List Int}:mw s=some l↔∃ m,l=pe m/\(∀ r∈m,kM r)/\s=wG m:=by
 rw [abi];constructor
 ·intro h;obtain ⟨m,h1,h2,h3⟩:=SB s _ 0 [] l (Nat.zero_le _) om h;grind
 grind [abl]
theorem FV:∀ (l m:List Int),(kL l m=-1/\kL m l=1)\/(kL l m=0/\l=m)\/(kL l m=1/\kL m l=-1)
 |[],[]=> .inr (.inl ⟨rfl,rfl⟩)
 |[],_::_=> .inl ⟨rfl,rfl⟩
 |_::_,[]=> .inr (.inr ⟨rfl,rfl⟩)
 |a::l,b::m=>by
  rw [kL,kL]
  by_cases h1:a<b
  ·omega
  by_cases h2:b<a
  ·omega
  obtain rfl:a=b:=om;rw [if_neg h1,if_neg h1,if_neg h1,if_neg h1];rcases FV l m with h|⟨h3,h4⟩|h
  ·exact .inl h
  ·simp_all
  omega
theorem Sy:∀ (l m n:List Int),kL l m<0->kL m n<0->kL l n<0
 |[],[],n,h,_=>by omega
 |[],_::_,[],_,h=>by trivial
 |[],_::_,_::_,_,_=>by rw [kL];omega
 |_::_,[],n,h,_=>by trivial
 |_::_,_::_,[],_,h=>by trivial
 |a::l,b::m,c::n,h,k=>by
  rw [kL] at h k ⊢
  by_cases h1:a<b
  ·omega
  ·rw [if_neg h1] at h
   by_cases h2:b<a
   ·omega
   ·rw [if_neg h2] at h
    by_cases k1:b<c
    ·omega
    ·rw [if_neg k1] at k
     by_cases k2:c<b
     ·omega
     ·rw [if_neg k2] at k;rw [if_neg om,if_neg om];exact Sy l m n h k
theorem SC:∀ {m n:List Nat},pe m=pe n->m=n
 |[],[],_=>rfl
 |[],_::_,h=>by cases h
 |_::_,[],h=>by cases h
 |a::m,b::n,h=>by
  have h1:(a:Int)=b:=(List.cons.inj h).1;have h2:pe m=pe n:=(List.cons.inj h).2;rw [SC h2,show a=b by omega]
def Bj (s:List UInt8):List Int:=s.map λb=>(1114112+b.toNat:Int)
theorem SE:∀ {a b:List UInt8},Bj a=Bj b->a=b
 |[],[],_=>rfl
 |[],_::_,h=>by cases h
 |_::_,[],h=>by cases h
 |x::a,y::b,h=>by
  have h1:(1114112+x.toNat:Int)=1114112+y.toNat:=(List.cons.inj h).1;have h2:Bj a=Bj b:=(List.cons.inj h).2;rw [SE h2,UInt8.toNat_inj.1 (show x.toNat=y.toNat by omega)]
theorem Mm {s:List UInt8} {l:List Int} (h:mw s=some l):qy s=l:=by unfold qy;rw [h]
theorem Ml {s:List UInt8} (h:mw s=none):qy s=Bj s:=by unfold qy;rw [h];rfl
theorem SD {m:List Nat} (hm:∀ r∈m,kM r) {s:List UInt8} (hs:s≠[]):kL (pe m) (Bj s)=-1:=by
 cases s with
 |nil=>exact absurd rfl hs
 |cons b s=>
  cases m with
  |nil=>rfl
  |cons r m=>
   have:=hm r (by simp);unfold kM at this;show kL ((r:Int)::pe m) ((1114112+b.toNat:Int)::Bj s)=-1;grind [kL]
theorem SF {s:List UInt8} (h:mw s=none):s≠[]:=λe=>by subst e;cases h
theorem abn {a b:List UInt8} (h:qy a=qy b):a=b:=by
 cases ha:mw a with
 |some l=>
  obtain ⟨m,rfl,hm,e⟩:=I3.1 ha;cases hb:mw b with
  |some l'=>
   grind [I3,Mm,SC]
  |none=>
   have h1:=SD hm (SF hb);grind [Mm,Ml,FV]
 |none=>
  cases hb:mw b with
  |some l'=>
   obtain ⟨n,rfl,hn,e'⟩:=I3.1 hb;have h1:=SD hn (SF ha);grind [Ml,Mm,FV]
  |none=>
   grind [Ml,SE]
theorem abm (a b:List UInt8):(lI a b !=lI b a)=!decide (a=b):=by
 grind [lI,FV,abn]
theorem I2 {a b c:List UInt8} (h:lI a b=true) (k:lI b c=true):lI a c=true:=
 decide_eq_true (Sy _ _ _ (of_decide_eq_true h) (of_decide_eq_true k))
theorem SI (a:List UInt8):lI a a=false:=by
 grind [lI,FV]
theorem Mo {a b:List UInt8} (h1:lI a b=false) (h2:lI b a=false):a=b:=by
 grind [abm]
theorem abw {a b:List UInt8} (h:lI a b=true):lI b a=false:=by
 grind [I2,SI]
def Dh (s:List UInt8):List (List UInt8)->List (List UInt8)
 |[]=>[s]
 |t::l=>if lI t s=true then t::Dh s l else s::t::l
def kN:List (List UInt8)->List (List UInt8)
 |[]=>[]
 |s::l=>Dh s (kN l)
theorem Mn (s:List UInt8):∀ l,(Dh s l).Perm (s::l)
 |[]=> .refl _
 |t::l=>by
  rw [Dh];split
  ·exact (List.Perm.cons t (Mn s l)).trans (.swap s t l)
  ·exact .refl _
theorem tM:∀ l,(kN l).Perm l
 |[]=> .refl _
 |s::l=>(Mn s _).trans (.cons s (tM l))
def sy (a b:List UInt8):Prop:=lI b a=false
theorem abt {a b:List UInt8} (h:sy a b) (k:sy b a):a=b:=Mo k h
theorem abu {a b:List UInt8} (h:lI a b=true):sy a b:=abw h
theorem abv {a b c:List UInt8} (h:sy a b) (k:sy b c):sy a c:=by
 grind [sy,I2,Mo]
theorem SH (s:List UInt8):∀ l,l.Pairwise sy->(Dh s l).Pairwise sy
 |[],_=>List.pairwise_singleton _ _
 |t::l,h=>by
  rw [Dh];have h1:=(List.pairwise_cons.1 h).1;have h2:=(List.pairwise_cons.1 h).2;split
  ·rename_i hlt;refine List.pairwise_cons.2 ⟨λu hu=>?_,SH s l h2⟩;grind [Mn,abu]
  ·rename_i hlt;have hst:sy s t:=by grind [sy]
   grind [List.pairwise_cons,abv]
theorem Mq:∀ l,(kN l).Pairwise sy
 |[]=> .nil
 |s::l=>SH s _ (Mq l)
theorem SJ {l m:List (List UInt8)} (h:m.Perm l) (hs:m.Pairwise sy):m=kN l:=
 List.Perm.eq_of_pairwise (λ_ _ _ _ h1 h2=>abt h1 h2) hs (Mq l) (h.trans (tM l).symm)
theorem uW {α:Type}:∀ {l m:List α},l.Nodup->(∀ a∈l,a∈m)->l.length<=m.length
 |[],_,_,_=>Nat.zero_le _
 |a::l,m,hd,h=>by
  obtain ⟨s,t,rfl⟩:=List.append_of_mem (h a (by simp));rw [List.nodup_cons] at hd;have:=uW (l:=l) (m:=s++t) hd.2 λb hb=>by
   grind
  grind
theorem Sq {α:Type}:∀ {l m:List α},l.Nodup->m.Nodup->(∀ a,a∈l↔a∈m)->l.Perm m
 |[],m,_,_,h=>by
  have:m=[]:=List.eq_nil_iff_forall_not_mem.2 λa ha=>by simp_all
  rw [this]
 |a::l,m,hd,hm,h=>by
  obtain ⟨s,t,rfl⟩:=List.append_of_mem ((h a).1 (by simp));rw [List.nodup_cons] at hd;have hm':(a::(s++t)).Nodup:=(List.perm_middle.nodup_iff).1 hm;rw [List.nodup_cons] at hm';refine (List.Perm.cons a (Sq hd.2 hm'.2 λb=>?_)).trans List.perm_middle.symm;grind
theorem Bf {α β:Type} (f:α->β):∀ {l:List α},(l.map f).Nodup->l.Nodup
 |[],_=>List.nodup_nil
 |a::l,h=>by
  rw [List.map_cons,List.nodup_cons] at h;rw [List.nodup_cons];exact ⟨λha=>h.1 (List.mem_map.2 ⟨a,ha,rfl⟩),Bf f h.2⟩
theorem FT {α β:Type} (f:α->β):∀ {l:List α},(l.map f).Nodup->∀ {a b:α},a∈l->b∈l->f a=f b->a=b
 |c::l,h,a,b,ha,hb,e=>by
  rw [List.map_cons,List.nodup_cons] at h;rcases List.mem_cons.1 ha with hac|ha
  ·grind
  ·rcases List.mem_cons.1 hb with hbc|hb
   ·simp_all
   ·exact FT f h.2 ha hb e
end Gw
