import Derived.Test.YtffboamedcmpaaaGreatDoorProg
import Derived.KernelRfl
import GoSem.Core.Utf8
import Derived.Lib.Bytealg
import GoSem.Op.String
import Derived.Test.YtffboamedcmpaaaGreatDoorAf
set_option linter.all false
set_option maxHeartbeats 4000000
set_option maxRecDepth 100000
namespace Go.Proofs.YtffboamedcmpaaaGreatDoor
open Go.Am
open Go.Proofs.Tryz Tryz
abbrev iO:b9:= .a8 true 1 [] .fW
abbrev jQ:b9:= .ax .u8 0
abbrev fy:b9:= .ax .i64 0
def xW:iw:=[(2,⟨.kb .i64,1,8,[fy]⟩),
 (3,⟨.kb .i64,1,8,[fy]⟩),
 (4,⟨.me,1,1,[.fD]⟩),
 (5,⟨.kb .u8,1,1,[jQ]⟩),
 (7,⟨.g5 [(0,2),(1,3),(2,4),(3,6)],4,24,[fy,fy, .fD,jQ]⟩),
 (9,⟨.kP,1,16,[.cp []]⟩),
 (12,⟨.kb .u64,1,8,[.ax .u64 0]⟩),
 (13,⟨.g5 [(0,9),(1,12)],2,24,[.cp [], .ax .u64 0]⟩),
 (18,⟨.g5 [(0,17)],1,8,[.fY]⟩),
 (20,⟨.kK,1,16,[.gy]⟩),
 (21,⟨.kb .i32,1,4,[.ax .i32 0]⟩),
 (50,⟨.kb .i64,1,8,[fy]⟩),
 (115,⟨.ku 117,1,8,[.fY]⟩),
 (120,⟨.lG,1,8,[.ga]⟩),
 (125,⟨.ku 128,1,8,[.fY]⟩),
 (132,⟨.kK,1,16,[.gy]⟩),
 (133,⟨.kK,1,16,[.gy]⟩),
 (141,⟨.lG,1,8,[.ga]⟩),
 (143,⟨.lG,1,8,[.ga]⟩),
 (146,⟨.ku 148,1,8,[.fY]⟩),
 (162,⟨.ku 166,1,8,[.fY]⟩),
 (185,⟨.ku 184,1,8,[.fY]⟩),
 (190,⟨.kK,1,16,[.gy]⟩),
 (191,⟨.kK,1,16,[.gy]⟩),
 (194,⟨.ku 5,1,8,[.fY]⟩),
 (223,⟨.kq 16 5,16,16,(List.replicate 16 jQ)⟩),
 (228,⟨.kb .u64,1,8,[.ax .u64 0]⟩),
 (231,⟨.ku 235,1,8,[.fY]⟩),
 (239,⟨.lG,1,8,[.ga]⟩),
 (280,⟨.lG,1,8,[.ga]⟩),
 (288,⟨.g5 [(0,130)],7,72,[fy,fy,fy,fy,fy, .cp [], .cp []]⟩),
 (308,⟨.ku 3,1,8,[.fY]⟩),
 (309,⟨.ku 9,1,8,[.fY]⟩),
 (318,⟨.kb .u32,1,4,[.ax .u32 0]⟩),
 (324,⟨.kq 16 5,16,16,(List.replicate 16 jQ)⟩),
 (338,⟨.kK,1,16,[.gy]⟩),
 (339,⟨.kK,1,16,[.gy]⟩),
 (373,⟨.kq 2 35,2,48,[iO,iO]⟩),
 (375,⟨.g5 [],0,0,[]⟩),
 (376,⟨.g5 [],0,0,[]⟩),
 (377,⟨.g5 [(0,45)],1,24,[iO]⟩),
 (378,⟨.g5 [(0,45)],1,24,[iO]⟩),
 (386,⟨.ku 78,1,8,[.fY]⟩),
 (399,⟨.kb .i64,1,8,[fy]⟩),
 (407,⟨.kb .u64,1,8,[.ax .u64 0]⟩),
 (411,⟨.kq 2 318,2,8,[.ax .u32 0, .ax .u32 0]⟩),
 (412,⟨.ku 415,1,8,[.fY]⟩),
 (431,⟨.kb .u64,1,8,[.ax .u64 0]⟩),
 (443,⟨.ku 431,1,8,[.fY]⟩),
 (448,⟨.kq 256 5,256,256,(List.replicate 256 jQ)⟩),
 (451,⟨.kq 16 450,32,32,(List.replicate 32 jQ)⟩),
 (454,⟨.g5 [(0,17),(1,17),(2,17),(3,9)],4,40,[.fY, .fY, .fY, .cp []]⟩),
 (456,⟨.kq 0 16,0,0,[]⟩),
 (457,⟨.g5 [(0,456)],0,0,[]⟩),
 (464,⟨.g5 [(0,12),(1,12),(2,318),(3,459),(4,5),(5,5),(6,460),(7,461),(8,194),(9,462),(10,463)],11,48,[.ax .u64 0, .ax .u64 0, .ax .u32 0,jQ,jQ,jQ,jQ, .gL, .fY, .ax .i32 0, .ax .i32 0]⟩)]++[(26,⟨.g5 [(0,24),(1,25)],2,48,[iO,iO]⟩),
 (30,⟨.g5 [(0,27),(2,3),(3,3),(4,28),(5,29),(6,3)],7,120,[iO,iO,fy,fy,iO,iO,fy]⟩),
 (33,⟨.g5 [(0,32),(1,32)],2,48,[iO,iO]⟩),
 (36,⟨.g5 [(0,3),(1,35)],2,32,[fy,iO]⟩),
 (40,⟨.g5 [(0,31),(7,34),(9,37),(11,38),(12,3),(13,39)],14,256,[iO,iO,fy,fy,iO,iO,fy,iO,iO,fy,iO,iO,fy,iO]⟩),
 (43,⟨.g5 [(0,3),(1,9),(2,42)],3,48,[fy, .cp [],iO]⟩),
 (46,⟨.g5 [(0,44),(3,3),(4,3),(5,3),(6,3),(7,3),(8,3),(9,45),(10,4),(11,3),(12,3),(13,3)],14,152,[fy, .cp [],iO,fy,fy,fy,fy,fy,fy,iO, .fD,fy,fy,fy]⟩),
 (48,⟨.g5 [(0,41),(14,47),(28,3)],29,416,[iO,iO,fy,fy,iO,iO,fy,iO,iO,fy,iO,iO,fy,iO,fy, .cp [],iO,fy,fy,fy,fy,fy,fy,iO, .fD,fy,fy,fy,fy]⟩),
 (59,⟨.g5 [(0,9),(1,3),(2,9)],3,40,[.cp [],fy, .cp []]⟩),
 (61,⟨.g5 [(0,3),(1,3)],2,16,[fy,fy]⟩),
 (63,⟨.g5 [(0,3),(1,3),(2,9),(3,62),(5,9),(6,62)],8,80,[fy,fy, .cp [],fy,fy, .cp [],fy,fy]⟩),
 (72,⟨.g5 [(0,3),(1,9),(2,9),(3,9),(4,3)],5,64,[fy, .cp [], .cp [], .cp [],fy]⟩),
 (75,⟨.g5 [(0,50),(1,9),(2,45),(3,3),(4,74)],5,80,[fy, .cp [],iO,fy,iO]⟩),
 (77,⟨.g5 [(0,73),(5,57),(6,3),(7,4),(8,4),(9,3),(10,3),(11,3),(12,3),(13,76)],18,216,[fy, .cp [], .cp [], .cp [],fy,iO,fy, .fD, .fD,fy,fy,fy,fy,fy, .cp [],iO,fy,iO]⟩),
 (79,⟨.g5 [(0,3),(1,73),(6,3),(7,9)],8,96,[fy,fy, .cp [], .cp [], .cp [],fy,fy, .cp []]⟩),
 (97,⟨.g5 [(0,3),(1,3),(2,3),(3,3),(4,73),(9,76)],14,176,[fy,fy,fy,fy,fy, .cp [], .cp [], .cp [],fy,fy, .cp [],iO,fy,iO]⟩),
 (116,⟨.g5 [(0,31),(7,76),(12,73),(17,39)],18,288,[iO,iO,fy,fy,iO,iO,fy,fy, .cp [],iO,fy,iO,fy, .cp [], .cp [], .cp [],fy,iO]⟩),
 (127,⟨.g5 [(0,125),(1,126)],2,32,[.fY,iO]⟩),
 (129,⟨.g5 [(0,62),(2,3),(3,3),(4,3),(5,9),(6,9)],7,72,[fy,fy,fy,fy,fy, .cp [], .cp []]⟩),
 (137,⟨.g5 [(0,4),(1,4),(2,64)],10,88,[.fD, .fD,fy,fy, .cp [],fy,fy, .cp [],fy,fy]⟩),
 (139,⟨.g5 [(0,130),(7,138)],17,160,[fy,fy,fy,fy,fy, .cp [], .cp [], .fD, .fD,fy,fy, .cp [],fy,fy, .cp [],fy,fy]⟩),
 (147,⟨.g5 [(0,47)],14,152,[fy, .cp [],iO,fy,fy,fy,fy,fy,fy,iO, .fD,fy,fy,fy]⟩),
 (165,⟨.g5 [(0,47),(14,164)],15,160,[fy, .cp [],iO,fy,fy,fy,fy,fy,fy,iO, .fD,fy,fy,fy, .gL]⟩),
 (181,⟨.g5 [(0,74),(1,4)],2,32,[iO, .fD]⟩),
 (183,⟨.g5 [(0,3),(1,3),(2,182)],4,48,[fy,fy,iO, .fD]⟩),
 (215,⟨.g5 [(0,3),(1,9)],2,24,[fy, .cp []]⟩),
 (232,⟨.g5 [(0,3),(1,3)],2,16,[fy,fy]⟩),
 (234,⟨.g5 [(0,41),(14,3),(15,233)],17,280,[iO,iO,fy,fy,iO,iO,fy,iO,iO,fy,iO,iO,fy,iO,fy,fy,fy]⟩),
 (263,⟨.g5 [(0,3),(1,25)],2,32,[fy,iO]⟩),
 (286,⟨.g5 [(0,130)],7,72,[fy,fy,fy,fy,fy, .cp [], .cp []]⟩),
 (304,⟨.g5 [(0,3),(1,9)],2,24,[fy, .cp []]⟩),
 (330,⟨.g5 [(0,3),(1,3)],2,16,[fy,fy]⟩),
 (369,⟨.g5 [(0,3),(1,3)],2,16,[fy,fy]⟩),
 (379,⟨.g5 [(0,73)],5,64,[fy, .cp [], .cp [], .cp [],fy]⟩),
 (414,⟨.g5 [(0,34)],2,48,[iO,iO]⟩),
 (449,⟨.g5 [(0,5),(1,5)],2,2,[jQ,jQ]⟩)].flatMap (λ(n,r)=>[(n,r),(n+1,r)])++[(22,80),(24,140),(25,64),(28,264),(29,184),(32,370),(35,331),(38,78),(39,130),(42,305),(45,9),(55,60),(57,3),(74,216),(95,98),(124,73),(126,5),(295,21),(322,324),(346,62),(352,74),(364,308),(419,39),(470,57)].map (λ(n,e)=>(n,⟨.jn e,1,24,[iO]⟩))++[1,23,52,53,54,56,58,66,67,68,69,71,81,82,84,85,86,87,89,90,91,92,93,94,96,99,101,103,104,106,108,110,111,112,113,114,118,121,122,123,131,135,136,142,144,145,149,150,151,152,153,154,155,156,158,159,160,161,163,164,167,168,169,171,172,173,174,175,176,178,179,180,186,187,188,189,192,193,195,196,197,198,199,200,201,202,203,204,206,208,210,211,212,213,214,217,218,219,220,221,222,224,226,227,229,230,236,237,240,241,242,244,245,247,248,249,251,252,254,255,257,259,260,261,262,265,266,267,268,269,270,271,272,274,275,276,277,278,279,281,282,283,285,290,291,292,293,294,296,297,299,300,302,303,306,307,312,314,315,316,317,319,320,321,323,325,326,328,329,332,333,334,335,337,340,341,342,343,344,345,347,348,349,351,353,354,355,356,357,359,361,363,365,366,367,368,371,372,374,382,384,385,387,389,390,391,392,393,394,396,397,398,401,402,403,404,405,406,408,409,410,413,416,417,418,420,422,424,425,427,428,429,430,432,433,434,435,436,437,438,439,440,442,445,446,447,453,461,466,467,468,469,471].map λn=>(n,⟨.mf,1,8,[.gL]⟩)
theorem jy:jc prog xW:=jc.UC (by kernel_rfl)
theorem m8:prog.follows .mixedOrders=true:=by kernel_rfl
end Go.Proofs.YtffboamedcmpaaaGreatDoor
namespace Go.Am
theorem VU {a:Bool} {p q:Prop} (h:a=true) (g:p):(a=true->p)/\(a=false->q):=⟨λ_=>g,λe=>absurd (h.symm.trans e) (by decide)⟩
theorem PZ {a:Bool} {p q:Prop} (h:a=false) (g:q):(a=true->p)/\(a=false->q):=⟨λe=>absurd (e.symm.trans h) (by decide),λ_=>g⟩
theorem arf {c:Prop} [Decidable c] {p q:Prop} (g:c->p) (k:¬c->q):(decide c=true->p)/\(decide c=false->q):=⟨λh=>g (of_decide_eq_true h),λh=>k (of_decide_eq_false h)⟩
theorem GC {c:Prop} [Decidable c] {p q:Prop} (h:c) (g:p):(decide c=true->p)/\(decide c=false->q):=⟨λ_=>g,λe=>absurd h (of_decide_eq_false e)⟩
theorem kD {c:Prop} [Decidable c] {p q:Prop} (h:¬c) (g:q):(decide c=true->p)/\(decide c=false->q):=⟨λe=>absurd (of_decide_eq_true e) h,λ_=>g⟩
theorem ari {P:Program} {σ:eK} {f:FuncId} {args:List b9} {m n:Nat} {K:b9->eK->Nat->Prop} {es es':List (fQ×gC)} {res:b9} (h:fF P f args (eJ es) m (gP m (λx e=>x= .gO res/\e=es'))) (hK:K res (xU σ m es') n)
  (hw:oJ σ m es:=by repeat (first|exact trivial|refine ⟨rfl,?_⟩)) (hpl:yP es=true:=by rfl) (hpl':yP es'=true:=by rfl) (h1:es'.map (·.1)=es.map (·.1):=by rfl) (h2:Em es=true:=by rfl) (h3:Em es'=true:=by rfl)
  (hmn:m<=n:=by decide) (hargs:sn m args=true:=by rfl) (hnr:En σ m=true:=by rfl):fF P f args σ n K:=
 fF.xS hw hpl hpl' (yQ h1 h2 h3) hmn hargs hnr h hK
theorem arj {P:Program} {σ:eK} {f:FuncId} {args:List b9} {m n:Nat} {K:b9->eK->Nat->Prop} {es:List (fQ×gC)} {res:b9} (h:fF P f args (eJ es) m (gP m (λx e=>x= .gO res/\e=es))) (hK:K res (xU σ m es) n)
  (hw:oJ σ m es:=by repeat (first|exact trivial|refine ⟨rfl,?_⟩)) (hpl:yP es=true:=by rfl)
  (hmn:m<=n:=by decide) (hargs:sn m args=true:=by rfl) (hnr:En σ m=true:=by rfl):fF P f args σ n K:=
 fF.L8 hw hpl hmn hargs hnr h hK
structure BD (q:Prop):Prop where
 are:q
theorem cx {p q:Prop} (h:q) (e:BD q->p:=by
 intro h
 conv=>whnf
 repeat ((first|refine VU (by decide) ?_|refine PZ (by decide) ?_|refine fF.kc (by assumption) rfl ?_|refine ⟨_,rfl,by assumption,?_⟩|refine ⟨_,⟨by omega,by assumption⟩,?_⟩|refine ⟨⟨by omega,by omega⟩,?_⟩|refine ⟨by omega,?_⟩|refine ⟨by kernel_rfl,?_⟩);(conv=>whnf))
 exact h.1):p:=e ⟨h⟩
theorem j5 {p q:Prop} (h:q) (e:BD q->p:=by
 intro h
 conv=>whnf
 repeat ((first|refine VU (by decide) ?_|refine PZ (by decide) ?_|refine GC (by omega) ?_|refine kD (by omega) ?_|refine fF.kc (by assumption) rfl ?_|refine ⟨_,rfl,by assumption,?_⟩|refine ⟨_,⟨by omega,by assumption⟩,?_⟩|refine ⟨⟨by omega,by omega⟩,?_⟩|refine ⟨by omega,?_⟩|refine ⟨by kernel_rfl,?_⟩|refine ari (by assumption) ?_|refine arj (by assumption) ?_);(conv=>whnf))
 exact h.1):p:=e ⟨h⟩
theorem fu {p:Prop} (e:p:=by
 conv=>whnf
 repeat ((first|refine VU (by decide) ?_|refine PZ (by decide) ?_|refine GC (by omega) ?_|refine kD (by omega) ?_|refine fF.kc (by assumption) rfl ?_|refine ⟨_,rfl,by assumption,?_⟩|refine ⟨_,⟨by omega,by assumption⟩,?_⟩|refine ⟨⟨by omega,by omega⟩,?_⟩|refine ⟨by omega,?_⟩|refine ⟨by kernel_rfl,?_⟩|refine ari (by assumption) ?_|refine arj (by assumption) ?_);(conv=>whnf))
 first|exact mR.fC _|rfl|exact ⟨_,_,⟨rfl,rfl⟩,rfl,⟨rfl,rfl⟩,⟨rfl,rfl,rfl,rfl,trivial⟩⟩):p:=e
theorem gI {p q:Prop} (h:q) (e:BD q->p:=by
 intro h
 conv=>whnf
 repeat ((first|refine VU (by decide) ?_|refine PZ (by decide) ?_|refine fF.kc (by assumption) rfl ?_|refine ⟨_,rfl,by assumption,?_⟩|refine ⟨_,⟨by omega,by assumption⟩,?_⟩|refine ⟨⟨by omega,by omega⟩,?_⟩|refine ⟨by omega,?_⟩|refine ⟨by kernel_rfl,?_⟩|refine VU (by rfl) ?_|refine PZ (by rfl) ?_);(conv=>whnf))
 exact h.1):p:=e ⟨h⟩
theorem qD {p q:Prop} (h:q) (e:BD q->p:=by
 intro h
 conv=>whnf
 repeat ((first|refine VU (by decide) ?_|refine PZ (by decide) ?_|refine GC (by omega) ?_|refine kD (by omega) ?_|refine fF.kc (by assumption) rfl ?_|refine ⟨_,rfl,by assumption,?_⟩|refine ⟨_,⟨by omega,by assumption⟩,?_⟩|refine ⟨⟨by omega,by omega⟩,?_⟩|refine ⟨by omega,?_⟩|refine ⟨by kernel_rfl,?_⟩|refine VU (by rfl) ?_|refine PZ (by rfl) ?_|refine ari (by assumption) ?_|refine arj (by assumption) ?_);(conv=>whnf))
 exact h.1):p:=e ⟨h⟩
theorem jf {p:Prop} (e:p:=by
 conv=>whnf
 repeat ((first|refine VU (by decide) ?_|refine PZ (by decide) ?_|refine GC (by omega) ?_|refine kD (by omega) ?_|refine fF.kc (by assumption) rfl ?_|refine ⟨_,rfl,by assumption,?_⟩|refine ⟨_,⟨by omega,by assumption⟩,?_⟩|refine ⟨⟨by omega,by omega⟩,?_⟩|refine ⟨by omega,?_⟩|refine ⟨by kernel_rfl,?_⟩|refine VU (by rfl) ?_|refine PZ (by rfl) ?_|refine ari (by assumption) ?_|refine arj (by assumption) ?_);(conv=>whnf))
 first|done|exact mR.fC _|rfl|exact ⟨_,_,⟨rfl,rfl⟩,rfl,⟨rfl,rfl⟩,⟨rfl,rfl,rfl,rfl,trivial⟩⟩):p:=e
theorem eI {p:Prop} (h:p:=by kernel_rfl):p:=h
theorem kw {p q:Prop} (h:q) (e:BD q->p:=by
 intro h
 conv=>whnf
 repeat ((first|refine ⟨λ_=>?_,λh=>absurd h (by decide)⟩|refine ⟨λh=>absurd h (by decide),λ_=>?_⟩|refine ⟨λ_=>?_,λh=>absurd (show true=false from h) (by decide)⟩|refine ⟨λh=>absurd (show false=true from h) (by decide),λ_=>?_⟩);(conv=>whnf))
 exact h.1):p:=e ⟨h⟩
theorem Ae {p q:Prop} (h:q) (e:BD q->p:=by
 intro h
 conv=>whnf
 repeat ((first|refine ⟨λ_=>?_,λh=>absurd h (by decide)⟩|refine ⟨λh=>absurd h (by decide),λ_=>?_⟩|refine ⟨by kernel_rfl,?_⟩);(conv=>whnf))
 exact h.1):p:=e ⟨h⟩
theorem s9 {p:Prop} (h:p:=by repeat (first|exact qV.kv|refine qV.fj (mR.fC _) ?_|refine qV.fj (mR.kd _ _ _) ?_|fail "end")):p:=h
theorem kU {p:Prop} (h:p:=by
 conv=>whnf
 refine ⟨_,_,_,rfl,rfl,?_,_,_,⟨rfl,rfl⟩,rfl,⟨rfl,rfl⟩,⟨rfl,rfl,trivial⟩⟩
 repeat (first|exact qV.kv|refine qV.fj (mR.fC _) ?_|refine qV.fj (mR.kd _ _ _) ?_|fail "end")):p:=h
theorem ix {k:Nat} (h:k<=9223372036854775806:=by omega):gC.bg (b9.ax .i64 (IntKind.i64.wrap ((k:Int)+1)))=gC.bg (b9.ax .i64 ((k+1:Nat):Int)):=by
 rw [fq (by omega) (by omega)];rfl
theorem arh {X:Type} {A B gC:X->Prop} (x:X) (a:A x) (c:gC x:=by repeat (first|exact trivial|refine ⟨rfl,?_⟩)) (b:B x:=by first|decide|omega|(dsimp only;omega)):∃ x,A x/\B x/\gC x:=⟨x,a,b,c⟩
end Go.Am
namespace Go.Proofs.YtffboamedcmpaaaGreatDoor
open Go.Am
open Go.Proofs.Tryz Tryz
theorem P0 {o:Option Code} (h:o.isSome=true):o=some (o.getD .skip):=by cases o<;>first|rfl|cases h
theorem fS {f:FuncId} {fn:Func} (hf:prog.funcs[f]? =some fn) {args:List b9} {res:b9} (h:s7 prog xW none fn.ntmps 0 (fn.body.getD .skip) (sj args) 0 (Bt Eq xW fn res))
  (hb:fn.body.isSome=true:=by rfl) (hn:(fn.name== "runtime.NumGoroutine")=false:=by kernel_rfl) (hl:Nat.ble args.length fn.ntmps=true:=by rfl) (hro:pN fn.ntmps fn.results.toList=true:=by rfl):er prog f args res:=
 er.Uu jy m8 hf (P0 hb) hn hl hro h
theorem ic {f:FuncId} {fn:Func} (hf:prog.funcs[f]? =some fn) {args:List b9} {res:b9} (h:s7 prog xW none fn.ntmps 0 (fn.body.getD .skip) (sj args) 0 (Bt mR xW fn res))
  (hb:fn.body.isSome=true:=by rfl) (hn:(fn.name== "runtime.NumGoroutine")=false:=by kernel_rfl) (hl:Nat.ble args.length fn.ntmps=true:=by rfl) (hro:pN fn.ntmps fn.results.toList=true:=by rfl):er prog f args res:=
 er.Gd jy m8 hf (P0 hb) hn hl hro h
theorem fz {f:FuncId} {fn:Func} (hf:prog.funcs[f]? =some fn) {args:List b9} {σ:eK} {n:Nat} {K:b9->eK->Nat->Prop} (h:s7 prog xW none fn.ntmps n (fn.body.getD .skip) (CQ σ args) n (yN xW fn K))
  (hb:fn.body.isSome=true:=by rfl) (hn:(fn.name== "runtime.NumGoroutine")=false:=by kernel_rfl) (hl:Nat.ble args.length fn.ntmps=true:=by rfl) (hro:pN fn.ntmps fn.results.toList=true:=by rfl):fF prog f args σ n K:=
 fF.wM jy m8 hf (P0 hb) hn hl hro h
theorem gk {r:Option Nat} {nt lo n:Nat} {c:Code} {σ:eK} {K:Exit->eK->Nat->Prop} {q:Prop} (h:q) (e:BD q->iE prog r nt lo c σ n K:=by
 intro h;refine wO jy m8 _ _ _ _ ?_
 conv=>whnf
 exact h.1):iE prog r nt lo c σ n K:=e ⟨h⟩
theorem j6 {r:Option Nat} {nt lo n:Nat} {x y:Code} {K:Exit->eK->Nat->Prop} {σ:eK} {q:Prop} (h:q) (e:BD q->iE prog r nt lo (.seq x y) σ n K:=by
 intro h;refine iE.F7 (wO jy m8 _ _ _ _ ?_)
 conv=>whnf
 exact h.1):iE prog r nt lo (.seq x y) σ n K:=e ⟨h⟩
theorem ark {X:Type} {σ:eK} (st:X->List (Am.fQ×gC)) (m:Nat) (I:X->Prop) (μ:X->Nat) {r:Option Nat} {nt lo n:Nat} {c:Code} {K:Exit->eK->Nat->Prop} (x0:X) (h0:I x0)
  (h:∀ x,I x->s7 prog xW r nt lo c (eJ (st x)) m (Vi st m I μ x K)) (hw:oJ σ m (st x0):=by repeat (first|exact trivial|refine ⟨rfl,?_⟩)) (hm:lo<=m:=by decide):iE prog r nt lo (.loop c) σ n K:=
 iE.gY st m I μ hm x0 h0 hw λx hx=>wO jy m8 _ _ _ _ (h x hx)
end Go.Proofs.YtffboamedcmpaaaGreatDoor
namespace Gw
structure gp (α:Type) where
 ie:Bool
 al:List α
section
variable {α β:Type}
def gp.g6:gp α:=⟨true,[]⟩
def gp.mS (l:List α):gp α:=⟨false,l⟩
def gp.lR (s:gp α) (a:α):gp α:=⟨false,s.al++[a]⟩
def gp.gj (s:gp α) (l:List α):gp α:=⟨s.ie && l.isEmpty,s.al++l⟩
def gp.gg (s:gp α):Bool:=s.ie && s.al.isEmpty
def gp.j7 (s:gp α) (p:α->Bool):gp α:=⟨s.gg,s.al.filter λa=>!p a⟩
theorem gp.Af {s:gp α} (h:s.gg=true):s.al=[]:=by
 unfold gp.gg at h;rw [az] at h;simpa using h.2
end
def pO (s:List UInt8) (p:Nat):Nat×Nat:=Go.Utf8.decode ⟨s.toArray⟩ p
theorem Mi (s p):1<=(pO s p).2:=by
 grind [pO,Go.Utf8.decode]
theorem P2 (s p):(pO s p).2<=4:=by
 grind [pO,Go.Utf8.decode]
def tc (p s:List UInt8):Bool:=decide (p.length<=s.length) && decide (s.take p.length=p)
def td (s:List UInt8):Nat->Nat->List Int->Option (List Int)
 |0,_,acc=>some acc
 |f+1,p,acc=>if p<s.length then (if ((pO s p).1:Int)≠65533\/tc [239,191,189] (s.drop p)=true then td s f (p+(pO s p).2) (acc++[((pO s p).1:Int)]) else none) else some acc
def qE (s:List UInt8):Option (List Int):=td s (s.length+1) 0 []
theorem VX (s):∀ f p a l,td s f p a=some l->l.length<=a.length+(s.length - p)
 |0,p,a,l,h=>by grind [td]
 |f+1,p,a,l,h=>by
  rw [td] at h;have d:=Mi s p;split at h
  .split at h
   .have:=VX s f _ _ _ h;grind
   .cases h
  simp_all
theorem VY {s l} (h:qE s=some l):l.length<=s.length:=by
 have:=VX s _ _ _ _ h;simp_all
def Et (r:Int):Bool:=decide (r<32)||(decide (r=47)||decide (r=127))
def Mj (l:List Int):Int:=match l.findIdx? Et with|some i=>(i:Int)|none=>-1
def GD (s:List UInt8) (l:List Int):Bool:=!(decide (l.length<1)||(decide (20<l.length)||(decide (s=[46])||decide (s=[46,46])))) && !l.any Et
def ta (s:List UInt8):Bool:=match qE s with|none=>false|some l=>GD s l
open Go
def u0 (s:List UInt8):List Int:=match qE s with|some l=>l|none=>s.map λb=>(1114112+b.toNat:Int)
def oX:List Int->List Int->Int
 |[],[]=>0
 |[],_::_=>-1
 |_::_,[]=>1
 |a::l,b::m=>if a<b then -1 else if b<a then 1 else oX l m
def pQ (a b:List UInt8):Bool:=decide (oX (u0 a) (u0 b)<0)
def mi:List UInt8->List (List UInt8)
 |[]=>[[]]
 |b::l=>if b=47 then []::mi l else match mi l with
  |[]=>[[b]]
  |h::t=>(b::h)::t
def CS (l:List (List UInt8)):Bool:=decide (l.length<=16) && l.all ta
def kV (p:List UInt8):Option (List (List UInt8)):=if p=[47] then some [] else match p with
 |[]=>none
 |b::r=>if b=47 then (if CS (mi r)=true then some (mi r) else none) else none
theorem af1 (s):mi s≠[]:=by
 cases s with
 |nil=>simp [mi]
 |cons b l=>
  grind [mi]
theorem VV {s} (h:Lib.indexByte s 47=-1):mi s=[s]/\s.count 47=0:=by
 induction s with
 |nil=>trivial
 |cons b l i=>
  rw [Lib.indexByte] at h;have g:=Lib.indexByte_ge l 47;grind [mi]
theorem VW {s} {m:Nat} (h:Lib.indexByte s 47=(m:Int)):m<s.length/\mi s=s.take m::mi (s.drop (m+1))/\s.count 47=(s.drop (m+1)).count 47+1:=by
 induction s generalizing m with
 |nil=>trivial
 |cons b l i=>
  rw [Lib.indexByte] at h
  by_cases a:b=47
  .rw [ak (by simp [a])] at h;obtain rfl:m=0:=om;grind [mi]
  rw [ai (by simp [a])] at h
  by_cases c:Lib.indexByte l 47=-1
  .simp_all
  rw [ai (by simp [c])] at h;obtain ⟨k,rfl⟩:∃ k,m=k+1:=⟨m - 1,om⟩;grind [mi]
theorem af0 {s} (h:0<s.count 47):∃ m:Nat,Lib.indexByte s 47=(m:Int):=by
 have g:=Lib.indexByte_ge s 47
 by_cases a:Lib.indexByte s 47=-1
 .have:=(VV a).2;omega
 .exact ⟨(Lib.indexByte s 47).toNat,om⟩
theorem afZ {s} (h:s.count 47=0):mi s=[s]:=by
 have g:=Lib.indexByte_ge s 47
 by_cases a:Lib.indexByte s 47=-1
 .exact (VV a).1
 .have:=(VW (s:=s) (m:=(Lib.indexByte s 47).toNat) om).2.2;omega
def ov (c:Nat):Nat:=if c<128 then 1 else if 194<=c/\c<224 then 2 else if 224<=c/\c<240 then 3 else if 240<=c/\c<245 then 4 else 0
theorem af8 (c):ov c<=4:=by grind [ov]
def BE (n:Nat):Nat:=if n=1 then 0 else if n=2 then 128 else if n=3 then 2048 else 65536
def Eu (s:List UInt8) (p n:Nat):Nat->Nat->Nat->Option Nat
 |0,_,r=>some r
 |f+1,i,r=>if i<n then (if (s.getD (p+i) 0).toNat<128\/192<=(s.getD (p+i) 0).toNat then none else Eu s p n f (i+1) (r*64+(s.getD (p+i) 0).toNat % 64)) else some r
def af5 (c n:Nat):Nat:=if n=4 then c % 8 else if n=3 then c % 16 else c % 64
def uh (n r:Nat):Nat×Nat:=if r<BE n\/(55296<=r/\r<=57343)\/1114111<r then (0,0) else (r,n)
def af4 (n:Nat):Option Nat->Nat×Nat
 |none=>(0,0)
 |some r=>uh n r
def qF (s:List UInt8) (p:Nat):Nat×Nat:=
 if ov (s.getD p 0).toNat=0\/s.length<p+ov (s.getD p 0).toNat then (0,0) else if ov (s.getD p 0).toNat=1 then ((s.getD p 0).toNat,1) else
  af4 (ov (s.getD p 0).toNat) (Eu s p (ov (s.getD p 0).toNat) 4 1 (af5 (s.getD p 0).toNat (ov (s.getD p 0).toNat)))
def Ag (s:List UInt8):Nat->Nat->List Int->Option (List Int)
 |0,_,acc=>some acc
 |f+1,p,acc=>if p<s.length then (if (qF s p).2=0 then none else Ag s f (p+(qF s p).2) (acc++[((qF s p).1:Int)])) else some acc
def P3 (s:List UInt8):Option (List Int):=Ag s (s.length+1) 0 []
theorem af6 (s:List UInt8) (i:Nat):(ByteArray.get! ⟨s.toArray⟩ i)=s.getD i 0:=by
 simp [ByteArray.get!];rfl
def oY (c:Nat):Prop:=c<55296\/(57344<=c/\c<=1114111)
instance (c:Nat):Decidable (oY c):=by unfold oY;infer_instance
theorem agb (c:Nat):(Go.Utf8.valid (c:Int)=true)=oY c:=by
 grind [Go.Utf8.valid,oY]
def xY (b0 b a c l:Nat):Nat×Nat:=
 if b0<128 then (b0,1)
 else if b0 / 32=6/\1<l/\b / 64=2 then (if 128<=b0 % 32*64+b % 64 then (b0 % 32*64+b % 64,2) else (65533,1))
 else if b0 / 16=14/\1<l/\b / 64=2/\2<l/\a / 64=2 then (if 2048<=b0 % 16*4096+b % 64*64+a % 64/\oY (b0 % 16*4096+b % 64*64+a % 64) then (b0 % 16*4096+b % 64*64+a % 64,3) else (65533,1))
 else if b0 / 8=30/\1<l/\b / 64=2/\2<l/\a / 64=2/\3<l/\c / 64=2 then (if 65536<=b0 % 8*262144+b % 64*4096+a % 64*64+c % 64/\oY (b0 % 8*262144+b % 64*4096+a % 64*64+c % 64) then (b0 % 8*262144+b % 64*4096+a % 64*64+c % 64,4) else (65533,1))
 else (65533,1)
theorem af3 (s:List UInt8) (p:Nat) (hp:p<s.length):pO s p=xY (s.getD p 0).toNat (s.getD (p+1) 0).toNat (s.getD (p+2) 0).toNat (s.getD (p+3) 0).toNat (s.length - p):=by
 unfold pO Go.Utf8.decode xY;have h:(⟨s.toArray⟩:ByteArray).size=s.length:=rfl;have e:∀ k,(p+k<s.length)=(k<s.length - p):=λk=>by grind
 grind [af6,Go.Utf8.runeError,agb]
def n8 (b0 b a c l:Nat):Nat×Nat:=
 if ov b0=0\/l<ov b0 then (0,0) else if ov b0=1 then (b0,1) else
  if ov b0=2 then (if b<128\/192<=b then (0,0) else uh 2 (b0 % 64*64+b % 64))
  else if ov b0=3 then (if (b<128\/192<=b)\/(a<128\/192<=a) then (0,0) else uh 3 ((b0 % 16*64+b % 64)*64+a % 64))
  else (if (b<128\/192<=b)\/(a<128\/192<=a)\/(c<128\/192<=c) then (0,0) else uh 4 (((b0 % 8*64+b % 64)*64+a % 64)*64+c % 64))
theorem P4 {s p n f i r} (h:¬i<n):Eu s p n f i r=some r:=by
 cases f with
 |zero=>rfl
 |succ f=>rw [Eu,ai h]
theorem GF {s p n f i r} (h:i<n):Eu s p n (f+1) i r=if (s.getD (p+i) 0).toNat<128\/192<=(s.getD (p+i) 0).toNat then none else Eu s p n f (i+1) (r*64+(s.getD (p+i) 0).toNat % 64):=by
 rw [Eu,ak h]
theorem Jm (s p) (hp:p<s.length):qF s p=n8 (s.getD p 0).toNat (s.getD (p+1) 0).toNat (s.getD (p+2) 0).toNat (s.getD (p+3) 0).toNat (s.length - p):=by
 unfold qF n8;have l:=af8 (s.getD p 0).toNat;generalize f:ov (s.getD p 0).toNat=n at l ⊢
 by_cases e:n=0\/s.length - p<n
 .grind
 rw [ai (show ¬(n=0\/s.length<p+n) by omega),ai e]
 by_cases d:n=1
 .simp_all
 rw [ai d,ai d];have c:n=2\/n=3\/n=4:=om;rcases c with rfl|rfl|rfl
 .rw [ak rfl,GF dd,P4 dd];split
  .rfl
  .rfl
 .rw [ai dd,ak rfl,GF dd,GF dd,P4 dd]
  by_cases q:(s.getD (p+1) 0).toNat<128\/192<=(s.getD (p+1) 0).toNat
  .rw [ak q,ak (.inl q)];rfl
  rw [ai q]
  by_cases a:(s.getD (p+2) 0).toNat<128\/192<=(s.getD (p+2) 0).toNat
  .rw [ak (show (s.getD (p+(1+1)) 0).toNat<128\/192<=(s.getD (p+(1+1)) 0).toNat from a),ak (.inr a)];rfl
  .rw [ai (show ¬((s.getD (p+(1+1)) 0).toNat<128\/192<=(s.getD (p+(1+1)) 0).toNat) from a),ai (λh=>h.elim q a)];rfl
 .rw [ai dd,ai dd,GF dd,GF dd,GF dd,P4 dd]
  by_cases q:(s.getD (p+1) 0).toNat<128\/192<=(s.getD (p+1) 0).toNat
  .rw [ak q,ak (.inl q)];rfl
  rw [ai q]
  by_cases a:(s.getD (p+2) 0).toNat<128\/192<=(s.getD (p+2) 0).toNat
  .rw [ak (show (s.getD (p+(1+1)) 0).toNat<128\/192<=(s.getD (p+(1+1)) 0).toNat from a),ak (.inr (.inl a))];rfl
  rw [ai (show ¬((s.getD (p+(1+1)) 0).toNat<128\/192<=(s.getD (p+(1+1)) 0).toNat) from a)]
  by_cases b:(s.getD (p+3) 0).toNat<128\/192<=(s.getD (p+3) 0).toNat
  .rw [ak (show (s.getD (p+(1+1+1)) 0).toNat<128\/192<=(s.getD (p+(1+1+1)) 0).toNat from b),ak (.inr (.inr b))];rfl
  .rw [ai (show ¬((s.getD (p+(1+1+1)) 0).toNat<128\/192<=(s.getD (p+(1+1+1)) 0).toNat) from b),ai (λh=>h.elim q (λh=>h.elim a b))];rfl
theorem af2 (b0 b a c l) (o:0<l) (j:b0<256) (k:b<256) (m:a<256) (n:c<256):
  ((n8 b0 b a c l).2≠0->xY b0 b a c l=n8 b0 b a c l/\((n8 b0 b a c l).1=65533->2<l/\b0=239/\b=191/\a=189))/\
  ((n8 b0 b a c l).2=0->(xY b0 b a c l).1=65533/\¬(2<l/\b0=239/\b=191/\a=189)):=by
 have h:ov b0=if b0<128 then 1 else if 194<=b0/\b0<224 then 2 else if 224<=b0/\b0<240 then 3 else if 240<=b0/\b0<245 then 4 else 0:=rfl
 by_cases f:b0<128
 .grind [n8,xY]
 rw [ai f] at h
 by_cases d:194<=b0/\b0<224
 .rw [ak d] at h
  by_cases g:1<l/\b / 64=2
  .have t:n8 b0 b a c l=uh 2 (b0 % 64*64+b % 64):=by grind [n8]
   grind [uh,BE,xY]
  grind [n8,xY]
 rw [ai d] at h
 by_cases e:224<=b0/\b0<240
 .rw [ak e] at h
  by_cases g:1<l/\b / 64=2/\2<l/\a / 64=2
  .have t:n8 b0 b a c l=uh 3 ((b0 % 16*64+b % 64)*64+a % 64):=by grind [n8]
   grind [oY,xY,uh,BE]
  .have t:n8 b0 b a c l=(0,0):=by
    grind [n8]
   grind [xY]
 rw [ai e] at h
 by_cases i:240<=b0/\b0<245
 .rw [ak i] at h
  by_cases g:1<l/\b / 64=2/\2<l/\a / 64=2/\3<l/\c / 64=2
  .have t:n8 b0 b a c l=uh 4 (((b0 % 8*64+b % 64)*64+a % 64)*64+c % 64):=by grind [n8]
   grind [oY,xY,uh,BE]
  .have t:n8 b0 b a c l=(0,0):=by
    unfold n8;grind
   grind [xY]
 grind [n8,xY,oY]
theorem af7 (s:List UInt8) (p:Nat):tc [239,191,189] (s.drop p)=decide (2<s.length - p/\(s.getD p 0).toNat=239/\(s.getD (p+1) 0).toNat=191/\(s.getD (p+2) 0).toNat=189):=by
 have e:∀ i,s.getD (p+i) 0=(s.drop p).getD i 0:=λi=>by simp_all
 have d:=e 0;rw [cI] at d;rw [d,e 1,e 2,<-aV];have k:∀ (x:UInt8) (n:Nat) (f:n<256),(x=UInt8.ofNat n)=(x.toNat=n):=λx n f=>by
  apply propext;constructor
  .simp_all
  .intro h;apply jY.1;rw [h];simp;omega
 generalize s.drop p=t;unfold tc
 match t with
 |[]=>rfl
 |[a]=>rfl
 |[a,b]=>rfl
 |a::b::c::t=>
  have g:=k a 239 dd;have j:=k b 191 dd;have l:=k c 189 dd;simp_all
theorem aga (s:List UInt8) (p:Nat) (hp:p<s.length):
  ((qF s p).2≠0->pO s p=qF s p/\((qF s p).1=65533->tc [239,191,189] (s.drop p)=true))/\((qF s p).2=0->(pO s p).1=65533/\tc [239,191,189] (s.drop p)=false):=by
 rw [af3 s p hp,Jm s p hp,af7];obtain ⟨h,a⟩:=af2 (s.getD p 0).toNat (s.getD (p+1) 0).toNat (s.getD (p+2) 0).toNat (s.getD (p+3) 0).toNat (s.length - p) om (ca _) (ca _) (ca _) (ca _);grind
theorem VZ (s):∀ f p a,td s f p a=Ag s f p a
 |0,_,_=>rfl
 |f+1,p,a=>by
  rw [td,Ag]
  by_cases h:p<s.length
  .rw [ak h,ak h];obtain ⟨b,c⟩:=aga s p h
   by_cases n:(qF s p).2=0
   .simp_all
   .obtain ⟨e,q⟩:=b n;rw [ai n,e,ak,VZ s f];grind
  grind
theorem af9 (s):qE s=P3 s:=VZ s _ _ _
def BF (r:Nat):List Nat:=
 if r<128 then [r] else if r<2048 then [192+r / 64,128+r % 64] else if r<65536 then [224+r / 4096,128+r / 64 % 64,128+r % 64] else [240+r / 262144,128+r / 4096 % 64,128+r / 64 % 64,128+r % 64]
def wS (r:Nat):List UInt8:=(BF r).map UInt8.ofNat
theorem V3 (r):0<(wS r).length:=by
 grind [wS,BF]
theorem yR {n} (h:n<256):(UInt8.ofNat n).toNat=n:=by simp;omega
theorem agf (b):(b<128/\ov b=1)\/((194<=b/\b<224)/\ov b=2)\/((224<=b/\b<240)/\ov b=3)\/((240<=b/\b<245)/\ov b=4)\/((128<=b/\b<194\/245<=b)/\ov b=0):=by
 unfold ov;split
 .omega
 .split
  .omega
  grind
theorem V9 (b0 b a c l) (k:b0<256) (m:b<256) (n:a<256) (o:c<256) (h:(n8 b0 b a c l).2≠0):
  oY (n8 b0 b a c l).1/\BF (n8 b0 b a c l).1=[b0,b,a,c].take (n8 b0 b a c l).2/\(n8 b0 b a c l).2<=l/\(n8 b0 b a c l).2<=4:=by
 unfold n8 at h ⊢;rcases agf b0 with ⟨f,s⟩|⟨f,s⟩|⟨f,s⟩|⟨f,s⟩|⟨f,s⟩<;>rw [s] at h ⊢
 .by_cases d:(1:Nat)=0\/l<1
  .simp_all
  rw [ai d,ak rfl];refine ⟨.inl (by simp only;omega),?_,by simp only;omega,by simp⟩;grind [BF]
 .grind [uh,oY,BF]
 .by_cases d:(3:Nat)=0\/l<3
  .simp_all
  rw [ai d,ai dd,ai dd,ak rfl] at h ⊢
  by_cases g:(b<128\/192<=b)\/(a<128\/192<=a)
  .simp_all
  rw [ai g] at h ⊢;unfold uh at h ⊢;have e:BE 3=2048:=rfl;rw [e] at h ⊢;generalize j:(b0 % 16*64+b % 64)*64+a % 64=r at h ⊢
  by_cases i:r<2048\/(55296<=r/\r<=57343)\/1114111<r
  .simp_all
  rw [ai i];refine ⟨by grind [oY],?_,by simp only;omega,by simp⟩;simp only;unfold BF;grind
 .by_cases d:(4:Nat)=0\/l<4
  .simp_all
  rw [ai d,ai dd,ai dd,ai dd] at h ⊢
  by_cases g:(b<128\/192<=b)\/(a<128\/192<=a)\/(c<128\/192<=c)
  .simp_all
  rw [ai g] at h ⊢;unfold uh at h ⊢;have e:BE 4=65536:=rfl;rw [e] at h ⊢;generalize j:((b0 % 8*64+b % 64)*64+a % 64)*64+c % 64=r at h ⊢
  by_cases i:r<65536\/(55296<=r/\r<=57343)\/1114111<r
  .simp_all
  rw [ai i];refine ⟨by grind [oY],?_,by simp only;omega,by simp⟩;simp only;unfold BF;rw [ai om,ai om,ai om];show [_,_,_,_]=[b0,b,a,c];simp only [List.cons.injEq,and_true];omega
 trivial
theorem V2 (s:List UInt8):∀ (k p:Nat),p+k<=s.length->s.drop p=((List.range k).map λi=>s.getD (p+i) 0)++s.drop (p+k)
 |0,p,_=>by simp
 |k+1,p,h=>by
  rw [V2 s k p om,cM,aU,aA];grind [List.drop_eq_getElem_cons]
theorem agi (s:List UInt8) (p:Nat) (hp:p<s.length) (h:(qF s p).2≠0):oY (qF s p).1/\s.drop p=wS (qF s p).1++s.drop (p+(qF s p).2):=by
 rw [Jm s p hp] at h ⊢;obtain ⟨a,b,d,c⟩:=V9 _ _ _ _ _ (ca _) (ca _) (ca _) (ca _) h;refine ⟨a,?_⟩;unfold wS;rw [b];generalize (n8 _ _ _ _ _).2=n at*;rw [V2 s n p om];congr 1;have e:∀ x:UInt8,UInt8.ofNat x.toNat=x:=λx=>by simp
 match n,c with
 |0,_=>rfl
 |1,_=>simp_all
 |2,_=>simp [e,cM]
 |3,_=>simp [e,cM]
 |4,_=>simp [e,cM]
theorem agj {r} (h:oY r) (t):qF (wS r++t) 0=(r,(wS r).length):=by
 have p:=V3 r;rw [Jm _ 0 (by grind)];unfold oY at h;unfold n8;unfold wS BF
 by_cases c:r<128
 .grind [yR,ov]
 by_cases a:r<2048
 .rw [ai c,ak a];have e:(([192+r / 64,128+r % 64].map UInt8.ofNat++t).getD 0 0).toNat=192+r / 64:=yR om;grind [yR,ov,BE,uh]
 by_cases f:r<65536
 .rw [ai c,ai a,ak f];have e:(([224+r / 4096,128+r / 64 % 64,128+r % 64].map UInt8.ofNat++t).getD 0 0).toNat=224+r / 4096:=yR om;have b:(([224+r / 4096,128+r / 64 % 64,128+r % 64].map UInt8.ofNat++t).getD (0+1) 0).toNat=128+r / 64 % 64:=yR om;have d:(([224+r / 4096,128+r / 64 % 64,128+r % 64].map UInt8.ofNat++t).getD (0+2) 0).toNat=128+r % 64:=yR om;rw [e,b,d];have s:ov (224+r / 4096)=3:=by grind [ov]
  have l:BE 3=2048:=rfl;rw [s,ai (by simp),ai dd,ai dd,ak rfl,ai om,show ((224+r / 4096) % 16*64+(128+r / 64 % 64) % 64)*64+(128+r % 64) % 64=r by omega];grind [uh]
 .rw [ai c,ai a,ai f];have e:(([240+r / 262144,128+r / 4096 % 64,128+r / 64 % 64,128+r % 64].map UInt8.ofNat++t).getD 0 0).toNat=240+r / 262144:=yR om;have b:(([240+r / 262144,128+r / 4096 % 64,128+r / 64 % 64,128+r % 64].map UInt8.ofNat++t).getD (0+1) 0).toNat=128+r / 4096 % 64:=yR om;have d:(([240+r / 262144,128+r / 4096 % 64,128+r / 64 % 64,128+r % 64].map UInt8.ofNat++t).getD (0+2) 0).toNat=128+r / 64 % 64:=yR om;have g:(([240+r / 262144,128+r / 4096 % 64,128+r / 64 % 64,128+r % 64].map UInt8.ofNat++t).getD (0+3) 0).toNat=128+r % 64:=yR om;rw [e,b,d,g];have s:ov (240+r / 262144)=4:=by grind [ov]
  have l:BE 4=65536:=rfl;rw [s,ai (by simp),ai dd,ai dd,ai dd,ai om,show (((240+r / 262144) % 8*64+(128+r / 4096 % 64) % 64)*64+(128+r / 64 % 64) % 64)*64+(128+r % 64) % 64=r by omega];grind [uh]
open Go (Op.bytesLess)
def Ah (m:List Nat):List UInt8:=m.flatMap wS
theorem Mk (r:Nat) (m):Ah (r::m)=wS r++Ah m:=by simp [Ah]
def te (m:List Nat):List Int:=m.map λ(r:Nat)=>((r:Nat):Int)
theorem agh (s p) (hp:p<s.length):qF s p=qF (s.drop p) 0:=by
 grind [Jm]
theorem V0 (s):∀ m f p a,(∀ r∈m,oY r)->p<=s.length->s.drop p=Ah m->s.length<f+p->Ag s f p a=some (a++te m)
 |[],f,p,a,_,hp,h,b=>by
  have:s.length<=p:=by have:=congrArg List.length h;grind [Ah]
  cases f with
  |zero=>simp [Ag,te]
  |succ f=>grind [Ag,te]
 |r::m,f,p,a,v,hp,h,b=>by
  have l:=congrArg List.length h;rw [Mk,au,aV] at l;have o:=V3 r;obtain ⟨f,rfl⟩:∃ g,f=g+1:=⟨f - 1,om⟩;have t:qF s p=(r,(wS r).length):=by grind [agh,Mk,agj]
  rw [Ag,ak om,t];simp only;rw [ai om,V0 s m f (p+(wS r).length) (a++[(r:Int)]) (λx c=>v x (by simp [c])) om (by rw [<-cD,h,Mk];simp) om];simp [te]
theorem agc {m} (h:∀ r∈m,oY r):P3 (Ah m)=some (te m):=by
 grind [P3,V0]
theorem V4 (s):∀ f p a l,p<=s.length->s.length<f+p->Ag s f p a=some l->∃ m,l=a++te m/\(∀ r∈m,oY r)/\s.drop p=Ah m
 |0,p,a,l,hp,b,_=>absurd b om
 |f+1,p,a,l,hp,b,h=>by
  rw [Ag] at h
  by_cases t:p<s.length
  .rw [ak t] at h
   by_cases n:(qF s p).2=0
   .simp_all
   .rw [ai n] at h;obtain ⟨d,c⟩:=agi s p t n;have e:p+(qF s p).2<=s.length:=by
     grind [Jm,V9,UInt8.toNat_lt]
    obtain ⟨m,i,j,k⟩:=V4 s f _ _ l e om h;refine ⟨(qF s p).1::m,by grind [te],λr g=>?_,by rw [c,k,Mk]⟩;grind
  .rw [ai t] at h;simp only [aG] at h;exact ⟨[],by rw [h];simp [te],by simp,by rw [bM om];rfl⟩
theorem Mm {s l}:qE s=some l↔∃ m,l=te m/\(∀ r∈m,oY r)/\s=Ah m:=by
 rw [af9];constructor
 .intro h;obtain ⟨m,a,b,c⟩:=V4 s _ 0 [] l (ar _) om h;grind
 grind [agc]
theorem Jn:∀ l m,(oX l m=-1/\oX m l=1)\/(oX l m=0/\l=m)\/(oX l m=1/\oX m l=-1)
 |[],[]=> .inr (.inl ⟨rfl,rfl⟩)
 |[],_::_=> .inl ⟨rfl,rfl⟩
 |_::_,[]=> .inr (.inr ⟨rfl,rfl⟩)
 |a::l,b::m=>by
  rw [oX,oX]
  by_cases c:a<b
  .omega
  by_cases d:b<a
  .omega
  obtain rfl:a=b:=om;rw [ai c,ai c,ai c,ai c];rcases Jn l m with h|⟨e,f⟩|h
  .exact .inl h
  .simp_all
  omega
theorem V1:∀ l m n,oX l m<0->oX m n<0->oX l n<0
 |[],[],n,h,_=>by omega
 |[],_::_,[],_,h=>by trivial
 |[],_::_,_::_,_,_=>by rw [oX];omega
 |_::_,[],n,h,_=>by trivial
 |_::_,_::_,[],_,h=>by trivial
 |a::l,b::m,c::n,h,k=>by
  rw [oX] at h k ⊢
  by_cases d:a<b
  .omega
  .rw [ai d] at h
   by_cases e:b<a
   .omega
   .rw [ai e] at h
    by_cases f:b<c
    .omega
    .rw [ai f] at k
     by_cases g:c<b
     .omega
     .rw [ai g] at k;rw [ai om,ai om];exact V1 l m n h k
theorem V5:∀ {m n:List Nat},te m=te n->m=n
 |[],[],_=>rfl
 |[],_::_,h=>by cases h
 |_::_,[],h=>by cases h
 |a::m,b::n,h=>by
  have d:(a:Int)=b:=(jW h).1;have c:te m=te n:=(jW h).2;rw [V5 c,show a=b by omega]
def Ew (s:List UInt8):List Int:=s.map λb=>(1114112+b.toNat:Int)
theorem V7:∀ {a b:List UInt8},Ew a=Ew b->a=b
 |[],[],_=>rfl
 |[],_::_,h=>by cases h
 |_::_,[],h=>by cases h
 |x::a,y::b,h=>by
  have d:(1114112+x.toNat:Int)=1114112+y.toNat:=(jW h).1;have c:Ew a=Ew b:=(jW h).2;rw [V7 c,jY.1 (show x.toNat=y.toNat by omega)]
theorem P6 {s l} (h:qE s=some l):u0 s=l:=by unfold u0;rw [h]
theorem P5 {s} (h:qE s=none):u0 s=Ew s:=by unfold u0;rw [h];rfl
theorem V6 {m} (h:∀ r∈m,oY r) {s} (a:s≠[]):oX (te m) (Ew s)=-1:=by
 cases s with
 |nil=>exact absurd rfl a
 |cons b s=>
  cases m with
  |nil=>rfl
  |cons r m=>
   have:=h r (by simp);unfold oY at this;show oX ((r:Int)::te m) ((1114112+b.toNat:Int)::Ew s)=-1;grind [oX]
theorem V8 {s} (h:qE s=none):s≠[]:=λe=>by subst e;cases h
theorem age {a b} (h:u0 a=u0 b):a=b:=by
 cases d:qE a with
 |some l=>
  obtain ⟨m,rfl,g,e⟩:=Mm.1 d;cases c:qE b with
  |some l'=>
   grind [Mm,P6,V5]
  |none=>
   have f:=V6 g (V8 c);grind [P6,P5,Jn]
 |none=>
  cases c:qE b with
  |some l'=>
   obtain ⟨n,rfl,i,j⟩:=Mm.1 c;have f:=V6 i (V8 d);grind [P5,P6,Jn]
  |none=>
   grind [P5,V7]
theorem agd (a b):(pQ a b !=pQ b a)=!decide (a=b):=by
 grind [pQ,Jn,age]
theorem Ml {a b c} (h:pQ a b=true) (k:pQ b c=true):pQ a c=true:=
 aO (V1 _ _ _ (ah h) (ah k))
theorem Wb (a):pQ a a=false:=by
 grind [pQ,Jn]
theorem P8 {a b} (h:pQ a b=false) (c:pQ b a=false):a=b:=by
 grind [agd]
theorem agn {a b} (h:pQ a b=true):pQ b a=false:=by
 grind [Ml,Wb]
def GG (s:List UInt8):List (List UInt8)->List (List UInt8)
 |[]=>[s]
 |t::l=>if pQ t s=true then t::GG s l else s::t::l
def oZ:List (List UInt8)->List (List UInt8)
 |[]=>[]
 |s::l=>GG s (oZ l)
theorem P7 (s:List UInt8):∀ l,(GG s l).Perm (s::l)
 |[]=> .refl _
 |t::l=>by
  rw [GG];split
  .exact (List.Perm.cons t (P7 s l)).trans (.swap s t l)
  .exact .refl _
theorem ui:∀ l,(oZ l).Perm l
 |[]=> .refl _
 |s::l=>(P7 s _).trans (.cons s (ui l))
def wT (a b:List UInt8):Prop:=pQ b a=false
theorem agk {a b} (h:wT a b) (k:wT b a):a=b:=P8 k h
theorem agl {a b} (h:pQ a b=true):wT a b:=agn h
theorem agm {a b c} (h:wT a b) (k:wT b c):wT a c:=by
 grind [wT,Ml,P8]
theorem Wa (s):∀ l,l.Pairwise wT->(GG s l).Pairwise wT
 |[],_=>List.pairwise_singleton _ _
 |t::l,h=>by
  rw [GG];have d:=(cb.1 h).1;have b:=(cb.1 h).2;split
  .rename_i a;refine cb.2 ⟨λu e=>?_,Wa s l b⟩;grind [P7,agl]
  .rename_i a;have c:wT s t:=by grind [wT]
   grind [List.pairwise_cons,agm]
theorem P9:∀ l,(oZ l).Pairwise wT
 |[]=> .nil
 |s::l=>Wa s _ (P9 l)
theorem Wc {l m} (h:m.Perm l) (s:m.Pairwise wT):m=oZ l:=
 List.Perm.eq_of_pairwise (λ_ _ _ _ a b=>agk a b) s (P9 l) (h.trans (ui l).symm)
theorem xX {α:Type}:∀ {l m:List α},l.Nodup->(∀ a∈l,a∈m)->l.length<=m.length
 |[],_,_,_=>ar _
 |a::l,m,d,h=>by
  obtain ⟨s,t,rfl⟩:=List.append_of_mem (h a (by simp));rw [b8] at d;have:=xX (l:=l) (m:=s++t) d.2 λb c=>by
   grind
  grind
theorem P1 {α:Type}:∀ {l m:List α},l.Nodup->m.Nodup->(∀ a,a∈l↔a∈m)->l.Perm m
 |[],m,_,_,h=>by
  have:m=[]:=cw.2 λa f=>by simp_all
  rw [this]
 |a::l,m,d,e,h=>by
  obtain ⟨s,t,rfl⟩:=List.append_of_mem ((h a).1 (by simp));rw [b8] at d;have c:(a::(s++t)).Nodup:=(List.perm_middle.nodup_iff).1 e;rw [b8] at c;refine (List.Perm.cons a (P1 d.2 c.2 λb=>?_)).trans List.perm_middle.symm;grind
theorem Er {α c:Type} (f:α->c):∀ {l:List α},(l.map f).Nodup->l.Nodup
 |[],_=>cW
 |a::l,h=>by
  rw [bp,b8] at h;rw [b8];exact ⟨λb=>h.1 (aE.2 ⟨a,b,rfl⟩),Er f h.2⟩
theorem Jl {α k:Type} (f:α->k):∀ {l:List α},(l.map f).Nodup->∀ {a b:α},a∈l->b∈l->f a=f b->a=b
 |c::l,h,a,b,d,g,e=>by
  rw [bp,b8] at h;rcases aK.1 d with i|d
  .grind
  .rcases aK.1 g with j|g
   .simp_all
   .exact Jl f h.2 d g e
theorem ago {r} (h:oY r):(47:UInt8)∈wS r↔r=47:=by
 unfold oY at h;have b:∀ n:Nat,n<256->n≠47->UInt8.ofNat n≠47:=λn c a e=>a (by have:=congrArg UInt8.toNat e;grind [yR])
 constructor
 .grind [wS,BF]
 .rintro rfl;decide
theorem agp {m} (h:∀ r∈m,oY r):(47:UInt8)∈Ah m↔47∈m:=by
 grind [Ah,ago]
theorem Mn {s} (h:ta s=true):(47:UInt8)∉s/\s≠[]:=by
 unfold ta at h;cases b:qE s with
 |none=>simp_all
 |some l=>
  rw [b] at h;obtain ⟨m,rfl,d,rfl⟩:=Mm.1 b;simp only [GD,az,bR,dA,dG] at h;obtain ⟨⟨f,_⟩,g⟩:=h;refine ⟨λa=>?_,λa=>?_⟩
  .have c:=(agp d).1 a;have i:(47:Int)∈te m:=aE.2 ⟨47,c,rfl⟩;grind [Et]
  .rw [a] at b;have e:te m=[]:=by
    have:qE []=some []:=rfl;simp_all
   simp_all
theorem We:∀ s,∀ t∈mi s,t.length<=s.length
 |[]=>by simp [mi]
 |b::l=>by
  have i:=We l;grind [mi]
theorem Wd {p y} (h:kV p=some y):∀ t∈y,t.length<=p.length:=by
 unfold kV at h
 by_cases a:p=[47]
 .simp_all
 rw [ai a] at h;cases p with
 |nil=>cases h
 |cons b r=>
  have h:(if b=47 then (if CS (mi r)=true then some (mi r) else none) else none)=some y:=h;split at h
  .split at h
   .cases h;intro t c;have:=We r t c;simp;omega
   .cases h
  .cases h
structure fG where
 gD:Int
 fR:List UInt8
 kE:List UInt8
 lS:List UInt8
 g7:Int
structure Ex where
 Qc:Bool
 Qd:Bool
 Qa:Bool
 Qb:Bool
def wU (k:Int):Option Ex:=
 if k=1\/k=2\/k=6\/k=10 then some ⟨true,false,false,false⟩
 else if k=3 then some ⟨true,false,true,false⟩
 else if k=4\/k=7 then some ⟨true,false,false,true⟩
 else if k=5 then some ⟨true,true,false,false⟩
 else if k=9\/k=11 then some ⟨false,false,false,true⟩
 else if k=13 then some ⟨false,false,true,false⟩
 else if k=8\/k=12 then some ⟨false,false,false,false⟩
 else none
theorem agq {k:Int} {p:Ex} (h:wU k=some p):1<=k/\k<=13:=by
 unfold wU at h
 repeat' split at h
 all_goals first|omega|cases h
def CT (s:List UInt8):Bool:=(kV s).isSome
def Ey (k:Int):Nat:=if k=13 then 4000 else 64
def Ez (p:Ex) (c:fG):Bool:=
 (if p.Qc=true then CT c.fR else decide (c.fR=[])) && ((if p.Qd=true then CT c.kE else decide (c.kE=[])) &&
 ((if p.Qa=true then decide (c.lS.length<=Ey c.gD) else decide (c.lS=[])) && (if p.Qb=true then decide (0<=c.g7) else decide (c.g7=0))))
def uj (c:fG):Bool:=match wU c.gD with|none=>false|some p=>Ez p c
structure mJ where
 iH:Int
 jw:Int
def m9 (s:mJ):Bool:=decide (1<=s.iH) && (decide (s.iH<=1048576) && (decide (0<=s.jw) && decide (s.jw<=63)))
def ke (a b:mJ):Bool:=decide (a.iH<b.iH)||(decide (a.iH=b.iH) && decide (a.jw<b.jw))
def mK (id:Int):Bool:=decide (128<=id) && decide (id<134217856)
def CW (id:Int):mJ:=if mK id=true then ⟨id / 128,id % 128 / 2⟩ else ⟨0,0⟩
def GJ (id:Int):Bool:=mK id && decide (id % 2=1)
def iy (id:Int):Bool:=decide (id=0)||(decide (id=2)||(mK id && !GJ id))
def BG (at_:mJ) (id:Int):Bool:=mK id && ke at_ (CW id)
structure eF where
 eM:Int
 jj:Int
 iU:List UInt8
 lA:mJ
 qZ:List UInt8
 Jo:mJ
def Js:eF:=⟨0,0,[],⟨0,0⟩,[],⟨0,0⟩⟩
def Mo (l:List eF) (id:Int):Nat->Bool
 |0=>true
 |j+1=>match l[j]? with|none=>false|some p=>decide (p.eM<id)
def x1 (l:List eF) (k:Nat):Bool:=match l[k]? with
 |none=>false
 |some n=>mK n.eM && Mo l n.eM k
def gU (l:List eF):Bool:=(List.range l.length).all (x1 l)
def il (l:List eF) (id:Int):Nat:=(l.takeWhile λn=>decide (n.eM<id)).length
def o8 (l:List eF) (id:Int):Bool:=match l[il l id]? with|none=>false|some n=>decide (n.eM=id)
def jN (l:List eF) (id:Int):Option eF:=match l[il l id]? with|none=>none|some n=>if n.eM=id then some n else none
def iZ (l:List eF):Nat->Int->List Int
 |0,_=>[]
 |f+1,id=>match jN l id with
  |none=>[]
  |some n=>if n.jj=-1 then [] else n.jj::iZ l f n.jj
def mT (l:List eF) (id:Int):List Int:=if gU l=true then iZ l l.length id else []
theorem Wf {l} (h:gU l=true) {k} (a:k<l.length):x1 l k=true:=bi.1 h k (dS.2 a)
theorem Qh {l} (h:gU l=true) {k} (a:k<l.length):mK l[k].eM=true:=by
 have:=Wf h a;grind [x1]
theorem ags {l} (h:gU l=true) {k} (a:k+1<l.length):l[k].eM<l[k+1].eM:=by
 have:=Wf h a;unfold x1 at this;rw [aj a] at this;simp only [az] at this;have b:=this.2;rw [Mo,aj (show k<l.length by omega)] at b;simp_all
theorem CX {l} (h:gU l=true) {i j} (a:i<j) (b:j<l.length):l[i].eM<l[j].eM:=by
 induction j with
 |zero=>omega
 |succ j d=>
  have c:=ags h b;grind
theorem Jr (l id):il l id<=l.length:=by
 grind [il,List.takeWhile_sublist]
theorem Wi {l id k} (a:k<il l id):∃ h:k<l.length,l[k].eM<id:=by
 have b:k<l.length:=aX a (Jr l id);refine ⟨b,?_⟩;unfold il at a;have p:(l.takeWhile λn=>decide (n.eM<id))<+:l:=List.takeWhile_prefix _;have e:=p.getElem a;grind [List.all_takeWhile]
theorem Wh {l id} (h:il l id<l.length):id<=l[il l id].eM:=by
 induction l with
 |nil=>simp at h
 |cons n l i=>
  by_cases a:n.eM<id
  .grind [il,List.takeWhile_cons_of_pos]
  grind [il,List.takeWhile_cons_of_neg]
theorem Qi {l id i} (f:i<=l.length) (c:∀ k (a:k<l.length),k<i->l[k].eM<id) (d:∀ k (a:k<l.length),i<=k->id<=l[k].eM):i=il l id:=by
 rcases Nat.lt_trichotomy i (il l id) with h|h|h
 .obtain ⟨b,e⟩:=Wi h;grind
 .exact h
 .have b:il l id<l.length:=om;grind [Wh]
theorem CY (l id):o8 l id=(jN l id).isSome:=by
 grind [o8,jN]
theorem tg {l id n} (h:jN l id=some n):n∈l/\n.eM=id/\∃ hp:il l id<l.length,l[il l id]=n:=by
 grind [jN]
theorem tf {l} (c:gU l=true) {n} (h:n∈l):jN l n.eM=some n:=by
 obtain ⟨k,b,rfl⟩:=bC h;have e:k=il l l[k].eM:=Qi (cU b) (λj a h=>CX c h b) (λj a h=>by
  by_cases e:k=j
  .simp_all
  .exact Int.le_of_lt (CX c om a))
 grind [jN]
theorem Jp (l):∀ f id,(iZ l f id).length<=f
 |0,_=>aq _
 |f+1,id=>by
  rw [iZ];split
  .simp
  .split
   .simp
   .have:=Jp l f (by assumption:eF).jj;simp;omega
def qG:Nat->Nat->List UInt8
 |0,_=>[]
 |f+1,n=>if n=0 then [] else qG f (n / 128)++[UInt8.ofNat (n % 128+128)]
def gh (n:Nat):List UInt8:=qG 10 (n / 128)++[UInt8.ofNat (n % 128)]
def px:Nat->Nat->Nat
 |0,_=>1
 |f+1,n=>if n<128 then 1 else px f (n / 128)+1
def o9 (n:Nat):Nat:=px 9 n
def CZ (n size i:Nat):Nat:=n / 128^(size - 1 - i) % 128+(if i+1<size then 128 else 0)
def uk (n size k:Nat):List UInt8:=(List.range k).map λi=>UInt8.ofNat (CZ n size i)
def mU (l:List Nat):List UInt8:=(l.map gh).flatten
def q8 (n i:Nat):List UInt8->Option (Nat×Nat)
 |[]=>none
 |c::l=>if (i=0/\c.toNat=128)\/72057594037927935<n then none else if c.toNat<128 then some (n*128+c.toNat,i+1) else q8 (n*128+c.toNat % 128) (i+1) l
def lI (l:List UInt8):Option (Nat×Nat):=q8 0 0 l
def nF (b t:List UInt8):List UInt8:=b++gh t.length++t
theorem Wo (f n):1<=px f n:=by
 cases f with
 |zero=>exact aq _
 |succ f=>grind [px]
theorem Mr (n):1<=o9 n:=Wo _ _
theorem Wn:∀ f n,n<128^(f+1)->px (f+1) n<=f+1
 |0,n,h=>by grind [px]
 |f+1,n,h=>by
  unfold px;split
  .omega
  .have:=Wn f (n / 128) om;omega
theorem GL (n) (h:n<9223372036854775808):o9 n<=9:=Wn 8 n om
theorem Wm:∀ f n,n<128^f->(qG f (n / 128)).length+1=px f n
 |0,n,h=>by simp [qG,px]
 |f+1,n,h=>by
  unfold qG px
  by_cases a:n<128
  .simp_all
  .rw [ai om,ai a,au];have:=Wm f (n / 128) om;simp;omega
theorem Mq:∀ f g n,n<128^f->f<=g->qG g n=qG f n
 |0,g,n,h,_=>by
  have:n=0:=by simpa using h
  subst this;cases g<;>simp [qG]
 |f+1,0,_,_,a=>by omega
 |f+1,g+1,n,h,a=>by
  unfold qG;rw [Mq f g (n / 128) om om]
theorem C0 (n) (h:n<128^9):(gh n).length=o9 n:=by
 grind [gh,o9,Mq,Wm]
theorem Qj (n size k):uk n size (k+1)=uk n size k++[UInt8.ofNat (CZ n size k)]:=by
 simp [uk,cM]
theorem Wk:∀ f n,n<128^f->qG f (n / 128)=uk n (px f n) (px f n - 1)
 |0,n,_=>by trivial
 |f+1,n,h=>by
  unfold qG px
  by_cases a:n<128
  .rw [ak om,ak a];rfl
  .rw [ai om,ai a];have b:n / 128<128^f:=om;have e:=Wk f (n / 128) b;have p:=Wo f (n / 128);generalize px f (n / 128)=s at*;rw [e,show s+1 - 1=(s - 1)+1 from om,Qj];congr 1
   .unfold uk;refine List.map_congr_left λi c=>?_
    have d:i<s - 1:=by simpa using c
    unfold CZ;rw [ak om,ak om];congr 3;rw [Nat.div_div_eq_div_mul,<-Nat.pow_succ',show (s - 1 - i).succ=s+1 - 1 - i from by omega]
   grind [CZ]
theorem agu (n) (h:n<128^9):gh n=uk n (o9 n) (o9 n):=by
 have p:=Mr n;unfold gh;rw [Mq 9 10 (n / 128) om om,Wk 9 n h];grind [o9,px,Qj,CZ]
theorem agt (l n):mU (l++[n])=mU l++gh n:=by simp [mU]
theorem Wp (n i) (c:UInt8) (l) (h:(i=0/\c.toNat=128)\/72057594037927935<n):q8 n i (c::l)=none:=by
 grind [q8]
theorem Qk (n i) (c:UInt8) (l) (h:¬((i=0/\c.toNat=128)\/72057594037927935<n)) (a:c.toNat<128):q8 n i (c::l)=some (n*128+c.toNat,i+1):=by
 grind [q8]
theorem Ql (n i) (c:UInt8) (l) (h:¬((i=0/\c.toNat=128)\/72057594037927935<n)) (a:¬c.toNat<128):q8 n i (c::l)=q8 (n*128+c.toNat % 128) (i+1) l:=by
 grind [q8]
theorem Jt:∀ l n i m u,n<9223372036854775808->q8 n i l=some (m,u)->i+1<=u/\u<=i+l.length/\m<9223372036854775808
 |[],n,i,m,u,_,h=>by simp [q8] at h
 |c::l,n,i,m,u,e,h=>by
  unfold q8 at h;split at h
  .cases h
  .rename_i a;split at h
   .grind
   .have b:=Jt l _ _ m u om h;grind
structure e7 where
 fa:mJ
 iT:Int
 eO:Int
 iW:Int
 mI:List UInt8
 n9:List UInt8
def wV (o:e7):Bool:=mK o.eO && (iy o.iW && (!BG o.fa o.iW && (ta o.mI && decide (o.n9=[]))))
def Ai (o:e7):Bool:=mK o.eO && (GJ o.eO && (decide (o.n9.length<=64) && (decide (o.iW=0) && decide (o.mI=[]))))
def g4 (o:e7):Bool:=if o.iT=1 then m9 o.fa && (!BG o.fa o.eO && wV o) else if o.iT=2 then m9 o.fa && (!BG o.fa o.eO && Ai o) else false
def GI (o:e7):List UInt8:=mU [o.fa.iH.toNat,o.fa.jw.toNat,o.iT.toNat,o.eO.toNat]
def jD (o:e7):List UInt8:=if o.iT=1 then nF (GI o++mU [o.iW.toNat]) o.mI else nF (GI o) o.n9
def CU (b:List UInt8) (o:e7):List UInt8:=if g4 o=true then b++jD o else []
def CV (o:e7):Int:=if g4 o=true then 0 else 50
theorem Qe {id} (h:mK id=true):128<=id/\id<134217856:=by
 grind [mK]
theorem agr {id} (h:iy id=true):0<=id/\id<134217856:=by
 unfold iy at h;simp only [cq,az,aM] at h;rcases h with h|h|h
 .omega
 .omega
 .have:=Qe h.1;omega
theorem GH {o} (h:g4 o=true):(0<=o.fa.iH/\o.fa.iH<=1048576)/\(0<=o.fa.jw/\o.fa.jw<=63)/\(o.iT=1\/o.iT=2)/\(128<=o.eO/\o.eO<134217856)/\(0<=o.iW/\o.iW<134217856):=by
 have s:m9 o.fa=true->(0<=o.fa.iH/\o.fa.iH<=1048576)/\(0<=o.fa.jw/\o.fa.jw<=63):=λh=>by
  grind [m9]
 unfold g4 at h;split at h
 .rename_i k;simp only [az] at h;obtain ⟨d,_,c⟩:=h;unfold wV at c;simp only [az] at c;obtain ⟨a,b⟩:=s d;exact ⟨a,b, .inl k,Qe c.1,agr c.2.1⟩
 .split at h
  .rename_i k;simp only [az] at h;obtain ⟨d,_,c⟩:=h;unfold Ai at c;simp only [az,aM] at c;obtain ⟨a,b⟩:=s d;exact ⟨a,b, .inr k,Qe c.1,om⟩
  .cases h
structure Aj where
 Qf:Bool
 Qg:Bool
 xZ:eF
def GK (l:List eF) (o:e7):Bool:=decide (o.iW=o.eO)||(iZ l l.length o.iW).contains o.eO
def tj (id:Int):eF:=⟨id,-1,[],⟨0,0⟩,[],⟨0,0⟩⟩
def mj (n:eF) (o:e7):eF:=if o.iT=1 then ⟨n.eM,o.iW,o.mI,o.fa,n.qZ,n.Jo⟩ else ⟨n.eM,n.jj,n.iU,n.lA,o.n9,o.fa⟩
def lH (l:List eF) (o:e7):Bool:=gU l && (g4 o && !(decide (o.iT=1) && GK l o))
def lB (l:List eF) (id:Int):Nat:=if o8 l id=true then il l id+1 else il l id
def iF (l:List eF) (o:e7):List eF:=if lH l o=true then l.take (il l o.eO)++[mj ((jN l o.eO).getD (tj o.eO)) o]++l.drop (lB l o.eO) else l
def pw (l:List eF) (o:e7):Aj:=if lH l o=true then ⟨true,o8 l o.eO,(jN l o.eO).getD Js⟩ else ⟨false,false,Js⟩
theorem Wj (n o):(mj n o).eM=n.eM:=by grind [mj]
theorem Jq {l o n} (h:n∈iF l o):n∈l\/(lH l o=true/\n=mj ((jN l o.eO).getD (tj o.eO)) o/\n.eM=o.eO):=by
 unfold iF at h;split at h
 .rcases aF.1 h with h|h
  .rcases aF.1 h with h|h
   .grind
   .rw [aw] at h;refine .inr ⟨by assumption,h,?_⟩;rw [h,Wj];cases f:jN l o.eO with
    |none=>rfl
    |some m=>exact (tg f).2.1
  grind
 .exact .inl h
theorem Wg (l o):(iF l o).length<=l.length+1:=by
 unfold iF;split
 .have h:=Jr l o.eO;have a:il l o.eO<=lB l o.eO:=by grind [lB]
  grind
 .omega
section
variable {α:Type} (lt:α->α->Bool)
end
abbrev lY:=List (Nat×List UInt8×eF)
def jJ (k:List UInt8):lY->Option eF
 |[]=>none
 |e::m=>if e.2.1=k then some e.2.2 else jJ k m
def x4 (k:List UInt8) (n:eF):lY->Option lY
 |[]=>none
 |e::m=>if e.2.1=k then some ((e.1,e.2.1,n)::m) else match x4 k n m with
  |some l=>some (e::l)
  |none=>none
def EA (k:List UInt8):lY->lY
 |[]=>[]
 |e::m=>if e.2.1=k then m else e::EA k m
def na (n:eF) (dir:Int):Bool:=decide (n.jj=dir) && m9 n.lA
def GO (n:eF) (m:lY):Bool:=match jJ n.iU m with
 |none=>true
 |some old=>!ke n.lA old.lA
def Ao (x:Nat×lY) (n:eF):Nat×lY:=match x4 n.iU n x.2 with
 |some m=>(x.1,m)
 |none=>(x.1+1,x.2++[(x.1,n.iU,n)])
def Al (dir:Int) (x:Nat×lY) (n:eF):Nat×lY:=if na n dir=true then (if GO n x.2=true then Ao x n else x) else x
def nb (l:List eF) (dir:Int):Nat×lY:=l.foldl (Al dir) (0,[])
def iB (l:List eF) (dir:Int) (s:List UInt8):Option eF:=if gU l=true then jJ s (nb l dir).2 else none
def jz (l:List eF):Int->List (List UInt8)->Int×Int
 |at_,[]=>(at_,0)
 |at_,s::r=>if iy at_=true then (match iB l at_ s with
  |some n=>jz l n.eM r
  |none=>(0,80)) else (0,81)
def jR (l:List eF) (names:List (List UInt8)):Int×Int:=jz l 0 names
theorem EB {k n}:∀ {m:lY},jJ k m=some n->∃ b,(b,k,n)∈m
 |e::m,h=>by
  rw [jJ] at h;split at h
  .grind
  .obtain ⟨b,a⟩:=EB h;grind
theorem Wv {k}:∀ {m:lY},jJ k m=none->k∉m.map (·.2.1)
 |[],_=>by simp
 |e::m,h=>by
  rw [jJ] at h;split at h
  .cases h
  .rename_i b;rw [bp,aK];rintro (a|a)
   .exact b a.symm
   .exact Wv h a
theorem Ju {b k n}:∀ {m:lY},(m.map (·.2.1)).Nodup->(b,k,n)∈m->jJ k m=some n
 |e::m,d,h=>by
  rw [bp,b8] at d;rw [jJ];rcases aK.1 h with rfl|h
  .simp
  .split
   .simp_all
   .exact Ju d.2 h
theorem Mu (k n):∀ m:lY,(x4 k n m=none/\jJ k m=none)\/
  ∃ a,x4 k n m=some a/\a.map (·.1)=m.map (·.1)/\a.map (·.2.1)=m.map (·.2.1)/\(∀ b,jJ b a=if b=k then some n else jJ b m)/\(∀ e∈a,e∈m\/e.2=(k,n))
 |[]=> .inl ⟨rfl,rfl⟩
 |e::m=>by
  rw [x4,jJ]
  by_cases h:e.2.1=k
  .grind [jJ]
  .rw [ai h,ai h];rcases Mu k n m with ⟨c,d⟩|⟨a,c,d,f,g,i⟩
   .simp_all
   grind [jJ]
structure BH (x:Nat×lY):Prop where
 GM:∀ e∈x.2,e.1<x.1
 Ak:(x.2.map (·.1)).Nodup
 u5:(x.2.map (·.2.1)).Nodup
 C1:∀ e∈x.2,e.2.2.iU=e.2.1
theorem agx {x} (h:BH x) (n):BH (Ao x n):=by
 unfold Ao;rcases Mu n.iU n x.2 with ⟨c,f⟩|⟨o,c,f,p,_,i⟩
 .rw [c];have q:=Wv f;refine ⟨λe he=>?_,?_,?_,λe he=>?_⟩
  .rcases aF.1 he with he|he
   .have:=h.GM e he;grind
   simp_all
  .show ((x.2++[(x.1,n.iU,n)]).map (·.1)).Nodup;rw [aU,db];refine ⟨h.Ak,by simp,λa j b k=>?_⟩;simp only [bp,cJ,aw] at k;obtain ⟨e,he,rfl⟩:=aE.1 j;have:=h.GM e he;omega
  .show ((x.2++[(x.1,n.iU,n)]).map (·.2.1)).Nodup;grind [h.u5]
  .rcases aF.1 he with he|he
   .exact h.C1 e he
   simp_all
 .rw [c];have m:∀ e∈o,e.1∈x.2.map (·.1):=λe he=>by grind
  refine ⟨λe he=>?_,by grind [h.Ak],by grind [h.u5],λe he=>?_⟩
  .obtain ⟨y,l,g⟩:=aE.1 (m e he);show e.1<x.1;rw [<-g];exact h.GM y l
  .rcases i e he with d|d
   .exact h.C1 e d
   .rw [d]
theorem agw {x n e} (h:e∈(Ao x n).2):e∈x.2\/e.2.2=n:=by
 unfold Ao at h;rcases Mu n.iU n x.2 with ⟨a,_⟩|⟨m,a,_,_,_,b⟩
 .grind
 grind
theorem An (l:List eF) (dir:Int):BH (nb l dir)/\∀ e∈(nb l dir).2,e.2.2∈l/\na e.2.2 dir=true:=by
 have k:∀ (l:List eF) (x:Nat×lY) (L:List eF),(∀ n∈l,n∈L)->BH x->(∀ e∈x.2,e.2.2∈L/\na e.2.2 dir=true)->BH (l.foldl (Al dir) x)/\∀ e∈(l.foldl (Al dir) x).2,e.2.2∈L/\na e.2.2 dir=true:=by
  intro l
  induction l with
  |nil=>simp_all
  |cons n l d=>
   intro x L b f a;rw [bw];refine d _ L (λm c=>b m (aQ _ c)) ?_ ?_
   .grind [Al,agx]
   .unfold Al;split
    .rename_i i;split
     .intro e g;grind [agw]
     .exact a
    .exact a
 exact k l (0,[]) l (λ_ h=>h) ⟨(λe h=>by cases h),cW,cW,(λe h=>by cases h)⟩ (λe h=>by cases h)
theorem wX {l dir s n} (h:iB l dir s=some n):n∈l/\na n dir=true/\n.iU=s:=by
 unfold iB at h;split at h
 .obtain ⟨b,a⟩:=EB h;obtain ⟨d,c⟩:=An l dir;exact ⟨(c _ a).1,(c _ a).2,d.C1 _ a⟩
 .cases h
structure jG where
 fM:List UInt8
 iM:Int
 wW:List UInt8
def um (l:List eF) (dir:Int):List (List UInt8):=if gU l=true then oZ ((nb l dir).2.map (·.2.1)) else []
def lJ (l:List eF) (outs:List Int) (dir:Int):lY:=(nb l dir).2.filter λe=>!outs.contains e.2.2.eM
def rG (path s:List UInt8):List UInt8:=path++[47]++s
def C2 (u:Int->List UInt8->List jG) (path:List UInt8) (s:List UInt8) (n:eF):List jG:=
 ⟨rG path s,n.eM,n.qZ⟩::(if iy n.eM=true then u n.eM (rG path s) else [])
def tl (u:Int->List UInt8->List jG) (m:lY) (path:List UInt8) (s:List UInt8):List jG:=match jJ s m with
 |none=>[]
 |some n=>C2 u path s n
def BI (s:Int->List UInt8->List jG) (m:lY) (path:List UInt8):List jG:=(oZ (m.map (·.2.1))).flatMap (tl s m path)
def mL (l:List eF) (outs:List Int):Nat->Int->List UInt8->List jG
 |0,_,_=>[]
 |f+1,dir,path=>BI (mL l outs f) (lJ l outs dir) path
def C3 (l:List eF) (dir:Int):List Int:=dir::mT l dir
def jo (l:List eF) (dir:Int):List jG:=if gU l=true then mL l (C3 l dir) l.length dir [] else []
theorem agv {m:lY} (n:(m.map (·.2.1)).Nodup) {e:Nat×List UInt8×eF} (h:e∈m) (p:Nat×List UInt8×eF->Bool) (hp:p e=true):
  EA e.2.1 (m.filter p)=m.filter (λx=>p x && !decide (x.2.1=e.2.1)):=by
 induction m with
 |nil=>cases h
 |cons a m i=>
  grind [List.filter_congr,EA]
theorem Ww {l outs dir e} (h:e∈lJ l outs dir):
  e∈(nb l dir).2/\e.2.2∈l/\na e.2.2 dir=true/\e.2.2.iU=e.2.1/\e.2.2.eM∉outs:=by
 obtain ⟨a,b⟩:=bG.1 h;obtain ⟨c,q⟩:=An l dir;exact ⟨a,(q e a).1,(q e a).2,c.C1 e a,by simpa using b⟩
theorem Mt (l outs dir):BH ((nb l dir).1,lJ l outs dir):=by
 have h:=(An l dir).1;have s:(lJ l outs dir).Sublist (nb l dir).2:=dV;exact ⟨λe a=>h.GM e (s.mem a),(s.map _).nodup h.Ak,(s.map _).nodup h.u5,λe a=>h.C1 e (s.mem a)⟩
theorem x3 {l outs dir s n} (h:jJ s (lJ l outs dir)=some n):
  n∈l/\na n dir=true/\n.iU=s/\n.eM∉outs:=by
 obtain ⟨b,a⟩:=EB h;obtain ⟨_,c,d,e,f⟩:=Ww a;trivial
inductive ow (l:List eF) (outs:List Int) (top:Int):List Int->Int->Prop
 |rF:ow l outs top [] top
 |q9 {ids:List Int} {dir:Int} {n:eF} (h:ow l outs top ids dir) (hn:n∈l) (hp:n.jj=dir) (ho:n.eM∉outs):ow l outs top (ids++[n.eM]) n.eM
theorem ow.Wq {l outs top ids dir} (h:ow l outs top ids dir):∀ i∈ids,(∃ n∈l,n.eM=i)/\i∉outs:=by
 induction h with
 |rF=>simp_all
 |q9 h a hp o b=>
  grind
theorem ow.Ms {l} (f:gU l=true) {outs top} (t:top∈outs) {ids i dir} (h:ow l outs top ids dir) (a:ow l outs top i dir):ids=i:=by
 induction h generalizing i with
 |rF=>
  cases a with
  |rF=>rfl
  |q9 _ _ _ o=>exact absurd t o
 |q9 h g hp o w=>
  rename_i s r n;generalize v:n.eM=d at a;cases a with
  |rF=>simp_all
  |q9 u j p k=>
   rename_i c b m;have e:n=m:=by
    have q:=tf f g;grind [tf]
   grind
theorem ow.Ws {l} (q:gU l=true) {outs top} (t:top∈outs) {ids dir} (h:ow l outs top ids dir):ids.Nodup:=by
 have p:∀ {ids dir},ow l outs top ids dir->∀ i∈ids,∃ a,a.length<ids.length/\∃ b,ids=a++i::b/\ow l outs top (a++[i]) i:=by
  intro ids dir h
  induction h with
  |rF=>simp_all
  |q9 h f hp o j=>
   rename_i d r n;intro i c;rcases aF.1 c with c|c
   .grind
   .rw [aw] at c;subst c;exact ⟨d,by simp_all,[],rfl, .q9 h f hp o⟩
 induction h with
 |rF=>trivial
 |q9 h f hp o j=>
  rename_i d r n;rw [db];refine ⟨j,by simp,λa m b g=>?_⟩;rw [aw] at g;subst g;intro e;subst e;obtain ⟨s,u,b,v,k⟩:=p h n.eM m;have:=k.Ms q t (.q9 h f hp o);simp_all
theorem ow.GN {l} (c:gU l=true) {outs top} (t:top∈outs) {ids dir} (h:ow l outs top ids dir):ids.length<=l.length:=by
 have:=xX (l:=ids) (m:=l.map (·.eM)) (h.Ws c t) λi a=>by
  obtain ⟨⟨n,b,rfl⟩,_⟩:=h.Wq i a;grind
 simp_all
theorem Qn {u m path i} (h:i∈BI u m path):
  ∃ s n,s∈m.map (·.2.1)/\jJ s m=some n/\i∈C2 u path s n:=by
 grind [BI,tl,ui]
theorem GP {l outs top}:∀ (f:Nat) {ids:List Int} {dir:Int} {path:List UInt8},ow l outs top ids dir->∀ i∈mL l outs f dir path,∃ x u,ow l outs top (ids++x::u) i.iM/\∃ n∈l,n.eM=i.iM/\i.wW=n.qZ
 |0,_,_,_,_,i,h=>by cases h
 |f+1,ids,dir,path,w,i,h=>by
  rw [mL] at h;obtain ⟨s,n,_,e,a⟩:=Qn h;obtain ⟨b,g,j,c⟩:=x3 e;have p:n.jj=dir:=by
   grind [na]
  have d:=ow.q9 w b p c;rcases aK.1 a with rfl|a
  .grind
  .split at a
   .obtain ⟨x,u,q,k⟩:=GP f d i a;grind
   .cases a
theorem Qm {l} (k:gU l=true) {outs top} (p:top∈outs):∀ (f:Nat) {ids:List Int} {dir:Int} {path:List UInt8},ow l outs top ids dir->(mL l outs f dir path).Pairwise λa b=>a.iM≠b.iM
 |0,_,_,_,_=> .nil
 |f+1,ids,dir,path,H=>by
  rw [mL];unfold BI;have D:=Mt l outs dir;have h:∀ {s n},jJ s (lJ l outs dir)=some n->ow l outs top (ids++[n.eM]) n.eM/\n.iU=s/\n∈l:=fun {s n} c=>by
   obtain ⟨r,N,z,A⟩:=x3 c;have F:n.jj=dir:=by
    grind [na]
   exact ⟨.q9 H r F A,z,r⟩
  have o:∀ {s n},jJ s (lJ l outs dir)=some n->∀ t∈C2 (mL l outs f) path s n,∃ u,ow l outs top (ids++n.eM::u) t.iM:=fun {s n} c t i=>by
   have g:=(h c).1;rcases aK.1 i with rfl|i
   .exact ⟨[],g⟩
   grind [GP]
  rw [List.pairwise_flatMap];refine ⟨λs _=>?_,?_⟩
  .unfold tl;cases c:jJ s (lJ l outs dir) with
   |none=>exact .nil
   |some n=>
    have g:=(h c).1;refine cb.2 ⟨λt i=>?_,?_⟩
    .split at i
     .obtain ⟨x,u,v,_⟩:=GP f g t i;intro e;have e:n.eM=t.iM:=e;rw [<-e] at v;have:=congrArg List.length (v.Ms k p g);simp_all
     .cases i
    .split
     .exact Qm k p f g
     .exact .nil
  .have m:(oZ ((lJ l outs dir).map (·.2.1))).Nodup:=(ui _).nodup_iff.2 D.u5;refine List.Pairwise.imp ?_ m;intro s J E t i q d e;unfold tl at i d;cases c:jJ s (lJ l outs dir) with
   |none=>simp_all
   |some n=>
    cases j:jJ J (lJ l outs dir) with
    |none=>simp_all
    |some I=>
     rw [c] at i;rw [j] at d;obtain ⟨u,K⟩:=o c t i;obtain ⟨w,y⟩:=o j q d;rw [<-e] at y;have:=K.Ms k p y;have:=List.append_cancel_left this;have L:=tf k (h c).2.2;grind [tf]
theorem Wu {l} (h:gU l=true) {outs top} (t:top∈outs) (f) {ids dir path} (w:ow l outs top ids dir):(mL l outs f dir path).length<=l.length:=by
 have n:=Qm h t f (path:=path) w;have:=xX (l:=(mL l outs f dir path).map (·.iM)) (m:=l.map (·.eM)) (dO.2 n) λi a=>by
  grind [GP]
 simp_all
end Gw
