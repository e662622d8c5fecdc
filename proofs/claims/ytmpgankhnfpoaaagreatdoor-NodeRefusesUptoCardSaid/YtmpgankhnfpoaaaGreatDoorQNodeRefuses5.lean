/-
  Our texts, packed by program.
-/
import Derived.Test.YtmpgankhnfpoaaaGreatDoorQNodeRefuses4
set_option linter.unusedSimpArgs false
set_option linter.unusedVariables false
set_option maxHeartbeats 16000000
set_option maxRecDepth 100000
namespace Go.Proofs.YtmpgankhnfpoaaaGreatDoor
open Go.H
open Go.Proofs.Tryz
open Go.H Go.X Go.Proofs Go.Shelf Go.RowKit
abbrev wkC:List Nat:=[120,62,92,180,430,395,327,70,226,266,245,154,91,73,94,75,328,243,74,71,305,194,329,244,107,52,46,437,402,87,301,228,169,144,68,401,336,263,215,177,174,139,85,72,29,227,223,195,149,117,93,65,64,63,49,42,358,196,148,142,90,69,67,66,50,48,449,421,407,379,347,345,285,277,253,25,246,242,224,197,190,179,178,175,150,145,143,119,116,7,61,47,44,43,405,380,363,36,359,357,351,346,342,337,335,334,316,31,302,298,297,295,279,275,274,27,267,265,262,26,255,254,24,238,221,204,203,201,198,192,191,151,138,137,132,127,126,115,108,10,84,83,8,78,77,6,58,57,55,54,53,51,476,45,447,419,416,403,385,364,360,353,352,344,340,339,338,33,32,307,306,304,303,283,282,280,28,276,272,268,261,259,258,257,256,237,236,230,229,22,211,210,209,206,205,202,200,20,199,188,187,165,164,160,159,15,147,141,140,134,131,130,129,125,124,123,122,121,12,118,114,113,112,111,110,11,109]
theorem B4P:∀f,f∈wkC→Q0 prog f:=(M9 Tryz.call120 (M9 Tryz.call62 (M9 Tryz.call92 (M9 Tryz.call180 (M9 Tryz.call430 (M9 Tryz.call395 (M9 Tryz.call327 (M9 call70 (M9 call226 (M9 call266 (M9 Tryz.call245 (M9 call154 (M9 call91 (M9 call73 (M9 Tryz.call94 (M9 Tryz.call75 (M9 Tryz.call328 (M9 Tryz.call243 (M9 call74 (M9 call71 (M9 call305 (M9 Tryz.call194 (M9 Tryz.call329 (M9 Tryz.call244 (M9 call107 (M9 call52 (M9 call46 (M9 call437 (M9 call402 (M9 call87 (M9 call301 (M9 call228 (M9 call169 (M9 call144 (M9 call68 (M9 call401 (M9 call336 (M9 call263 (M9 Tryz.call215 (M9 Tryz.call177 (M9 Tryz.call174 (M9 call139 (M9 call85 (M9 call72 (M9 call29 (M9 call227 (M9 call223 (M9 call195 (M9 call149 (M9 Tryz.call117 (M9 call93 (M9 call65 (M9 call64 (M9 call63 (M9 call49 (M9 Tryz.call42 (M9 call358 (M9 call196 (M9 call148 (M9 call142 (M9 Tryz.call90 (M9 call69 (M9 call67 (M9 call66 (M9 call50 (M9 call48 (M9 call449 (M9 call421 (M9 call407 (M9 call379 (M9 call347 (M9 call345 (M9 call285 (M9 call277 (M9 call253 (M9 Tryz.call25 (M9 Tryz.call246 (M9 Tryz.call242 (M9 call224 (M9 call197 (M9 call190 (M9 call179 (M9 Tryz.call178 (M9 Tryz.call175 (M9 call150 (M9 call145 (M9 call143 (M9 call119 (M9 call116 (M9 Tryz.call7 (M9 call61 (M9 call47 (M9 Tryz.call44 (M9 Tryz.call43 (M9 call405 (M9 call380 (M9 call363 (M9 Tryz.call36 (M9 call359 (M9 call357 (M9 call351 (M9 call346 (M9 call342 (M9 call337 (M9 call335 (M9 call334 (M9 call316 (M9 Tryz.call31 (M9 call302 (M9 call298 (M9 call297 (M9 call295 (M9 call279 (M9 call275 (M9 call274 (M9 Tryz.call27 (M9 call267 (M9 call265 (M9 call262 (M9 Tryz.call26 (M9 call255 (M9 call254 (M9 Tryz.call24 (M9 call238 (M9 call221 (M9 call204 (M9 call203 (M9 call201 (M9 call198 (M9 call192 (M9 call191 (M9 call151 (M9 call138 (M9 call137 (M9 call132 (M9 call127 (M9 call126 (M9 call115 (M9 call108 (M9 Tryz.call10 (M9 call84 (M9 call83 (M9 Tryz.call8 (M9 call78 (M9 call77 (M9 Tryz.call6 (M9 call58 (M9 call57 (M9 call55 (M9 call54 (M9 call53 (M9 call51 (M9 call476 (M9 Tryz.call45 (M9 call447 (M9 call419 (M9 call416 (M9 call403 (M9 call385 (M9 call364 (M9 call360 (M9 call353 (M9 call352 (M9 call344 (M9 call340 (M9 call339 (M9 call338 (M9 Tryz.call33 (M9 Tryz.call32 (M9 call307 (M9 call306 (M9 call304 (M9 call303 (M9 call283 (M9 call282 (M9 call280 (M9 call28 (M9 call276 (M9 call272 (M9 call268 (M9 call261 (M9 call259 (M9 call258 (M9 call257 (M9 call256 (M9 call237 (M9 call236 (M9 call230 (M9 call229 (M9 Tryz.call22 (M9 call211 (M9 call210 (M9 call209 (M9 call206 (M9 call205 (M9 call202 (M9 call200 (M9 Tryz.call20 (M9 call199 (M9 call188 (M9 call187 (M9 call165 (M9 call164 (M9 call160 (M9 call159 (M9 Tryz.call15 (M9 call147 (M9 call141 (M9 call140 (M9 call134 (M9 call131 (M9 call130 (M9 call129 (M9 call125 (M9 call124 (M9 call123 (M9 call122 (M9 call121 (M9 Tryz.call12 (M9 call118 (M9 call114 (M9 call113 (M9 call112 (M9 call111 (M9 call110 (M9 Tryz.call11 (M9 call109 C2Q)))))))))))))))))))))))))))))))))))))))))))))))))))))))))))))))))))))))))))))))))))))))))))))))))))))))))))))))))))))))))))))))))))))))))))))))))))))))))))))))))))))))))))))))))))))))))))))))))))))))))))))))))))))))))))))))))))
theorem C2N(a b c d:Int):A3H prog 8 133 (.agg #[.int .i64 a,.int .i64 b]) (.agg #[.int .i64 c,.int .i64 d])=some ((a==c)&&((b==d)&&true)):=by kernel_rfl
theorem C1N(a:Int)(b:B1q)(c:Int)(d:B1q):A3H prog 8 515 (.agg #[.int .i64 a,.string b]) (.agg #[.int .i64 c,.string d])=some ((a==c)&&(decide (b=d)&&true)):=by kernel_rfl
def wkT:TypeId→Nat:=fun t=>match Nat.beq t 133 with
 |true=>1
 |false=>match Nat.beq t 515 with
  |true=>2
  |false=>0
theorem B4M:A1Y prog wkT:=by
 refine⟨fun kt h=>?_,fun kt h=>?_⟩
 ·unfold wkT at h
  split at h
  ·rename_i hb
   rw[B0 hb]
   exact⟨⟨_,underlying133⟩,C1k C2N⟩
  ·split at h<;>cases h
 ·unfold wkT at h
  split at h
  ·cases h
  ·split at h
   ·rename_i hb
    rw[B0 hb]
    exact⟨⟨_,underlying515⟩,C1j C1N⟩
   ·cases h
abbrev wkI:List Nat:=[193,365,414]
theorem C0U:∀g,X2 g wkI=true→B4k g:=fun g hg=>by
 have:=q5 hg
 simp only[wkI,B9,K3,or_false] at this
 rcases this with rfl|rfl|rfl
 ·exact⟨B1a,C2z,rfl,enters_of func193 (by kernel_rfl) rfl⟩
 ·exact⟨B1b,C2A,rfl,enters_of func365 (by kernel_rfl) rfl⟩
 ·exact⟨B09,C2y,rfl,enters_of func414 (by kernel_rfl) rfl⟩
abbrev wkS:List Nat:=[383]
theorem B9J:∀g,X2 g wkS=true→B1s g:=fun g hg=>by
 have:=q5 hg
 rw[B4.1 this]
 exact⟨A9h,C1h,rfl,enters_of func383 (by kernel_rfl) rfl⟩
noncomputable def B1K:B9h:=fun f=>match f with
 |180=>some B2l
 |75=>some A9k
 |85=>some (A9l wkI)
 |297=>some (A6h wkS)
 |236=>some B2j
 |328=>some B2k
 |245=>some A4o
 |329=>some B2h
 |335=>some B5k
 |_=>none
theorem B0r:B6m prog B1K:=by
 intro f g hg args n s v n' s' h ae bK β L Q hq
 unfold B1K at hg
 split at hg
 ·cases hg;exact B5m h ae bK β L Q hq
 ·cases hg;exact B3M h ae bK β L Q hq
 ·cases hg;exact B3N C0U h ae bK β L Q hq
 ·cases hg;exact B2i B9J h ae bK β L Q hq
 ·cases hg;exact B5j h ae bK β L Q hq
 ·cases hg;exact B5l h ae bK β L Q hq
 ·cases hg;exact A96 h ae bK β L Q hq
 ·cases hg;exact B5i h ae bK β L Q hq
 ·cases hg;exact B65 h ae bK β L Q hq
 ·cases hg
noncomputable def A8B:B84:=⟨B1K,fun f=>Nat.beq f 203,fun f=>Nat.beq f 264⟩
theorem B4N:B4l prog A8B.idle:=by
 intro g hg
 have hg:=B0 hg
 subst hg
 refine⟨call264,fun caps w hc=>?_⟩
 obtain⟨l⟩:=caps
 match l,hc with
 |[p,q],_=>exact(B69 p q w).mono fun e u' w' ⟨h1,h2,h3⟩=>⟨⟨_,h1⟩,h2,h3⟩
def wkG:List Nat:=[1]
def B2f(r:Option XR):Bool:=
 match r with
 |some (.bool b,_,s)=>match Go.X.look 0 s with
  |some (.base _)=>b
  |_=>false
 |_=>false
theorem B5h{r:Option XR}(h:B2f r=true):∃n s gs,r=some (.bool true,n,s)∧Go.X.look 0 s=some (.base gs):=by
 unfold B2f at h
 split at h
 ·split at h
  ·rename_i hl
   subst h
   exact⟨_,_,_,rfl,hl⟩
  ·cases h
 ·cases h
noncomputable def C2a:Nat→List XV→Nat→XSt→Option XR:=A8u prog wkT wkC A8B 1000 1000
theorem B5S:y9 prog C2a:=A04 B4M B5a B4P (G:=A8B) B0r B4N (lf:=1000) 1000
abbrev n0(l r:Tri XF):Tri XF:=.nd none l r
abbrev n1(f:XF)(l r:Tri XF):Tri XF:=.nd (some f) l r
open Go.H Go.X Go.Proofs Go.Shelf Go.RowKit
noncomputable def wkP(f:Nat)(a:List XV):Option XR:=C2a f a 0 .lf
theorem C06:A0d (wkP 64 ([.str ⟨#[65,81,85,69,68,85,67,84,0,0,0,1,0,0,0,1]⟩])) (.aQ [.str ⟨#[0,0,0,16,84,244,65,81,85,69,68,85,67,84,0,0,0,1,0,0,0,1]⟩,.int .u8 0])=true:=by kernel_rfl
theorem C05:A0d (wkP 64 ([.str ⟨#[115]⟩])) (.aQ [.str ⟨#[0,0,0,1,175,4,115]⟩,.int .u8 0])=true:=by kernel_rfl
theorem C04:A0d (wkP 64 ([.str ⟨#[114,5,0,0,0,0,0,0,0,0,0]⟩])) (.aQ [.str ⟨#[0,0,0,11,13,94,114,5,0,0,0,0,0,0,0,0,0]⟩,.int .u8 0])=true:=by kernel_rfl
theorem C03:A0d (wkP 64 ([.str ⟨#[114,0,0,0,0,0,0,0,0,0,1,16,14,0,4,77,81,84,84,5,0,0,0,0,0,1,99,48,4,0,1,97,0]⟩])) (.aQ [.str ⟨#[0,0,0,33,18,194,114,0,0,0,0,0,0,0,0,0,1,16,14,0,4,77,81,84,84,5,0,0,0,0,0,1,99,48,4,0,1,97,0]⟩,.int .u8 0])=true:=by kernel_rfl
def C2o:List (List XV×XV):=[([.str ⟨#[65,81,85,69,68,85,67,84,0,0,0,1,0,0,0,1]⟩],.aQ [.str ⟨#[0,0,0,16,84,244,65,81,85,69,68,85,67,84,0,0,0,1,0,0,0,1]⟩,.int .u8 0]),([.str ⟨#[115]⟩],.aQ [.str ⟨#[0,0,0,1,175,4,115]⟩,.int .u8 0]),([.str ⟨#[114,5,0,0,0,0,0,0,0,0,0]⟩],.aQ [.str ⟨#[0,0,0,11,13,94,114,5,0,0,0,0,0,0,0,0,0]⟩,.int .u8 0]),([.str ⟨#[114,0,0,0,0,0,0,0,0,0,1,16,14,0,4,77,81,84,84,5,0,0,0,0,0,1,99,48,4,0,1,97,0]⟩],.aQ [.str ⟨#[0,0,0,33,18,194,114,0,0,0,0,0,0,0,0,0,1,16,14,0,4,77,81,84,84,5,0,0,0,0,0,1,99,48,4,0,1,97,0]⟩,.int .u8 0])]
theorem B9Y:∀p,p∈C2o→A0d (wkP 64 p.1) p.2=true:=(A60 (c:=wkP 64) (q:=([.str ⟨#[65,81,85,69,68,85,67,84,0,0,0,1,0,0,0,1]⟩],.aQ [.str ⟨#[0,0,0,16,84,244,65,81,85,69,68,85,67,84,0,0,0,1,0,0,0,1]⟩,.int .u8 0])) C06 (A60 (c:=wkP 64) (q:=([.str ⟨#[115]⟩],.aQ [.str ⟨#[0,0,0,1,175,4,115]⟩,.int .u8 0])) C05 (A60 (c:=wkP 64) (q:=([.str ⟨#[114,5,0,0,0,0,0,0,0,0,0]⟩],.aQ [.str ⟨#[0,0,0,11,13,94,114,5,0,0,0,0,0,0,0,0,0]⟩,.int .u8 0])) C04 (A60 (c:=wkP 64) (q:=([.str ⟨#[114,0,0,0,0,0,0,0,0,0,1,16,14,0,4,77,81,84,84,5,0,0,0,0,0,1,99,48,4,0,1,97,0]⟩],.aQ [.str ⟨#[0,0,0,33,18,194,114,0,0,0,0,0,0,0,0,0,1,16,14,0,4,77,81,84,84,5,0,0,0,0,0,1,99,48,4,0,1,97,0]⟩,.int .u8 0])) C03 C2q))))
theorem C1a:A0d (wkP 29 ([.agg [.int .i64 3,.bool false,.bool false,.int .i64 1,.int .i64 1,.str ⟨#[36,97,100,118,101,114,116]⟩,.str ⟨#[0,0,0,0,0,0,0,0,1,0,1,1,0,2,0,1,35,0,0,0,0]⟩,.int .u8 0,.nslc,.nslc,.str ⟨#[]⟩,.bool false,.int .i64 0,.bool false,.str ⟨#[]⟩,.str ⟨#[]⟩,.int .i64 0,.bool false,.nslc,.bool false,.bool false,.str ⟨#[]⟩,.str ⟨#[]⟩,.bool false,.nslc,.nslc]])) (.aQ [.str ⟨#[50,33,0,7,36,97,100,118,101,114,116,0,1,0,0,0,0,0,0,0,0,0,1,0,1,1,0,2,0,1,35,0,0,0,0]⟩,.int .u8 0])=true:=by kernel_rfl
theorem C09:A0d (wkP 29 ([.agg [.int .i64 1,.bool false,.bool false,.int .i64 0,.int .i64 0,.str ⟨#[]⟩,.str ⟨#[]⟩,.int .u8 0,.nslc,.nslc,.str ⟨#[99]⟩,.bool false,.int .i64 0,.bool false,.str ⟨#[]⟩,.str ⟨#[]⟩,.int .i64 0,.bool false,.nslc,.bool false,.bool false,.str ⟨#[]⟩,.str ⟨#[]⟩,.bool false,.nslc,.nslc]])) (.aQ [.str ⟨#[16,14,0,4,77,81,84,84,5,0,0,0,0,0,1,99]⟩,.int .u8 0])=true:=by kernel_rfl
theorem C08:A0d (wkP 29 ([.agg [.int .i64 3,.bool false,.bool false,.int .i64 0,.int .i64 0,.str ⟨#[97]⟩,.str ⟨#[]⟩,.int .u8 0,.nslc,.nslc,.str ⟨#[]⟩,.bool false,.int .i64 0,.bool false,.str ⟨#[]⟩,.str ⟨#[]⟩,.int .i64 0,.bool false,.nslc,.bool false,.bool false,.str ⟨#[]⟩,.str ⟨#[]⟩,.bool false,.nslc,.nslc]])) (.aQ [.str ⟨#[48,4,0,1,97,0]⟩,.int .u8 0])=true:=by kernel_rfl
theorem C07:A0d (wkP 29 ([.agg [.int .i64 2,.bool false,.bool false,.int .i64 0,.int .i64 0,.str ⟨#[]⟩,.str ⟨#[]⟩,.int .u8 0,.nslc,.nslc,.str ⟨#[]⟩,.bool false,.int .i64 0,.bool false,.str ⟨#[]⟩,.str ⟨#[]⟩,.int .i64 0,.bool false,.nslc,.bool false,.bool false,.str ⟨#[]⟩,.str ⟨#[]⟩,.bool false,.nslc,.nslc]])) (.aQ [.str ⟨#[32,3,0,0,0]⟩,.int .u8 0])=true:=by kernel_rfl
def C2p:List (List XV×XV):=[([.agg [.int .i64 3,.bool false,.bool false,.int .i64 1,.int .i64 1,.str ⟨#[36,97,100,118,101,114,116]⟩,.str ⟨#[0,0,0,0,0,0,0,0,1,0,1,1,0,2,0,1,35,0,0,0,0]⟩,.int .u8 0,.nslc,.nslc,.str ⟨#[]⟩,.bool false,.int .i64 0,.bool false,.str ⟨#[]⟩,.str ⟨#[]⟩,.int .i64 0,.bool false,.nslc,.bool false,.bool false,.str ⟨#[]⟩,.str ⟨#[]⟩,.bool false,.nslc,.nslc]],.aQ [.str ⟨#[50,33,0,7,36,97,100,118,101,114,116,0,1,0,0,0,0,0,0,0,0,0,1,0,1,1,0,2,0,1,35,0,0,0,0]⟩,.int .u8 0]),([.agg [.int .i64 1,.bool false,.bool false,.int .i64 0,.int .i64 0,.str ⟨#[]⟩,.str ⟨#[]⟩,.int .u8 0,.nslc,.nslc,.str ⟨#[99]⟩,.bool false,.int .i64 0,.bool false,.str ⟨#[]⟩,.str ⟨#[]⟩,.int .i64 0,.bool false,.nslc,.bool false,.bool false,.str ⟨#[]⟩,.str ⟨#[]⟩,.bool false,.nslc,.nslc]],.aQ [.str ⟨#[16,14,0,4,77,81,84,84,5,0,0,0,0,0,1,99]⟩,.int .u8 0]),([.agg [.int .i64 3,.bool false,.bool false,.int .i64 0,.int .i64 0,.str ⟨#[97]⟩,.str ⟨#[]⟩,.int .u8 0,.nslc,.nslc,.str ⟨#[]⟩,.bool false,.int .i64 0,.bool false,.str ⟨#[]⟩,.str ⟨#[]⟩,.int .i64 0,.bool false,.nslc,.bool false,.bool false,.str ⟨#[]⟩,.str ⟨#[]⟩,.bool false,.nslc,.nslc]],.aQ [.str ⟨#[48,4,0,1,97,0]⟩,.int .u8 0]),([.agg [.int .i64 2,.bool false,.bool false,.int .i64 0,.int .i64 0,.str ⟨#[]⟩,.str ⟨#[]⟩,.int .u8 0,.nslc,.nslc,.str ⟨#[]⟩,.bool false,.int .i64 0,.bool false,.str ⟨#[]⟩,.str ⟨#[]⟩,.int .i64 0,.bool false,.nslc,.bool false,.bool false,.str ⟨#[]⟩,.str ⟨#[]⟩,.bool false,.nslc,.nslc]],.aQ [.str ⟨#[32,3,0,0,0]⟩,.int .u8 0])]
theorem B9Z:∀p,p∈C2p→A0d (wkP 29 p.1) p.2=true:=(A60 (c:=wkP 29) (q:=([.agg [.int .i64 3,.bool false,.bool false,.int .i64 1,.int .i64 1,.str ⟨#[36,97,100,118,101,114,116]⟩,.str ⟨#[0,0,0,0,0,0,0,0,1,0,1,1,0,2,0,1,35,0,0,0,0]⟩,.int .u8 0,.nslc,.nslc,.str ⟨#[]⟩,.bool false,.int .i64 0,.bool false,.str ⟨#[]⟩,.str ⟨#[]⟩,.int .i64 0,.bool false,.nslc,.bool false,.bool false,.str ⟨#[]⟩,.str ⟨#[]⟩,.bool false,.nslc,.nslc]],.aQ [.str ⟨#[50,33,0,7,36,97,100,118,101,114,116,0,1,0,0,0,0,0,0,0,0,0,1,0,1,1,0,2,0,1,35,0,0,0,0]⟩,.int .u8 0])) C1a (A60 (c:=wkP 29) (q:=([.agg [.int .i64 1,.bool false,.bool false,.int .i64 0,.int .i64 0,.str ⟨#[]⟩,.str ⟨#[]⟩,.int .u8 0,.nslc,.nslc,.str ⟨#[99]⟩,.bool false,.int .i64 0,.bool false,.str ⟨#[]⟩,.str ⟨#[]⟩,.int .i64 0,.bool false,.nslc,.bool false,.bool false,.str ⟨#[]⟩,.str ⟨#[]⟩,.bool false,.nslc,.nslc]],.aQ [.str ⟨#[16,14,0,4,77,81,84,84,5,0,0,0,0,0,1,99]⟩,.int .u8 0])) C09 (A60 (c:=wkP 29) (q:=([.agg [.int .i64 3,.bool false,.bool false,.int .i64 0,.int .i64 0,.str ⟨#[97]⟩,.str ⟨#[]⟩,.int .u8 0,.nslc,.nslc,.str ⟨#[]⟩,.bool false,.int .i64 0,.bool false,.str ⟨#[]⟩,.str ⟨#[]⟩,.int .i64 0,.bool false,.nslc,.bool false,.bool false,.str ⟨#[]⟩,.str ⟨#[]⟩,.bool false,.nslc,.nslc]],.aQ [.str ⟨#[48,4,0,1,97,0]⟩,.int .u8 0])) C08 (A60 (c:=wkP 29) (q:=([.agg [.int .i64 2,.bool false,.bool false,.int .i64 0,.int .i64 0,.str ⟨#[]⟩,.str ⟨#[]⟩,.int .u8 0,.nslc,.nslc,.str ⟨#[]⟩,.bool false,.int .i64 0,.bool false,.str ⟨#[]⟩,.str ⟨#[]⟩,.int .i64 0,.bool false,.nslc,.bool false,.bool false,.str ⟨#[]⟩,.str ⟨#[]⟩,.bool false,.nslc,.nslc]],.aQ [.str ⟨#[32,3,0,0,0]⟩,.int .u8 0])) C07 C2q))))
noncomputable def A7W:B9h:=fun f=>match f with
 |64=>some (A9m C2o)
 |29=>some (A9m C2p)
 |_=>B1K f
theorem A8A:B6m prog A7W:=by
 intro f g hg args n s v n' s' h ae bK β L Q hq
 unfold A7W at hg
 split at hg
 ·cases hg;exact A6i B5S B9Y h ae β L Q hq
 ·cases hg;exact A6i B5S B9Z h ae β L Q hq
 ·exact B0r f g hg args n s v n' s' h ae bK β L Q hq
noncomputable def B7V:B84:=⟨A7W,A8B.dI,A8B.idle⟩
noncomputable def B9K:Nat→List XV→Nat→XSt→Option XR:=A8u prog wkT wkC B7V 1000 1000
theorem B1L:y9 prog B9K:=A04 B4M B5a B4P (G:=B7V) A8A B4N (lf:=1000) 1000
end Go.Proofs.YtmpgankhnfpoaaaGreatDoor