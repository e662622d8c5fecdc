/-
  Our texts, packed by program.
-/
import Derived.Test.YtmpgankhnfpoaaaGreatDoorQNodeRefuses2
set_option linter.unusedSimpArgs false
set_option linter.unusedVariables false
set_option maxHeartbeats 16000000
set_option maxRecDepth 100000
namespace Go.Proofs.YtmpgankhnfpoaaaGreatDoor
open Go.H
open Go.Proofs.Tryz
section
open Go.H Go.Proofs
abbrev Pk:Type:=Int×Bool×Bool×Int×Int×B1q×B1q×Int×Slc×Slc×B1q×Bool×Int×Bool×B1q×B1q×Int×Bool×Slc×Bool×Bool×B1q×B1q×Bool×Slc×Slc×Unit
abbrev X3:=Int×Int×B1q×B1q
abbrev A5I:=B1q×Int×Bool×Bool×Int
abbrev e0S:B1q:=ByteArray.mk #[]
abbrev Q5:Slc:=⟨none,0,0⟩
abbrev Q6(x:X3):C3E:=[.int .i64 x.1,.int .i64 x.2.1,.string x.2.2.1,.string x.2.2.2]
theorem A78(x:X3):(Q6 x).length=4:=rfl
theorem B8L(x:X3):∀v∈Q6 x,v.oneCell'=true:=by
 intro v hv;simp at hv;rcases hv with rfl|rfl|rfl|rfl<;>rfl
abbrev eKd(k:IntKind)(n:Int):C3E:=[.int k n]
theorem B6f(k:IntKind)(n:Int):(eKd k n).length=1:=rfl
theorem B8M(k:IntKind)(n:Int):∀v∈eKd k n,v.oneCell'=true:=by intro v hv;rw[B4.1 hv];rfl
abbrev A2H(k:IntKind)(p:Pk):C3E:=[.int .i64 p.1,.bool p.2.1,.bool p.2.2.1,.int .i64 p.2.2.2.1,.int .i64 p.2.2.2.2.1,.string p.2.2.2.2.2.1,.string p.2.2.2.2.2.2.1,.int k p.2.2.2.2.2.2.2.1,.slice p.2.2.2.2.2.2.2.2.1.a p.2.2.2.2.2.2.2.2.1.len p.2.2.2.2.2.2.2.2.1.cap,.slice p.2.2.2.2.2.2.2.2.2.1.a p.2.2.2.2.2.2.2.2.2.1.len p.2.2.2.2.2.2.2.2.2.1.cap,.string p.2.2.2.2.2.2.2.2.2.2.1,.bool p.2.2.2.2.2.2.2.2.2.2.2.1,.int .i64 p.2.2.2.2.2.2.2.2.2.2.2.2.1,.bool p.2.2.2.2.2.2.2.2.2.2.2.2.2.1,.string p.2.2.2.2.2.2.2.2.2.2.2.2.2.2.1,.string p.2.2.2.2.2.2.2.2.2.2.2.2.2.2.2.1,.int .i64 p.2.2.2.2.2.2.2.2.2.2.2.2.2.2.2.2.1,.bool p.2.2.2.2.2.2.2.2.2.2.2.2.2.2.2.2.2.1,.slice p.2.2.2.2.2.2.2.2.2.2.2.2.2.2.2.2.2.2.1.a p.2.2.2.2.2.2.2.2.2.2.2.2.2.2.2.2.2.2.1.len p.2.2.2.2.2.2.2.2.2.2.2.2.2.2.2.2.2.2.1.cap,.bool p.2.2.2.2.2.2.2.2.2.2.2.2.2.2.2.2.2.2.2.1,.bool p.2.2.2.2.2.2.2.2.2.2.2.2.2.2.2.2.2.2.2.2.1,.string p.2.2.2.2.2.2.2.2.2.2.2.2.2.2.2.2.2.2.2.2.2.1,.string p.2.2.2.2.2.2.2.2.2.2.2.2.2.2.2.2.2.2.2.2.2.2.1,.bool p.2.2.2.2.2.2.2.2.2.2.2.2.2.2.2.2.2.2.2.2.2.2.2.1,.slice p.2.2.2.2.2.2.2.2.2.2.2.2.2.2.2.2.2.2.2.2.2.2.2.2.1.a p.2.2.2.2.2.2.2.2.2.2.2.2.2.2.2.2.2.2.2.2.2.2.2.2.1.len p.2.2.2.2.2.2.2.2.2.2.2.2.2.2.2.2.2.2.2.2.2.2.2.2.1.cap,.slice p.2.2.2.2.2.2.2.2.2.2.2.2.2.2.2.2.2.2.2.2.2.2.2.2.2.1.a p.2.2.2.2.2.2.2.2.2.2.2.2.2.2.2.2.2.2.2.2.2.2.2.2.2.1.len p.2.2.2.2.2.2.2.2.2.2.2.2.2.2.2.2.2.2.2.2.2.2.2.2.2.1.cap]
abbrev B1M(k:IntKind)(p:Pk):Value:=.agg (A2H k p).toArray
theorem B3Y(k:IntKind)(p:Pk):(A2H k p).length=26:=rfl
theorem B1h(k:IntKind)(p:Pk):∀v∈A2H k p,v.oneCell'=true:=by
 intro v hv
 have:(A2H k p).all (fun v=>v.oneCell')=true:=rfl
 exact G6.1 this v hv
abbrev Y2(s:A5I):C3E:=[.string s.1,.int .i64 s.2.1,.bool s.2.2.1,.bool s.2.2.2.1,.int .i64 s.2.2.2.2]
instance:Enc Y2 5:=⟨fun _=>rfl,fun x v hv=>by
 have:(Y2 x).all (fun v=>v.oneCell')=true:=rfl
 exact G6.1 this v hv,by decide⟩
abbrev sbU(s:A5I):B1q×Int×Bool×Bool×Int×Unit:=(s.1,s.2.1,s.2.2.1,s.2.2.2.1,s.2.2.2.2,())
instance(k:IntKind):Enc (A2H k) 26:=⟨B3Y k,B1h k,by decide⟩
instance(k:IntKind):Enc (eKd k) 1:=⟨B6f k,B8M k,by decide⟩
instance:Enc Q6 4:=⟨A78,B8L,by decide⟩
abbrev y5(x:B1q):C3E:=[.string x]
instance:Enc y5 1:=⟨fun _=>rfl,fun x v hv=>by rw[B4.1 hv];rfl,by decide⟩
abbrev prU(u:X3):Int×Int×B1q×B1q×Unit:=(u.1,u.2.1,u.2.2.1,u.2.2.2,())
variable {h h0:Heap} {L L' L1 L2 L3 L4 L5 R:List Asn} {Q:Value→Heap→Prop}
theorem C2W{β:Type}{b o:Nat}{cs cs':C3D}{vs:C3E}{f:Unit→HM β}{Q':β→Heap→Prop}(hw:W (cells b cs'::L') (f ()) Q')(hx:Has L (cells b cs) L':=by repeat first|with_reducible exact Q9|apply Q8)(hc:cs.toList.take o++vs++cs.toList.drop (o+vs.length)=cs'.toList:=by rfl)(hl:(o+vs.length).ble cs.size=true:=by rfl)(hv:vs.all (fun v=>v.oneCell')=true:=by rfl):
  W L (HM.bind (A0f (Addr.add ⟨b,0,none⟩ o) vs) f) Q':=fun h hs=>by
 have aa:=hx.s hs
 have jI:o+vs.length≤cs.size:=B1 hl
 rw[O0]
 refine⟨A0l (o:=o) aa jI (G6.1 hv),?_⟩
 obtain⟨c2,e1,e2,h2⟩:=sat.setCells vs cs o 0 aa (by omega)
 simp only[J8] at e2
 have e3:c2=cs':=D3.1 (e2.trans hc)
 subst e3
 exact hw _ h2
theorem C0k{γ β:Type}{enc:γ→C3E}{size:Nat}{s s2:Slc}{xs:List γ}{f:Slc→HM β}{Q':β→Heap→Prop}(hr:P6 enc size h0 s xs)(hw:∀s',P6 enc size h0 s' (xs.take 80)→W L (f s') Q')(hs:s2=s:=by rfl):
  W L (HM.bind (HM.slice s none (some (if 80<(((s2.len:Nat):Int):Int) then 80 else((s2.len:Nat):Int))) none size) f) Q':=by
 subst hs
 have hl:=hr.1
 by_cases fS:80<xs.length
 ·rw[if_pos (by omega)]
  exact B6l (n:=80) hr (by omega) hw
 ·rw[if_neg (by omega)]
  have e:xs.take 80=xs.take xs.length:=by rw[D7 (by omega),K4]
  refine B6l (n:=xs.length) hr (B5 _) (fun s' bf=>hw s' (by rw[e];exact bf)) (by rw[hl])
theorem B5Y{S:Slc}{pl:List X3}(hr:P6 Q6 4 h0 S pl)(hq:∀S1 S2:Slc,At (N4 Q6 4 S1 (pl.take 80)::N4 Q6 4 S2 (pl.take 80)::old h0::L1) (Q (.tuple #[.slice S1.a S1.len S1.cap,.slice S2.a S2.len S2.cap])))
  (hx:Has L (old h0) L1:=by repeat first|with_reducible exact Q9|apply Q8):FW prog 37 #[.slice S.a S.len S.cap] L Q:=by
 refine fun h hs=>A5b S h Q ((?_:W (old h0::L1) _ _) h (hx.s hs))
 clear hs h hx
 delta A65 az bn g5 ie ix nw pu rq sn wi
 refine C0k hr (fun s' bf=>?_)
 have fS:(pl.take 80).length≤80:=I5 _ _
 generalize pl.take 80=xs at bf hq fS
 refine B0h Q6 4 (xs.take 0) ?_
 refine B0h Q6 4 (xs.take 0) ?_
 refine W.loop (γ:=Nat) (fun g s=>s.2.2.1=(g:Int)∧g≤xs.length) (fun g s=>N4 Q6 4 s.1 (xs.take g)::N4 Q6 4 s.2.1 (xs.take g)::old h0::L1) (fun g=>xs.length-g) 0 ⟨rfl,E9 _⟩ Sub.rfl ?_
 rintro i s ⟨hi,dT⟩ K k1 k2
 by_cases af:i<xs.length
 ·refine o4 (by rw[hi,bf.1];exact decide_eq_true (by omega)) ?_
  have bH:xs[i]? =some xs[i]:=B2 af
  have cO:xs.take (i+1)=xs.take i++[xs[i]]:=E4 af
  generalize xs[i]=u at bH cO
  have hb:((xs.take i).length+1)*48≤140737488355328:=by rw[E2];omega
  have hn:∀S1 S2:Slc,At (N4 Q6 4 S1 (xs.take i++[u])::N4 Q6 4 S2 (xs.take i++[u])::old h0::L1) (K (.inl (S1,S2,IntKind.wrap .i64 (s.2.2.1+1),()))):=fun S1 S2=>by
   have:=k1 (i+1) (S1,S2,IntKind.wrap .i64 (s.2.2.1+1),()) (by omega) ⟨by simp only[hi];rw[O8 (by omega) (by omega)];rfl,af⟩
   simp only at this
   rw[cO] at this
   exact this
  refine A3b bf af (fun a ha=>?_) (he:=hi)
  refine B7x (v:=prU u) bf ha bH ?_
  refine P2 fun x6=>?_
  refine P4 ?_
  refine O1 (v:=prU u) ?_
  refine O1 (v:=prU u) ?_
  repeat' (first|refine P2 fun _=>?_|refine O1 (v:=prU u) ?_|refine W6 ?_ rfl|with_reducible refine A6z ?_ ?_|refine B2H (enc:=Q6) u (fun _=>?_) hb)
  all_goals exact N0 (hn _ _).sub
 ·refine A2l (by rw[hi,bf.1];exact decide_eq_false (by omega)) (N0 (k2 _ _ ?_))
  have fD:i=xs.length:=by omega
  subst fD
  rw[K4]
  exact N0 (hq _ _).sub
structure C2Y(h0:Heap)(p:Pk)(pl wl:List X3)(cl:List Int)(sl:List A5I)(fl:List B1q):Prop where
 props:P6 Q6 4 h0 (p.2.2.2.2.2.2.2.2.2.1) pl
 dH:P6 Q6 4 h0 (p.2.2.2.2.2.2.2.2.2.2.2.2.2.2.2.2.2.2.1) wl
 codes:P6 (eKd .u8) 1 h0 (p.2.2.2.2.2.2.2.2.1) cl
 subs:P6 Y2 5 h0 (p.2.2.2.2.2.2.2.2.2.2.2.2.2.2.2.2.2.2.2.2.2.2.2.2.1) sl
 fils:P6 y5 1 h0 (p.2.2.2.2.2.2.2.2.2.2.2.2.2.2.2.2.2.2.2.2.2.2.2.2.2.1) fl
abbrev pkR(p:Pk)(c:Int)(s8 s9 au ar aq:Slc):Pk:=(p.1,p.2.1,p.2.2.1,p.2.2.2.1,p.2.2.2.2.1,p.2.2.2.2.2.1,p.2.2.2.2.2.2.1,c,s8,s9,p.2.2.2.2.2.2.2.2.2.2.1,p.2.2.2.2.2.2.2.2.2.2.2.1,p.2.2.2.2.2.2.2.2.2.2.2.2.1,p.2.2.2.2.2.2.2.2.2.2.2.2.2.1,p.2.2.2.2.2.2.2.2.2.2.2.2.2.2.1,p.2.2.2.2.2.2.2.2.2.2.2.2.2.2.2.1,p.2.2.2.2.2.2.2.2.2.2.2.2.2.2.2.2.1,p.2.2.2.2.2.2.2.2.2.2.2.2.2.2.2.2.2.1,au,p.2.2.2.2.2.2.2.2.2.2.2.2.2.2.2.2.2.2.2.1,p.2.2.2.2.2.2.2.2.2.2.2.2.2.2.2.2.2.2.2.2.1,p.2.2.2.2.2.2.2.2.2.2.2.2.2.2.2.2.2.2.2.2.2.1,p.2.2.2.2.2.2.2.2.2.2.2.2.2.2.2.2.2.2.2.2.2.2.1,p.2.2.2.2.2.2.2.2.2.2.2.2.2.2.2.2.2.2.2.2.2.2.2.1,ar,aq,())
theorem B6V{p:Pk}{pl wl:List X3}{cl:List Int}{sl:List A5I}{fl:List B1q}{cc:Int}(hr:C2Y h0 p pl wl cl sl fl)(dg:cc=IntKind.wrap .i64 (p.2.2.2.2.2.2.2.1))
  (hq:∀c1 c2 p1 p2 w1 w2 s1 s2 f1 f2:Slc,∀eB:List Int,eB.length≤80→At (N4 Q6 4 p2 (pl.take 80)::N4 Q6 4 w2 (wl.take 80)::N4 (eKd .i64) 1 c2 eB::N4 Y2 5 s2 (sl.take 80)::N4 y5 1 f2 (fl.take 80)::old h0::L1) (Q (.tuple #[B1M .u8 (pkR p (p.2.2.2.2.2.2.2.1) c1 p1 w1 s1 f1),B1M .i64 (pkR p cc c2 p2 w2 s2 f2)])))
  (hx:Has L (old h0) L1:=by repeat first|with_reducible exact Q9|apply Q8):FW prog 17 #[B1M .u8 p] L Q:=by
 refine fun h hs=>A3G p h Q ((?_:W (old h0::L1) _ _) h (hx.s hs))
 clear hs h hx
 obtain⟨dY,cB,ep,bN,bM⟩:=hr
 obtain⟨vk,vd,vr,vq,vi,vt,vp,vc,s8,s9,aK,aG,aF,ax,aZ,bd,aL,ba,au,ay,aA,vu,aE,aD,ar,aq,⟨⟩⟩:=p
 dsimp only at dY cB ep bN bM dg hq
 delta A3V ad az bn g0 B7a g2 ie ix jb jc ji jt ju kb kc ki kt lt lu nw pu rq sn so sw sx ve vi vs vz w10 w11 w12 w13 w14 w15 w16 w17 w18 w19 w20 w21 w22 w23 w24 w25 w5 w6 w7 w8 w9 wi
 let C8:Slc→Slc→Slc→Slc→Slc→C3D:=fun a b c d e=>#[.int .i64 vk,.bool vd,.bool vr,.int .i64 vq,.int .i64 vi,.string vt,.string vp,.int .u8 vc,.slice a.a a.len a.cap,.slice b.a b.len b.cap,.string aK,.bool aG,.int .i64 aF,.bool ax,.string aZ,.string bd,.int .i64 aL,.bool ba,.slice c.a c.len c.cap,.bool ay,.bool aA,.string vu,.string aE,.bool aD,.slice d.a d.len d.cap,.slice e.a e.len e.cap]
 let C6:Slc→Slc→Slc→Slc→Slc→C3D:=fun a b c d e=>#[.int .i64 vk,.bool vd,.bool vr,.int .i64 vq,.int .i64 vi,.string vt,.string vp,.int .i64 cc,.slice a.a a.len a.cap,.slice b.a b.len b.cap,.string aK,.bool aG,.int .i64 aF,.bool ax,.string aZ,.string bd,.int .i64 aL,.bool ba,.slice c.a c.len c.cap,.bool ay,.bool aA,.string vu,.string aE,.bool aD,.slice d.a d.len d.cap,.slice e.a e.len e.cap]
 refine P2 fun x1=>?_
 refine W.cells (b:=x1) (C8 s8 s9 au ar aq) ?_
 refine P2 fun x2=>?_
 refine P2 fun x3=>?_
 refine W.load (b:=x1) (v:=vk) ?_
 refine W.load (b:=x1) (v:=vd) ?_
 refine W.load (b:=x1) (v:=vr) ?_
 refine W.load (b:=x1) (v:=vq) ?_
 refine W.load (b:=x1) (v:=vi) ?_
 refine W.load (b:=x1) (v:=vt) ?_
 refine W.load (b:=x1) (v:=vp) ?_
 refine W.load (b:=x1) (v:=vc) ?_
 refine W.load (b:=x1) (v:=aK) ?_
 refine W.load (b:=x1) (v:=aG) ?_
 refine W.load (b:=x1) (v:=aF) ?_
 refine W.load (b:=x1) (v:=ax) ?_
 refine W.load (b:=x1) (v:=ay) ?_
 refine W.load (b:=x1) (v:=aA) ?_
 refine W.load (b:=x1) (v:=vu) ?_
 refine W.load (b:=x1) (v:=aE) ?_
 refine W.load (b:=x1) (v:=aD) ?_
 refine P2 fun bE=>?_
 refine P4 (b:=bE) ?_
 refine W.cells (b:=bE) (#[.int .i64 vk,.bool vd,.bool vr,.int .i64 vq,.int .i64 vi,.string vt,.string vp,.int .u8 vc,.slice none 0 0,.slice none 0 0,.string aK,.bool aG,.int .i64 aF,.bool ax,.string e0S,.string e0S,.int .i64 0,.bool false,.slice none 0 0,.bool ay,.bool aA,.string vu,.string aE,.bool aD,.slice none 0 0,.slice none 0 0]) ?_
 refine W.load (b:=x1) (v:=vk) ?_
 refine W.load (b:=x1) (v:=vd) ?_
 refine W.load (b:=x1) (v:=vr) ?_
 refine W.load (b:=x1) (v:=vq) ?_
 refine W.load (b:=x1) (v:=vi) ?_
 refine W.load (b:=x1) (v:=vt) ?_
 refine W.load (b:=x1) (v:=vp) ?_
 refine W.load (b:=x1) (v:=vc) ?_
 refine W.load (b:=x1) (v:=aK) ?_
 refine W.load (b:=x1) (v:=aG) ?_
 refine W.load (b:=x1) (v:=aF) ?_
 refine W.load (b:=x1) (v:=ax) ?_
 refine W.load (b:=x1) (v:=ay) ?_
 refine W.load (b:=x1) (v:=aA) ?_
 refine W.load (b:=x1) (v:=vu) ?_
 refine W.load (b:=x1) (v:=aE) ?_
 refine W.load (b:=x1) (v:=aD) ?_
 refine P2 fun cq=>?_
 refine P4 (b:=cq) ?_
 rw[←dg]
 refine W.cells (b:=cq) (#[.int .i64 vk,.bool vd,.bool vr,.int .i64 vq,.int .i64 vi,.string vt,.string vp,.int .i64 cc,.slice none 0 0,.slice none 0 0,.string aK,.bool aG,.int .i64 aF,.bool ax,.string e0S,.string e0S,.int .i64 0,.bool false,.slice none 0 0,.bool ay,.bool aA,.string vu,.string aE,.bool aD,.slice none 0 0,.slice none 0 0]) ?_
 refine W.load (b:=x1) (v:=s9) ?_
 refine k9 (B5Y dY (fun p1 p2=>At.bI (x:=(p1,p2,())) ?_))
 refine W.store (b:=bE) (cs':=#[.int .i64 vk,.bool vd,.bool vr,.int .i64 vq,.int .i64 vi,.string vt,.string vp,.int .u8 vc,.slice none 0 0,.slice p1.a p1.len p1.cap,.string aK,.bool aG,.int .i64 aF,.bool ax,.string e0S,.string e0S,.int .i64 0,.bool false,.slice none 0 0,.bool ay,.bool aA,.string vu,.string aE,.bool aD,.slice none 0 0,.slice none 0 0]) ?_
 refine W.store (b:=cq) (cs':=#[.int .i64 vk,.bool vd,.bool vr,.int .i64 vq,.int .i64 vi,.string vt,.string vp,.int .i64 cc,.slice none 0 0,.slice p2.a p2.len p2.cap,.string aK,.bool aG,.int .i64 aF,.bool ax,.string e0S,.string e0S,.int .i64 0,.bool false,.slice none 0 0,.bool ay,.bool aA,.string vu,.string aE,.bool aD,.slice none 0 0,.slice none 0 0]) ?_
 refine A4w (b:=x1) (i:=14) (v:=aZ) ?_
 refine A4w (b:=x1) (i:=15) (v:=bd) ?_
 refine A4w (b:=x1) (i:=16) (v:=aL) ?_
 refine A4w (b:=x1) (i:=17) (v:=ba) ?_
 refine C2W (b:=bE) (cs':=(C8 Q5 p1 Q5 Q5 Q5)) ?_
 refine A4w (b:=x1) (i:=14) (v:=aZ) ?_
 refine A4w (b:=x1) (i:=15) (v:=bd) ?_
 refine A4w (b:=x1) (i:=16) (v:=aL) ?_
 refine A4w (b:=x1) (i:=17) (v:=ba) ?_
 refine C2W (b:=cq) (cs':=(C6 Q5 p2 Q5 Q5 Q5)) ?_
 refine A4w (b:=x1) (i:=18) (v:=au) ?_
 refine k9 (B5Y cB (fun w1 w2=>At.bI (x:=(w1,w2,())) ?_))
 refine C2V (b:=bE) (i:=18) (cs':=(C8 Q5 p1 w1 Q5 Q5)) ?_
 refine C2V (b:=cq) (i:=18) (cs':=(C6 Q5 p2 w2 Q5 Q5)) ?_
 refine W.load (b:=x1) (v:=s8) ?_
 refine W.load (b:=x1) (v:=s8) ?_
 refine C0k ep (fun s' bf=>?_)
 have fS:(cl.take 80).length≤80:=I5 _ _
 generalize dc:cl.take 80=xs at bf fS
 clear dc
 refine B0h (eKd .u8) 1 (xs.take 0) ?_
 refine B0h (eKd .i64) 1 ((xs.take 0).map (IntKind.wrap .i64)) ?_
 refine W.loop (γ:=Nat×Slc×Slc) (fun g s=>s.1=(g.1:Int)∧g.1≤xs.length) (fun g s=>cells bE (C8 g.2.1 p1 w1 Q5 Q5)::cells cq (C6 g.2.2 p2 w2 Q5 Q5)::N4 (eKd .u8) 1 g.2.1 (xs.take g.1)::N4 (eKd .i64) 1 g.2.2 ((xs.take g.1).map (IntKind.wrap .i64))::cells x1 ((C8 s8 s9 au ar aq))::cells x2 zS1::cells x3 zS0::N4 Q6 4 p2 (pl.take 80)::N4 Q6 4 w2 (wl.take 80)::old h0::L1)
  (fun g=>xs.length-g.1) (0,Q5,Q5) ⟨rfl,E9 _⟩ ?_ ?_
 ·show Sub _ (cells bE (C8 Q5 p1 w1 Q5 Q5)::cells cq (C6 Q5 p2 w2 Q5 Q5)::N4 (eKd .u8) 1 Q5 (xs.take 0)::N4 (eKd .i64) 1 Q5 ((xs.take 0).map (IntKind.wrap .i64))::cells x1 ((C8 s8 s9 au ar aq))::cells x2 zS1::cells x3 zS0::N4 Q6 4 p2 (pl.take 80)::N4 Q6 4 w2 (wl.take 80)::old h0::L1)
  repeat(first|with_reducible exact M4|with_reducible exact M5|refine M6 (by repeat first|with_reducible exact Q9|apply Q8) ?_|refine M7 ?_)
 rintro⟨i,c1,c2⟩ s ⟨hi,dT⟩ K k1 k2
 simp only at hi dT
 by_cases af:i<xs.length
 ·refine o4 (by rw[hi,bf.1];exact decide_eq_true (by omega)) ?_
  have bH:xs[i]? =some xs[i]:=B2 af
  have cO:xs.take (i+1)=xs.take i++[xs[i]]:=E4 af
  generalize xs[i]=u at bH cO
  have bl:((xs.take i).length+1)*1≤140737488355328:=by simp only[C9,E2];omega
  have cN:(((xs.take i).map (IntKind.wrap .i64)).length+1)*8≤140737488355328:=by simp only[C9,E2];omega
  have hn:∀T1 T2:Slc,At (cells bE (C8 T1 p1 w1 Q5 Q5)::cells cq (C6 T2 p2 w2 Q5 Q5)::N4 (eKd .u8) 1 T1 (xs.take i++[u])::N4 (eKd .i64) 1 T2 ((xs.take i).map (IntKind.wrap .i64)++[IntKind.wrap .i64 u])::cells x1 ((C8 s8 s9 au ar aq))::cells x2 zS1::cells x3 zS0::N4 Q6 4 p2 (pl.take 80)::N4 Q6 4 w2 (wl.take 80)::old h0::L1) (K (.inl (IntKind.wrap .i64 (s.1+1),()))):=fun T1 T2=>by
   have:=k1 (i+1,T1,T2) (IntKind.wrap .i64 (s.1+1),()) (by simp only;omega) ⟨by simp only[hi];rw[O8 (by omega) (by omega)];rfl,af⟩
   simp only[cO,C7,B6,I8] at this
   exact this
  clear k1 k2
  refine A3b bf af (fun a ha=>?_) (he:=hi)
  refine B7w (x:=u) (v:=u) bf ha bH ?_
  refine W.load (b:=bE) (v:=c1) ?_
  refine W.load (b:=cq) (v:=c2) ?_
  repeat' (first|with_reducible refine A6z ?_ ?_|refine B2H (s:=c1) (enc:=eKd .u8) (u) (fun T1=>?_) bl|refine B2H (s:=c2) (enc:=eKd .i64) (IntKind.wrap .i64 u) (fun T2=>?_) cN|refine W6 ?_ rfl|refine W.load (b:=cq) (v:=c2) ?_|refine W.load (b:=bE) (v:=c1) ?_|refine P2 fun _=>?_)
  all_goals
   refine W.store (b:=bE) (cs':=(C8 T1 p1 w1 Q5 Q5)) ?_
   refine W.store (b:=cq) (cs':=(C6 T2 p2 w2 Q5 Q5)) ?_
   exact N0 (hn T1 T2).sub
 refine A2l (by rw[hi,bf.1];exact decide_eq_false (by omega)) (N0 (k2 _ _ ?_))
 have fD:i=xs.length:=by omega
 subst fD
 clear k1 k2
 have iz:((xs.take xs.length).map (IntKind.wrap .i64)).length≤80:=by simp only[C9,E2];omega
 generalize(xs.take xs.length).map (IntKind.wrap .i64)=eB at iz⊢
 clear bf af dT hi
 dsimp only
 refine W.load (b:=x1) (v:=ar) ?_
 refine W.load (b:=x1) (v:=ar) ?_
 refine C0k bN (fun s' bf=>?_)
 have fS:(sl.take 80).length≤80:=I5 _ _
 generalize dc:sl.take 80=xs at bf hq fS
 clear dc
 refine B0h (Y2) 5 (xs.take 0) ?_
 refine B0h (Y2) 5 (xs.take 0) ?_
 refine W.loop (γ:=Nat×Slc×Slc) (fun g s=>s.1=(g.1:Int)∧g.1≤xs.length) (fun g s=>cells bE (C8 c1 p1 w1 g.2.1 Q5)::cells cq (C6 c2 p2 w2 g.2.2 Q5)::N4 (Y2) 5 g.2.1 (xs.take g.1)::N4 (Y2) 5 g.2.2 (xs.take g.1)::cells x1 ((C8 s8 s9 au ar aq))::cells x2 zS1::cells x3 zS0::N4 (eKd .i64) 1 c2 eB::N4 Q6 4 p2 (pl.take 80)::N4 Q6 4 w2 (wl.take 80)::old h0::L1)
  (fun g=>xs.length-g.1) (0,Q5,Q5) ⟨rfl,E9 _⟩ ?_ ?_
 ·show Sub _ (cells bE (C8 c1 p1 w1 Q5 Q5)::cells cq (C6 c2 p2 w2 Q5 Q5)::N4 (Y2) 5 Q5 (xs.take 0)::N4 (Y2) 5 Q5 (xs.take 0)::cells x1 ((C8 s8 s9 au ar aq))::cells x2 zS1::cells x3 zS0::N4 (eKd .i64) 1 c2 eB::N4 Q6 4 p2 (pl.take 80)::N4 Q6 4 w2 (wl.take 80)::old h0::L1)
  repeat(first|with_reducible exact M4|with_reducible exact M5|refine M6 (by repeat first|with_reducible exact Q9|apply Q8) ?_|refine M7 ?_)
 rintro⟨i,s1,s2⟩ s ⟨hi,dT⟩ K k1 k2
 simp only at hi dT
 by_cases af:i<xs.length
 ·refine o4 (by rw[hi,bf.1];exact decide_eq_true (by omega)) ?_
  have bH:xs[i]? =some xs[i]:=B2 af
  have cO:xs.take (i+1)=xs.take i++[xs[i]]:=E4 af
  generalize xs[i]=u at bH cO
  have bl:((xs.take i).length+1)*40≤140737488355328:=by simp only[C9,E2];omega
  have cN:((xs.take i).length+1)*40≤140737488355328:=by simp only[C9,E2];omega
  have hn:∀T1 T2:Slc,At (cells bE (C8 c1 p1 w1 T1 Q5)::cells cq (C6 c2 p2 w2 T2 Q5)::N4 (Y2) 5 T1 (xs.take i++[u])::N4 (Y2) 5 T2 (xs.take i++[u])::cells x1 ((C8 s8 s9 au ar aq))::cells x2 zS1::cells x3 zS0::N4 (eKd .i64) 1 c2 eB::N4 Q6 4 p2 (pl.take 80)::N4 Q6 4 w2 (wl.take 80)::old h0::L1) (K (.inl (IntKind.wrap .i64 (s.1+1),()))):=fun T1 T2=>by
   have:=k1 (i+1,T1,T2) (IntKind.wrap .i64 (s.1+1),()) (by simp only;omega) ⟨by simp only[hi];rw[O8 (by omega) (by omega)];rfl,af⟩
   simp only[cO,C7,B6,I8] at this
   exact this
  clear k1 k2 hq
  refine A3b bf af (fun a ha=>?_) (he:=hi)
  refine B7x (x:=u) (v:=sbU u) bf ha bH ?_
  refine P2 fun dR=>?_
  refine P4 (b:=dR) ?_
  refine W.load (b:=bE) (v:=s1) ?_
  refine O1 (b:=dR) (v:=sbU u) ?_
  refine W.load (b:=cq) (v:=s2) ?_
  refine O1 (b:=dR) (v:=sbU u) ?_
  repeat' (first|with_reducible refine A6z ?_ ?_|refine B2H (s:=s1) (enc:=Y2) (u) (fun T1=>?_) bl|refine B2H (s:=s2) (enc:=Y2) (u) (fun T2=>?_) cN|refine W6 ?_ rfl|refine W.load (b:=cq) (v:=s2) ?_|refine W.load (b:=bE) (v:=s1) ?_|refine O1 (b:=dR) (v:=sbU u) ?_|refine P2 fun _=>?_)
  all_goals
   refine W.store (b:=bE) (cs':=(C8 c1 p1 w1 T1 Q5)) ?_
   refine W.store (b:=cq) (cs':=(C6 c2 p2 w2 T2 Q5)) ?_
   exact N0 (hn T1 T2).sub
 refine A2l (by rw[hi,bf.1];exact decide_eq_false (by omega)) (N0 (k2 _ _ ?_))
 have fD:i=xs.length:=by omega
 subst fD
 clear k1 k2 fS
 rw[K4]
 dsimp only
 generalize xs=eF at*
 refine W.load (b:=x1) (v:=aq) ?_
 refine W.load (b:=x1) (v:=aq) ?_
 refine C0k bM (fun s' bf=>?_)
 have fS:(fl.take 80).length≤80:=I5 _ _
 generalize dc:fl.take 80=xs at bf hq fS
 clear dc
 refine B0h (y5) 1 (xs.take 0) ?_
 refine B0h (y5) 1 (xs.take 0) ?_
 refine W.loop (γ:=Nat×Slc×Slc) (fun g s=>s.1=(g.1:Int)∧g.1≤xs.length) (fun g s=>cells bE (C8 c1 p1 w1 s1 g.2.1)::cells cq (C6 c2 p2 w2 s2 g.2.2)::N4 (y5) 1 g.2.1 (xs.take g.1)::N4 (y5) 1 g.2.2 (xs.take g.1)::cells x1 ((C8 s8 s9 au ar aq))::cells x2 zS1::cells x3 zS0::N4 (eKd .i64) 1 c2 eB::N4 Q6 4 p2 (pl.take 80)::N4 Q6 4 w2 (wl.take 80)::N4 Y2 5 s1 eF::N4 Y2 5 s2 eF::old h0::L1)
  (fun g=>xs.length-g.1) (0,Q5,Q5) ⟨rfl,E9 _⟩ ?_ ?_
 ·show Sub _ (cells bE (C8 c1 p1 w1 s1 Q5)::cells cq (C6 c2 p2 w2 s2 Q5)::N4 (y5) 1 Q5 (xs.take 0)::N4 (y5) 1 Q5 (xs.take 0)::cells x1 ((C8 s8 s9 au ar aq))::cells x2 zS1::cells x3 zS0::N4 (eKd .i64) 1 c2 eB::N4 Q6 4 p2 (pl.take 80)::N4 Q6 4 w2 (wl.take 80)::N4 Y2 5 s1 eF::N4 Y2 5 s2 eF::old h0::L1)
  repeat(first|with_reducible exact M4|with_reducible exact M5|refine M6 (by repeat first|with_reducible exact Q9|apply Q8) ?_|refine M7 ?_)
 rintro⟨i,f1,f2⟩ s ⟨hi,dT⟩ K k1 k2
 simp only at hi dT
 by_cases af:i<xs.length
 ·refine o4 (by rw[hi,bf.1];exact decide_eq_true (by omega)) ?_
  have bH:xs[i]? =some xs[i]:=B2 af
  have cO:xs.take (i+1)=xs.take i++[xs[i]]:=E4 af
  generalize xs[i]=u at bH cO
  have bl:((xs.take i).length+1)*16≤140737488355328:=by simp only[C9,E2];omega
  have cN:((xs.take i).length+1)*16≤140737488355328:=by simp only[C9,E2];omega
  have hn:∀T1 T2:Slc,At (cells bE (C8 c1 p1 w1 s1 T1)::cells cq (C6 c2 p2 w2 s2 T2)::N4 (y5) 1 T1 (xs.take i++[u])::N4 (y5) 1 T2 (xs.take i++[u])::cells x1 ((C8 s8 s9 au ar aq))::cells x2 zS1::cells x3 zS0::N4 (eKd .i64) 1 c2 eB::N4 Q6 4 p2 (pl.take 80)::N4 Q6 4 w2 (wl.take 80)::N4 Y2 5 s1 eF::N4 Y2 5 s2 eF::old h0::L1) (K (.inl (IntKind.wrap .i64 (s.1+1),()))):=fun T1 T2=>by
   have:=k1 (i+1,T1,T2) (IntKind.wrap .i64 (s.1+1),()) (by simp only;omega) ⟨by simp only[hi];rw[O8 (by omega) (by omega)];rfl,af⟩
   simp only[cO,C7,B6,I8] at this
   exact this
  clear k1 k2 hq
  refine A3b bf af (fun a ha=>?_) (he:=hi)
  refine B7w (x:=u) (v:=u) bf ha bH ?_
  refine W.load (b:=bE) (v:=f1) ?_
  refine W.load (b:=cq) (v:=f2) ?_
  repeat' (first|with_reducible refine A6z ?_ ?_|refine B2H (s:=f1) (enc:=y5) (u) (fun T1=>?_) bl|refine B2H (s:=f2) (enc:=y5) (u) (fun T2=>?_) cN|refine W6 ?_ rfl|refine W.load (b:=cq) (v:=f2) ?_|refine W.load (b:=bE) (v:=f1) ?_|refine P2 fun _=>?_)
  all_goals
   refine W.store (b:=bE) (cs':=(C8 c1 p1 w1 s1 T1)) ?_
   refine W.store (b:=cq) (cs':=(C6 c2 p2 w2 s2 T2)) ?_
   exact N0 (hn T1 T2).sub
 refine A2l (by rw[hi,bf.1];exact decide_eq_false (by omega)) (N0 (k2 _ _ ?_))
 have fD:i=xs.length:=by omega
 subst fD
 clear k1 k2 fS
 rw[K4]
 dsimp only
 refine O1 (b:=bE) (v:=(vk,vd,vr,vq,vi,vt,vp,vc,c1,p1,aK,aG,aF,ax,aZ,bd,aL,ba,w1,ay,aA,vu,aE,aD,s1,f1,())) ?_
 refine O1 (b:=cq) (v:=(vk,vd,vr,vq,vi,vt,vp,cc,c2,p2,aK,aG,aF,ax,aZ,bd,aL,ba,w2,ay,aA,vu,aE,aD,s2,f2,())) ?_
 refine P4 (b:=x2) ?_
 refine O1 (b:=cq) (v:=(vk,vd,vr,vq,vi,vt,vp,cc,c2,p2,aK,aG,aF,ax,aZ,bd,aL,ba,w2,ay,aA,vu,aE,aD,s2,f2,())) ?_
 refine W6 ?_ rfl
 refine P4 (b:=x3) ?_
 refine O1 (b:=x2) (v:=(vk,vd,vr,vq,vi,vt,vp,vc,c1,p1,aK,aG,aF,ax,aZ,bd,aL,ba,w1,ay,aA,vu,aE,aD,s1,f1,())) ?_
 refine O1 (b:=x3) (v:=(vk,vd,vr,vq,vi,vt,vp,cc,c2,p2,aK,aG,aF,ax,aZ,bd,aL,ba,w2,ay,aA,vu,aE,aD,s2,f2,())) ?_
 exact N0 (hq c1 c2 p1 p2 w1 w2 s1 s2 f1 f2 eB iz).sub
end
section
open Go.H Go.Proofs
variable {h h0:Heap} {L L' L1 L2 L3 R:List Asn} {Q:Value→Heap→Prop}
theorem C0W(m:Nat)(k:Nat)(hk:1≤k)(hm:m≤9223372036854775807):IntKind.wrap .i64 (Int.tdiv (m:Int) (k:Int))=((m / k:Nat):Int):=by
 rw[Int.tdiv_eq_ediv_of_nonneg (G1 _),←Int.natCast_ediv]
 have h1:m / k≤m:=Nat.div_le_self _ _
 generalize m / k=q at h1⊢
 exact O8 (by omega) (by omega)
theorem B79{n:Int}(hq:∀k:Nat,k≤268435456→At L (Q (.int .i64 (k:Int)))):FW prog 106 #[.int .i64 n] L Q:=by
 refine fun h hs=>A54 n h Q ((?_:W L _ _) h hs)
 clear hs h
 delta A80 bn ie pu wi
 refine A3a (fun _=>Z9 (o4 rfl (N0 (hq 0 (by decide))))) (fun h1=>Z9 ?_)
 refine O2 (fun _=>N0 (hq 0 (by decide))) (fun h2=>?_)
 have h1:=E0 h1
 have h2:=E0 h2
 obtain⟨N,rfl⟩:=F7 (show 0≤n by omega)
 refine W.loop (γ:=Nat×Nat) (fun g s=>s.1=(g.1:Int)∧s.2.1=(g.2:Int)∧g.1+g.2≤268435456) (fun _ _=>L) (fun g=>g.1) (N,1) ⟨rfl,rfl,by simp only;omega⟩ Sub.rfl ?_
 rintro⟨m,k⟩ ⟨a,b,⟨⟩⟩ ⟨ha,hb,hs⟩ K k1 k2
 simp only at ha hb hs
 subst ha hb
 dsimp only
 refine O2 (fun hc=>?_) (fun hc=>?_)
 ·have hc:=of_decide_eq_true hc
  refine W6 ?_ (by decide)
  have hd:m / 128<m:=Nat.div_lt_self (by omega) (by decide)
  refine N0 (k1 (m / 128,k+1) _ hd ⟨?_,?_,?_⟩)
  ·exact C0W m 128 (by decide) (by omega)
  ·simp only;rw[O8 (by omega) (by omega)];rfl
  ·simp only;omega
 ·exact N0 (k2 _ _ (N0 (hq k (by omega))))
theorem A9j(v:Int):(P1 [v]).size=1:=by rw[A6f];rfl
theorem A71{n:Int}(hq:∀(s:B1q) (c:Int),s.size≤268435456→At L (Q (.tuple #[.string s,.int .i64 c]))):FW prog 41 #[.int .i64 n] L Q:=by
 refine fun h hs=>A7B n h Q ((?_:W L _ _) h hs)
 clear hs h
 delta B0T az bn ci ie nw pu vi wi
 refine O6 (B79 fun k hk=>At.un (x:=(k:Int)) ?_)
 refine O2 (fun _=>N0 (hq _ _ (by decide))) (fun _=>?_)
 refine W.loop (γ:=Nat) (fun g s=>s.1.size=g∧s.2.2.1=(g:Int)∧g≤k) (fun _ _=>L) (fun g=>k-g) 0 ⟨rfl,rfl,E9 _⟩ Sub.rfl ?_
 rintro i ⟨t,m,c,⟨⟩⟩ ⟨ht,hc,hi⟩ K k1 k2
 simp only at ht hc
 subst hc
 dsimp only
 refine O2 (fun hl=>?_) (fun hl=>?_)
 ·have hl:=of_decide_eq_true hl
  refine W6 ?_ (by decide)
  have go:∀v:Int,W L (HM.bind (α:=Nat) (HM.new (.cells #[.int .u8 (IntKind.wrap .u8 v)] 5)) fun x5=>
    HM.bind (α:=B1q) (y8 (⟨some ⟨x5,0,none⟩,1,1⟩)) fun x6=>
    P7 (ByteArray.size t+ByteArray.size x6≤9223372036854775807)<|
    P7 (128≠(0:Int))<|
    O9 (.inl (t++x6,IntKind.wrap .i64 (Int.tdiv m 128),IntKind.wrap .i64 ((i:Int)+1),()))) K:=fun v=>by
   refine P2 fun x5=>?_
   refine W.str (b:=x5) (ns:=[IntKind.wrap .u8 v]) ?_
   refine W6 ?_ (by rw[A9j];omega)
   refine W6 ?_ (by decide)
   refine N0 ((k1 (i+1) _ (by omega) ⟨?_,?_,by omega⟩).sub)
   ·simp only[E1,A9j];omega
   ·simp only;rw[O8 (by omega) (by omega)];rfl
  exact A3a (fun _=>Z9 (go _)) (fun _=>Z9 (go _))
 ·refine N0 (k2 _ _ (N0 (hq t 0 ?_)))
  have hl:=E0 hl
  omega
theorem C1e{w:Nat}(hw:A0c w)(hq:At L (Q (.int .i64 ((256 ^ w:Nat):Int)))):FW prog 105 #[.int .i64 w] L Q:=fun h hs=>B03 hw (hq h hs)
theorem A3k{w:Nat}{n:Int}(hw:A0c w)(hq:∀(s:B1q) (c:Int),s.size≤4→At L (Q (.tuple #[.string s,.int .i64 c]))):FW prog 40 #[.int .i64 w,.int .i64 n] L Q:=by
 by_cases hn:0≤n∧n<((256 ^ w:Nat):Int)
 ·obtain⟨N,rfl⟩:=F7 hn.1
  have mJ:=B7X hw
  exact fun h hs=>B3t hs hw (by omega) fun h' ah=>hq _ _ (by rw[A0q];omega) h' ah
 ·refine fun h hs=>A0L w n h Q ((?_:W L _ _) h hs)
  clear hs h
  delta A2v az bn ci ie nw pu vi wi
  refine O6 (C1e hw (At.un (x:=((256 ^ w:Nat):Int)) ?_))
  have hp:0<256 ^ w:=Nat.pow_pos (by decide)
  refine A2l (by simp only[beq_eq_false_iff_ne];omega) ?_
  refine A3a (fun _=>Z9 (o4 rfl (N0 (hq _ _ (by decide))))) (fun h1=>Z9 ?_)
  have h1:=E0 h1
  exact o4 (by exact decide_eq_true (by omega)) (N0 (hq _ _ (by decide)))
theorem A83{s:B1q}(hq:∀(t:B1q) (c:Int),t.size≤65539→At L (Q (.tuple #[.string t,.int .i64 c]))):FW prog 248 #[.string s] L Q:=by
 refine fun h hs=>A55 s h Q ((?_:W L _ _) h hs)
 clear hs h
 delta A81 bn ie pu vi
 refine O2 (fun _=>N0 (hq _ _ (by decide))) (fun h1=>?_)
 have h1:=E0 h1
 refine k9 (A3k (w:=2) (.inr (.inl rfl)) fun t c ht=>At.bI (x:=(t,c,())) ?_)
 dsimp only
 refine W6 ?_ (by omega)
 refine N0 (hq _ _ ?_)
 rw[E1]
 omega
theorem A70{s:B1q}(hz:s.size≤1048576)(hq:∀(t:B1q) (c:Int),t.size≤65539→At L (Q (.tuple #[.string t,.int .i64 c]))):FW prog 185 #[.string s] L Q:=by
 refine fun h hs=>A7A s h Q ((?_:W L _ _) h hs)
 clear hs h
 delta B0S bn ie pu
 refine k9 (fun h hs=>A6W hs s (by omega) (?_:(_:Prop)))
 have:∀(x:Int) (b:Bool),W L (X7 b (O9 (ByteArray.mk #[],129,())) (HM.bind (α:=B1q×Int×Unit) (Q4 prog [.one .str,.one (.int .i64)] 248 #[.string s]) fun x2=>O9 (x2.1,x2.2.1,()))) (fun(x:B1q×Int×Unit) h'=>Q (.tuple #[.string x.1,.int .i64 x.2.1]) h'):=fun x b=>by
  refine O2 (fun _=>N0 (hq _ _ (by decide))) (fun _=>?_)
  refine k9 (A83 fun t c ht=>At.bI (x:=(t,c,())) ?_)
  exact N0 (hq t c ht)
 cases hf:W9 s with
 |some n=>exact⟨((n:Int),true,()),rfl,this (n:Int) true h hs⟩
 |none=>exact⟨(0,false,()),rfl,this 0 false h hs⟩
abbrev eN(x:Int):C3E:=[.int .i64 x]
instance:Enc eN 1:=⟨fun _=>rfl,fun x v hv=>by rw[B4.1 hv];rfl,by decide⟩
theorem B8f{b:Nat}{xs:List Int}{cs:C3D}{n:Nat}(hc:cs=(xs.map (Value.int .i64)).toArray)(hn:xs.length=n)(hs:sat h (cells b cs::R)):sat h (N4 eN 1 ⟨some ⟨b,0,none⟩,n,n⟩ xs::R):=by
 subst hc hn
 refine W8 (o:=0) ⟨rfl,B5 _,rfl,by simp,?_⟩ hs
 simp only[I1,K5,M0]
 rw[D7 (by simp)]
 have:∀xs:List Int,xs.map (Value.int .i64)=xs.flatMap eN:=fun xs=>by
  induction xs with
  |nil=>rfl
  |cons y ys ih=>rw[B6,D4,ih];rfl
 exact this xs
theorem X5{α:Type}{m:HM α}{Q:α→Heap→Prop}{b n:Nat}{xs:List Int}{cs:C3D}(hw:W (N4 eN 1 ⟨some ⟨b,0,none⟩,n,n⟩ xs::L') m Q)(hx:Has L (cells b cs) L':=by repeat first|with_reducible exact Q9|apply Q8)(hc:cs=(xs.map (Value.int .i64)).toArray:=by rfl)(hn:xs.length=n:=by rfl):W L m Q:=fun h hs=>hw h (B8f hc hn (hx.s hs))
theorem A82{n:Int}{S:Slc}{xs:List Int}(hq:∀b,At (N4 eN 1 S xs::L1) (Q (.bool b)))(hx:Has L (N4 eN 1 S xs) L1:=by repeat first|with_reducible exact Q9|apply Q8)(dc:xs.length≤1000:=by decide):FW prog 331 #[.int .i64 n,.slice S.a S.len S.cap] L Q:=by
 refine fun h hs=>A8W n S h Q ((?_:W (N4 eN 1 S xs::L1) _ _) h (hx.s hs))
 clear hs h hx
 delta B3r bn ie ix li pu wi
 refine B89 (B3A (enc:=eN) (size:=1) (s:=S) (xs:=xs)) fun hl=>?_
 refine W.loop (γ:=Nat) (fun g s=>s.1=(g:Int)∧g≤xs.length) (fun _ _=>N4 eN 1 S xs::L1) (fun g=>xs.length-g) 0 ⟨rfl,E9 _⟩ Sub.rfl ?_
 rintro i ⟨c,⟨⟩⟩ ⟨hc,hi⟩ K k1 k2
 simp only at hc
 subst hc
 dsimp only
 refine O2 (fun af=>?_) (fun af=>N0 (k2 _ _ (W.inl (N0 (hq _)))))
 have af:=of_decide_eq_true af
 have af:i<xs.length:=by omega
 refine B4g af (fun a ha=>?_)
 refine C0l ha (B2 af) (v:=xs[i]) ?_
 refine O2 (fun _=>N0 (k2 _ _ (W.inr (N0 (hq _))))) (fun _=>?_)
 exact N0 (k1 (i+1) _ (by omega) ⟨by simp only;rw[O8 (by omega) (by omega)];rfl,af⟩)
theorem z6{n:Int}{S:Slc}{xs:List Int}(hq:∀b,At (N4 eN 1 S xs::L1) (Q (.bool b)))(hx:Has L (N4 eN 1 S xs) L1:=by repeat first|with_reducible exact Q9|apply Q8)(dc:xs.length≤1000:=by decide):FW prog 333 #[.int .i64 n,.slice S.a S.len S.cap] L Q:=by
 refine fun h hs=>A8S n S h Q ((?_:W (N4 eN 1 S xs::L1) _ _) h (hx.s hs))
 clear hs h hx
 delta B3p bn ie ix li pu wi
 refine B89 (B3A (enc:=eN) (size:=1) (s:=S) (xs:=xs)) fun hl=>?_
 refine W.loop (γ:=Nat) (fun g s=>s.1=(g:Int)∧g≤xs.length) (fun _ _=>N4 eN 1 S xs::L1) (fun g=>xs.length-g) 0 ⟨rfl,E9 _⟩ Sub.rfl ?_
 rintro i ⟨c,⟨⟩⟩ ⟨hc,hi⟩ K k1 k2
 simp only at hc
 subst hc
 dsimp only
 refine O2 (fun af=>?_) (fun af=>N0 (k2 _ _ (W.inl (N0 (hq _)))))
 have af:=of_decide_eq_true af
 have af:i<xs.length:=by omega
 refine B4g af (fun a ha=>?_)
 refine C0l ha (B2 af) (v:=xs[i]) ?_
 refine O2 (fun _=>N0 (k2 _ _ (W.inr (N0 (hq _))))) (fun _=>?_)
 exact N0 (k1 (i+1) _ (by omega) ⟨by simp only;rw[O8 (by omega) (by omega)];rfl,af⟩)
end
section
open Go.H Go.Proofs
variable {h h0:Heap} {L L' L1 L2 L3 R:List Asn} {Q:Value→Heap→Prop}
theorem B4j{n:Int}(hq:∀k:Int,At L (Q (.int .i64 k))):FW prog 249 #[.int .i64 n] L Q:=by
 refine fun h hs=>A4i n h Q ((?_:W L _ _) h hs)
 clear hs h
 delta A4W az cb ie nw pu vi
 refine P2 fun x1=>?_
 refine X5 (b:=x1) (n:=8) (xs:=[1,23,25,36,37,40,41,42]) ?_
 refine O6 (A82 (S:=⟨some ⟨x1,0,none⟩,8,8⟩) fun b1=>At.un (x:=b1) ?_)
 refine P2 fun x3=>?_
 refine X5 (b:=x3) (n:=4) (xs:=[19,33,34,35]) ?_
 refine O6 (A82 (S:=⟨some ⟨x3,0,none⟩,4,4⟩) fun b2=>At.un (x:=b2) ?_)
 refine P2 fun x5=>?_
 refine X5 (b:=x5) (n:=4) (xs:=[2,17,24,39]) ?_
 refine O6 (A82 (S:=⟨some ⟨x5,0,none⟩,4,4⟩) fun b3=>At.un (x:=b3) ?_)
 refine P2 fun x7=>?_
 refine X5 (b:=x7) (n:=2) (xs:=[9,22]) ?_
 refine O6 (A82 (S:=⟨some ⟨x7,0,none⟩,2,2⟩) fun b4=>At.un (x:=b4) ?_)
 refine P2 fun x9=>?_
 refine X5 (b:=x9) (n:=7) (xs:=[3,8,18,21,26,28,31]) ?_
 refine O6 (A82 (S:=⟨some ⟨x9,0,none⟩,7,7⟩) fun b5=>At.un (x:=b5) ?_)
 have fw:∀k:Int,At (N4 eN 1 ⟨some ⟨x9,0,none⟩,7,7⟩ [3,8,18,21,26,28,31]::N4 eN 1 ⟨some ⟨x7,0,none⟩,2,2⟩ [9,22]::N4 eN 1 ⟨some ⟨x5,0,none⟩,4,4⟩ [2,17,24,39]::N4 eN 1 ⟨some ⟨x3,0,none⟩,4,4⟩ [19,33,34,35]::N4 eN 1 ⟨some ⟨x1,0,none⟩,8,8⟩ [1,23,25,36,37,40,41,42]::L) (Q (.int .i64 k)):=fun k=>(hq k).sub
 repeat' (first|exact N0 (fw _)|refine O2 (fun _=>?_) (fun _=>?_))
theorem B9L{n:Int}(hq:∀w:Nat,A0c w→At L (Q (.int .i64 (w:Int)))):FW prog 332 #[.int .i64 n] L Q:=by
 refine fun h hs=>A4T n h Q ((?_:W L _ _) h hs)
 clear hs h
 delta A6R ie pu
 refine O2 (fun _=>N0 (hq 1 (.inl rfl))) (fun _=>?_)
 exact O2 (fun _=>N0 (hq 2 (.inr (.inl rfl)))) (fun _=>N0 (hq 4 (.inr (.inr rfl))))
theorem B9O{S:Slc}{pl:List X3}{k:Nat}{n:Int}(hr:P6 Q6 4 h0 S pl)(hk:k≤pl.length)(hl:pl.length≤1000)(hq:∀b,At (old h0::L1) (Q (.bool b)))(hx:Has L (old h0) L1:=by repeat first|with_reducible exact Q9|apply Q8):
  FW prog 250 #[.slice S.a S.len S.cap,.int .i64 (k:Int),.int .i64 n] L Q:=by
 refine fun h hs=>A4V S k n h Q ((?_:W (old h0::L1) _ _) h (hx.s hs))
 clear hs h hx
 delta A6T bn ie ix ki pu wi
 refine O2 (fun _=>N0 (hq _)) (fun _=>?_)
 refine W.loop (γ:=Nat) (fun g s=>s.1=(g:Int)∧g≤k) (fun _ _=>old h0::L1) (fun g=>k-g) 0 ⟨rfl,E9 _⟩ Sub.rfl ?_
 rintro i ⟨c,⟨⟩⟩ ⟨hc,hi⟩ K k1 k2
 simp only at hc
 subst hc
 dsimp only
 refine O2 (fun af=>?_) (fun af=>N0 (k2 _ _ (W.inl (N0 (hq _)))))
 have af:=of_decide_eq_true af
 have bZ:i<pl.length:=by omega
 refine A3b hr bZ (fun a ha=>?_)
 refine B7v (k:=0) hr ha (B2 bZ) (v:=pl[i].1) ?_
 refine O2 (fun _=>N0 (k2 _ _ (W.inr (N0 (hq _))))) (fun _=>?_)
 exact N0 (k1 (i+1) _ (by omega) ⟨by simp only;rw[O8 (by omega) (by omega)];rfl,by omega⟩)
def B9d(p:X3):Prop:=p.2.2.1.size≤1048576∧p.2.2.2.size≤1048576
theorem B9N{p:X3}(hz:B9d p)(hq:∀(s:B1q) (c:Int),s.size≤268435456→At L (Q (.tuple #[.string s,.int .i64 c]))):
  FW prog 251 #[.agg #[.int .i64 p.1,.int .i64 p.2.1,.string p.2.2.1,.string p.2.2.2]] L Q:=by
 obtain⟨a,b,s,t⟩:=p
 obtain⟨aa,ai⟩:=hz
 simp only at aa ai
 refine fun h hs=>A4U (a,b,s,t,()) h Q ((?_:W L _ _) h hs)
 clear hs h
 delta A6S bn ci ie ji jt nw pu vi
 refine P2 fun x1=>?_
 refine W.load (b:=x1) (v:=a) ?_
 refine O6 (B4j fun k=>At.un (x:=k) ?_)
 have fw:∀(s:B1q) (c:Int),s.size≤268435456→At (cells x1 #[.int .i64 a,.int .i64 b,.string s,.string t]::L) (Q (.tuple #[.string s,.int .i64 c])):=fun s c hs=>(hq s c hs).sub
 refine O2 (fun _=>?_) (fun _=>?_)
 ·refine W.load (b:=x1) (v:=b) ?_
  refine k9 (A71 fun u c hu=>At.bI (x:=(u,c,())) ?_)
  exact N0 (hq u c hu).sub
 refine O2 (fun _=>?_) (fun _=>?_)
 ·refine W.load (b:=x1) (v:=s) ?_
  refine k9 (A83 fun u c hu=>At.bI (x:=(u,c,())) ?_)
  exact N0 (hq u c (by omega)).sub
 refine O2 (fun _=>?_) (fun _=>?_)
 ·refine W.load (b:=x1) (v:=s) ?_
  refine k9 (A70 aa fun u c hu=>At.bI (x:=(u,c,())) ?_)
  exact N0 (hq u c (by omega)).sub
 refine O2 (fun _=>?_) (fun _=>?_)
 ·refine W.load (b:=x1) (v:=s) ?_
  refine k9 (A70 aa fun u c hu=>At.bI (x:=(u,c,())) ?_)
  refine O2 (fun _=>N0 (hq (ByteArray.mk #[]) _ (by decide)).sub) (fun _=>?_)
  refine W.load (b:=x1) (v:=t) ?_
  refine k9 (A70 ai fun u2 c2 kI=>At.bI (x:=(u2,c2,())) ?_)
  refine O2 (fun _=>N0 (hq (ByteArray.mk #[]) _ (by decide)).sub) (fun _=>?_)
  dsimp only
  refine W6 ?_ (by omega)
  exact N0 (hq _ _ (by rw[E1];omega)).sub
 refine O6 (B9L fun w hw=>At.un (x:=(w:Int)) ?_)
 refine W.load (b:=x1) (v:=b) ?_
 refine k9 (A3k hw fun u c hu=>At.bI (x:=(u,c,())) ?_)
 exact N0 (hq u c (by omega)).sub
theorem B9X{S:Slc}{pl:List X3}(hr:P6 Q6 4 h0 S pl)(hz:∀p∈pl,B9d p)(hl:pl.length≤1000)(hq:∀(s:B1q) (c:Int),s.size≤100000000000→At (old h0::L1) (Q (.tuple #[.string s,.int .i64 c])))(hx:Has L (old h0) L1:=by repeat first|with_reducible exact Q9|apply Q8):
  FW prog 183 #[.slice S.a S.len S.cap] L Q:=by
 refine fun h hs=>A7z S h Q ((?_:W (old h0::L1) _ _) h (hx.s hs))
 clear hs h hx
 delta B0R bn cb ci g5 ie ix ki pu vi vs wi
 have hlen:=hr.1
 refine O2 (fun _=>N0 (hq (ByteArray.mk #[]) _ (by decide))) (fun pf=>?_)
 have pf:=E0 pf
 refine W.loop (γ:=Nat) (fun g s=>s.2.1=(g:Int)∧g≤pl.length∧s.1.size≤g*600000000) (fun _ _=>old h0::L1) (fun g=>pl.length-g) 0 ⟨rfl,E9 _,B5 _⟩ Sub.rfl ?_
 rintro i ⟨t,d,⟨⟩⟩ ⟨hd,hi,ht⟩ K k1 k2
 simp only at hd ht
 subst hd
 dsimp only
 refine O2 (fun af=>?_) (fun af=>?_)
 ·have af:=of_decide_eq_true af
  have bZ:i<pl.length:=by omega
  have bH:pl[i]? =some pl[i]:=B2 bZ
  have gC:=hz pl[i] (I6 bZ)
  generalize pl[i]=u at bH gC
  have out:∀(s:B1q) (c:Int),s.size≤100000000000→At (old h0::L1) (K (.inr (.inr (s,c,())))):=fun s c hs=>k2 _ _ (W.inr (N0 (hq _ _ hs)))
  refine A3b hr bZ (fun a ha=>?_)
  refine B7v (k:=0) hr ha bH (v:=u.1) ?_
  refine O6 (B4j fun k=>At.un (x:=k) ?_)
  refine O2 (fun _=>N0 (out (ByteArray.mk #[]) _ (by decide))) (fun _=>?_)
  refine A3b hr bZ (fun a2 gk=>?_)
  refine B7v (k:=0) hr gk bH (v:=u.1) ?_
  refine O6 (B9O hr hi hl fun b=>At.un (x:=b) ?_)
  refine O2 (fun _=>N0 (out (ByteArray.mk #[]) _ (by decide))) (fun _=>?_)
  refine A3b hr bZ (fun a3 rf=>?_)
  refine B7x (v:=prU u) hr rf bH ?_
  refine k9 (B9N gC fun s2 c2 ai=>At.bI (x:=(s2,c2,())) ?_)
  refine O2 (fun _=>N0 (out (ByteArray.mk #[]) _ (by decide))) (fun _=>?_)
  refine A3b hr bZ (fun a4 rb=>?_)
  refine B7v (k:=0) hr rb bH (v:=u.1) ?_
  refine k9 (A71 fun s3 c3 aY=>At.bI (x:=(s3,c3,())) ?_)
  dsimp only
  have hb:(i+1)*600000000=i*600000000+600000000:=by omega
  have nr:i≤64:=by omega
  refine W6 ?_ (by omega)
  refine W6 ?_ (by rw[E1];omega)
  refine N0 (k1 (i+1) _ (by omega) ⟨by simp only;rw[O8 (by omega) (by omega)];rfl,bZ,?_⟩)
  simp only[E1]
  omega
 ·refine N0 (k2 _ _ (W.inl ?_))
  have nr:i≤64:=by omega
  refine k9 (A71 fun s3 c3 aY=>At.bI (x:=(s3,c3,())) ?_)
  refine O2 (fun _=>N0 (hq (ByteArray.mk #[]) _ (by decide))) (fun _=>?_)
  dsimp only
  refine W6 ?_ (by omega)
  exact N0 (hq _ _ (by rw[E1];omega))
theorem B7A{k n:Int}(hq:∀b,At L (Q (.bool b))):FW prog 252 #[.int .i64 k,.int .i64 n] L Q:=by
 refine fun h hs=>A3E k n h Q ((?_:W L _ _) h hs)
 clear hs h
 delta A3S az bn cb ie nw pu vi
 repeat' (first
  |exact N0 (hq _)
  |exact N0 ((hq _).sub)
  |refine Z9 ?_
  |(refine P2 fun x=>?_;refine X5 (b:=x) (n:=7) (xs:=[1,2,3,8,9,24,38]) ?_;refine O6 (z6 (S:=⟨some ⟨x,0,none⟩,7,7⟩) fun b1=>At.un (x:=b1) ?_))
  |(refine X6 ?_;refine P2 fun x=>?_;refine X5 (b:=x) (n:=7) (xs:=[1,2,3,8,9,24,38]) ?_;refine O6 (z6 (S:=⟨some ⟨x,0,none⟩,7,7⟩) fun b1=>At.un (x:=b1) ?_))
  |(refine P2 fun x=>?_;refine X5 (b:=x) (n:=9) (xs:=[17,21,22,23,25,33,34,38,39]) ?_;refine O6 (z6 (S:=⟨some ⟨x,0,none⟩,9,9⟩) fun b1=>At.un (x:=b1) ?_))
  |(refine X6 ?_;refine P2 fun x=>?_;refine X5 (b:=x) (n:=9) (xs:=[17,21,22,23,25,33,34,38,39]) ?_;refine O6 (z6 (S:=⟨some ⟨x,0,none⟩,9,9⟩) fun b1=>At.un (x:=b1) ?_))
  |(refine P2 fun x=>?_;refine X5 (b:=x) (n:=10) (xs:=[17,18,19,21,22,26,28,31,33,34]) ?_;refine O6 (z6 (S:=⟨some ⟨x,0,none⟩,10,10⟩) fun b1=>At.un (x:=b1) ?_))
  |(refine X6 ?_;refine P2 fun x=>?_;refine X5 (b:=x) (n:=10) (xs:=[17,18,19,21,22,26,28,31,33,34]) ?_;refine O6 (z6 (S:=⟨some ⟨x,0,none⟩,10,10⟩) fun b1=>At.un (x:=b1) ?_))
  |(refine P2 fun x=>?_;refine X5 (b:=x) (n:=8) (xs:=[1,2,3,8,9,11,35,38]) ?_;refine O6 (z6 (S:=⟨some ⟨x,0,none⟩,8,8⟩) fun b1=>At.un (x:=b1) ?_))
  |(refine X6 ?_;refine P2 fun x=>?_;refine X5 (b:=x) (n:=8) (xs:=[1,2,3,8,9,11,35,38]) ?_;refine O6 (z6 (S:=⟨some ⟨x,0,none⟩,8,8⟩) fun b1=>At.un (x:=b1) ?_))
  |(refine P2 fun x=>?_;refine X5 (b:=x) (n:=4) (xs:=[17,28,31,38]) ?_;refine O6 (z6 (S:=⟨some ⟨x,0,none⟩,4,4⟩) fun b1=>At.un (x:=b1) ?_))
  |(refine X6 ?_;refine P2 fun x=>?_;refine X5 (b:=x) (n:=4) (xs:=[17,28,31,38]) ?_;refine O6 (z6 (S:=⟨some ⟨x,0,none⟩,4,4⟩) fun b1=>At.un (x:=b1) ?_))
  |(refine P2 fun x=>?_;refine X5 (b:=x) (n:=4) (xs:=[21,22,31,38]) ?_;refine O6 (z6 (S:=⟨some ⟨x,0,none⟩,4,4⟩) fun b1=>At.un (x:=b1) ?_))
  |(refine X6 ?_;refine P2 fun x=>?_;refine X5 (b:=x) (n:=4) (xs:=[21,22,31,38]) ?_;refine O6 (z6 (S:=⟨some ⟨x,0,none⟩,4,4⟩) fun b1=>At.un (x:=b1) ?_))
  |refine O2 (fun _=>?_) (fun _=>?_)
  |refine A3a (fun _=>?_) (fun _=>?_)
  |refine X6 ?_)
theorem C2S{S:Slc}{pl:List X3}{k:Int}(hr:P6 Q6 4 h0 S pl)(hl:pl.length≤1000)(hq:∀b,At (old h0::L1) (Q (.bool b)))(hx:Has L (old h0) L1:=by repeat first|with_reducible exact Q9|apply Q8):
  FW prog 184 #[.int .i64 k,.slice S.a S.len S.cap] L Q:=by
 refine fun h hs=>A7w k S h Q ((?_:W (old h0::L1) _ _) h (hx.s hs))
 clear hs h hx
 delta B0O bn cb ie ix ki pu vi wi
 have hlen:=hr.1
 refine W.loop (γ:=Nat) (fun g s=>s.1=(g:Int)∧g≤pl.length) (fun _ _=>old h0::L1) (fun g=>pl.length-g) 0 ⟨rfl,E9 _⟩ Sub.rfl ?_
 rintro i ⟨c,⟨⟩⟩ ⟨hc,hi⟩ K k1 k2
 simp only at hc
 subst hc
 dsimp only
 refine O2 (fun af=>?_) (fun af=>N0 (k2 _ _ (W.inl (N0 (hq _)))))
 have af:=of_decide_eq_true af
 have bZ:i<pl.length:=by omega
 refine A3b hr bZ (fun a ha=>?_)
 refine B7v (k:=0) hr ha (B2 bZ) (v:=pl[i].1) ?_
 refine O6 (B7A fun b=>At.un (x:=b) ?_)
 refine O2 (fun _=>N0 (k2 _ _ (W.inr (N0 (hq _))))) (fun _=>?_)
 exact N0 (k1 (i+1) _ (by omega) ⟨by simp only;rw[O8 (by omega) (by omega)];rfl,by omega⟩)
end
section
open Go.H Go.Proofs
variable {h h0:Heap} {L L' L1 L2 L3 R:List Asn} {Q:Value→Heap→Prop}
abbrev vOt(s:B1q)(c:Int):Value:=.agg #[.string s,.int .i64 c]
theorem B1p{s t:B1q}{c d:Int}(hz:s.size+t.size≤9223372036854775807)(hq:∀c',At L (Q (vOt (s++t) c'))):FW prog 100 #[vOt s c,.string t,.int .i64 d] L Q:=by
 refine fun h hs=>A7x (s,c,()) t d h Q ((?_:W L _ _) h hs)
 clear hs h
 delta B0P az bn ie ji jt nw pu sn sw ve vi
 refine P2 fun x1=>?_
 refine P2 fun x2=>?_
 refine W.load (b:=x1) (v:=c) ?_
 have go:∀c',W (cells x1 #[.string s,.int .i64 c']::cells x2 #[.string (ByteArray.mk #[]),.int .i64 0]::L) (HM.bind (α:=B1q) (R9 .str (Addr.add ⟨x1,0,none⟩ 0)) fun x5=>
   P7 (ByteArray.size x5+ByteArray.size t≤9223372036854775807)<|
   HM.bind (α:=Unit) (A3d (Addr.add ⟨x1,0,none⟩ 0) (.string (x5++t))) fun _=>
   HM.bind (α:=B1q×Int×Unit) (N5 [.str,.int .i64] ⟨x1,0,none⟩) fun x6=>
   HM.bind (α:=Unit) (A0f ⟨x2,0,none⟩ [.string x6.1,.int .i64 x6.2.1]) fun _=>
   HM.bind (α:=B1q×Int×Unit) (N5 [.str,.int .i64] ⟨x2,0,none⟩) fun x7=>
   O9 ((x7.1,x7.2.1,()),())) (fun(x:(B1q×Int×Unit)×Unit) h'=>Q (.agg #[.string x.1.1,.int .i64 x.1.2.1]) h'):=fun c'=>by
  refine W.load (b:=x1) (v:=s) ?_
  refine W6 ?_ hz
  refine W.store (b:=x1) (cs':=#[.string (s++t),.int .i64 c']) ?_
  refine O1 (b:=x1) (v:=(s++t,c',())) ?_
  refine P4 (b:=x2) ?_
  refine O1 (b:=x2) (v:=(s++t,c',())) ?_
  exact N0 (hq c').sub
 refine A3a (fun _=>?_) (fun _=>?_)
 ·refine X6 (W.store (b:=x1) (cs':=#[.string s,.int .i64 d]) (Z9 ?_))
  exact go d
 ·exact Z9 (W.sub (go c))
def Grow(s t:B1q)(k:Nat):Prop:=t.size≤s.size+k
theorem Grow.app{s t:B1q}{k:Nat}(h:t.size≤k):Grow s (s++t) k:=by unfold Grow;rw[E1];omega
theorem l9{s:B1q}{c n:Int}{w:Nat}(hw:A0c w)(hz:s.size≤9223372036854000000)(hq:∀t c',Grow s t 4→At L (Q (vOt t c'))):FW prog 97 #[vOt s c,.int .i64 (w:Int),.int .i64 n] L Q:=by
 refine fun h hs=>A4h (s,c,()) w n h Q ((?_:W L _ _) h hs)
 clear hs h
 delta A4Q az bn nw pu sn ve vi
 refine P2 fun x1=>?_
 refine P2 fun x2=>?_
 refine k9 (A3k hw fun u d hu=>At.bI (x:=(u,d,())) ?_)
 refine O1 (b:=x1) (v:=(s,c,())) ?_
 refine O6 (B1p (s:=s) (t:=u) (c:=c) (d:=d) (by omega) fun c'=>At.un (x:=(s++u,c',())) ?_)
 refine P4 (b:=x2) ?_
 refine O1 (b:=x2) (v:=(s++u,c',())) ?_
 exact N0 (hq _ _ (Grow.app hu)).sub
theorem A39{s t:B1q}{c:Int}(ht:t.size≤1048576)(hz:s.size≤9223372036854000000)(hq:∀t c',Grow s t 65539→At L (Q (vOt t c'))):FW prog 101 #[vOt s c,.string t] L Q:=by
 refine fun h hs=>A5X (s,c,()) t h Q ((?_:W L _ _) h hs)
 clear hs h
 delta A8Q az bn nw pu sn ve vi
 refine P2 fun x1=>?_
 refine P2 fun x2=>?_
 refine k9 (A70 ht fun u d hu=>At.bI (x:=(u,d,())) ?_)
 refine O1 (b:=x1) (v:=(s,c,())) ?_
 refine O6 (B1p (s:=s) (t:=u) (c:=c) (d:=d) (by omega) fun c'=>At.un (x:=(s++u,c',())) ?_)
 refine P4 (b:=x2) ?_
 refine O1 (b:=x2) (v:=(s++u,c',())) ?_
 exact N0 (hq _ _ (Grow.app hu)).sub
theorem B8P{s t:B1q}{c:Int}(hz:s.size≤9223372036854000000)(hq:∀t c',Grow s t 65539→At L (Q (vOt t c'))):FW prog 182 #[vOt s c,.string t] L Q:=by
 refine fun h hs=>A5Z (s,c,()) t h Q ((?_:W L _ _) h hs)
 clear hs h
 delta A8U az bn nw pu sn ve vi
 refine P2 fun x1=>?_
 refine P2 fun x2=>?_
 refine k9 (A83 fun u d hu=>At.bI (x:=(u,d,())) ?_)
 refine O1 (b:=x1) (v:=(s,c,())) ?_
 refine O6 (B1p (s:=s) (t:=u) (c:=c) (d:=d) (by omega) fun c'=>At.un (x:=(s++u,c',())) ?_)
 refine P4 (b:=x2) ?_
 refine O1 (b:=x2) (v:=(s++u,c',())) ?_
 exact N0 (hq _ _ (Grow.app hu)).sub
theorem A6y{s:B1q}{c d:Int}(hz:s.size≤9223372036854000000)(hq:∀t c',Grow s t 0→At L (Q (vOt t c'))):FW prog 100 #[vOt s c,.string (ByteArray.mk #[]),.int .i64 d] L Q:=
 B1p (by show s.size+0≤_;omega) fun c'=>hq _ _ (Grow.app (B5 0))
theorem Grow.rfl{s:B1q}{k:Nat}:Grow s s k:=by unfold Grow;omega
theorem C1n{s:B1q}{c n:Int}(hz:s.size≤9223372036854000000)(hq:∀t c',Grow s t 4→At L (Q (vOt t c'))):FW prog 102 #[vOt s c,.int .i64 n] L Q:=by
 refine fun h hs=>A8T (s,c,()) n h Q ((?_:W L _ _) h hs)
 clear hs h
 delta B3q az bn ie nw pu sn ve vi
 refine P2 fun x1=>?_
 refine P2 fun x2=>?_
 have bad:W (cells x2 #[.string (ByteArray.mk #[]),.int .i64 0]::cells x1 #[.string s,.int .i64 c]::L) (HM.bind (α:=B1q×Int×Unit) (N5 [.str,.int .i64] ⟨x1,0,none⟩) fun x4=>
   HM.bind (α:=B1q×Int×Unit) (O3 prog (.agg [.str,.int .i64]) 100 #[.agg #[.string x4.1,.int .i64 x4.2.1],.string (ByteArray.mk #[]),.int .i64 130]) fun x5=>
   HM.bind (α:=Unit) (A0f ⟨x2,0,none⟩ [.string x5.1,.int .i64 x5.2.1]) fun _=>
   HM.bind (α:=B1q×Int×Unit) (N5 [.str,.int .i64] ⟨x2,0,none⟩) fun x6=>
   O9 ((x6.1,x6.2.1,()),())) (fun(x:(B1q×Int×Unit)×Unit) h'=>Q (.agg #[.string x.1.1,.int .i64 x.1.2.1]) h'):=by
  refine O1 (b:=x1) (v:=(s,c,())) ?_
  refine O6 (A6y (s:=s) (c:=c) hz fun t c' ht=>At.un (x:=(t,c',())) ?_)
  refine P4 (b:=x2) ?_
  refine O1 (b:=x2) (v:=(t,c',())) ?_
  exact N0 (hq t c' (by unfold Grow at ht⊢;omega)).sub
 refine A3a (fun _=>Z9 (o4 rfl bad)) (fun _=>Z9 (O2 (fun _=>bad) (fun _=>?_)))
 refine O1 (b:=x1) (v:=(s,c,())) ?_
 refine O6 (l9 (w:=2) (.inr (.inl rfl)) hz fun t c' ht=>At.un (x:=(t,c',())) ?_)
 refine P4 (b:=x2) ?_
 refine O1 (b:=x2) (v:=(t,c',())) ?_
 exact N0 (hq _ _ ht).sub
theorem B5X{s:B1q}{c n:Int}(hz:s.size≤9223372036854000000)(hq:∀t c',Grow s t 0→At L (Q (vOt t c'))):FW prog 99 #[vOt s c,.int .i64 n] L Q:=by
 refine fun h hs=>A7s (s,c,()) n h Q ((?_:W L _ _) h hs)
 clear hs h
 delta B0K az bn ie nw pu sn ve vi
 refine P2 fun x1=>?_
 refine P2 fun x2=>?_
 have bad:W (cells x2 #[.string (ByteArray.mk #[]),.int .i64 0]::cells x1 #[.string s,.int .i64 c]::L) (HM.bind (α:=B1q×Int×Unit) (N5 [.str,.int .i64] ⟨x1,0,none⟩) fun x4=>
   HM.bind (α:=B1q×Int×Unit) (O3 prog (.agg [.str,.int .i64]) 100 #[.agg #[.string x4.1,.int .i64 x4.2.1],.string (ByteArray.mk #[]),.int .i64 129]) fun x5=>
   HM.bind (α:=Unit) (A0f ⟨x2,0,none⟩ [.string x5.1,.int .i64 x5.2.1]) fun _=>
   HM.bind (α:=B1q×Int×Unit) (N5 [.str,.int .i64] ⟨x2,0,none⟩) fun x6=>
   O9 ((x6.1,x6.2.1,()),())) (fun(x:(B1q×Int×Unit)×Unit) h'=>Q (.agg #[.string x.1.1,.int .i64 x.1.2.1]) h'):=by
  refine O1 (b:=x1) (v:=(s,c,())) ?_
  refine O6 (A6y (s:=s) (c:=c) hz fun t c' ht=>At.un (x:=(t,c',())) ?_)
  refine P4 (b:=x2) ?_
  refine O1 (b:=x2) (v:=(t,c',())) ?_
  exact N0 (hq _ _ ht).sub
 refine A3a (fun _=>Z9 (o4 rfl bad)) (fun _=>Z9 (O2 (fun _=>bad) (fun _=>?_)))
 refine O1 (b:=x1) (v:=(s,c,())) ?_
 refine P4 (b:=x2) ?_
 refine O1 (b:=x2) (v:=(s,c,())) ?_
 exact N0 (hq _ _ Grow.rfl).sub
theorem B4Z{s:B1q}{c n:Int}(hz:s.size≤9223372036854000000)(hq:∀t c',Grow s t 0→At L (Q (vOt t c'))):FW prog 186 #[vOt s c,.int .i64 n] L Q:=by
 refine fun h hs=>A5Y (s,c,()) n h Q ((?_:W L _ _) h hs)
 clear hs h
 delta A8R az bn ie nw pu sn ve vi
 refine P2 fun x1=>?_
 refine P2 fun x2=>?_
 refine O2 (fun _=>?_) (fun _=>O2 (fun _=>?_) (fun _=>?_))
 ·refine O1 (b:=x1) (v:=(s,c,())) ?_
  refine O6 (A6y (s:=s) (c:=c) hz fun t c' ht=>At.un (x:=(t,c',())) ?_)
  refine P4 (b:=x2) ?_
  refine O1 (b:=x2) (v:=(t,c',())) ?_
  exact N0 (hq _ _ ht).sub
 ·refine O1 (b:=x1) (v:=(s,c,())) ?_
  refine O6 (A6y (s:=s) (c:=c) hz fun t c' ht=>At.un (x:=(t,c',())) ?_)
  refine P4 (b:=x2) ?_
  refine O1 (b:=x2) (v:=(t,c',())) ?_
  exact N0 (hq _ _ ht).sub
 ·refine O1 (b:=x1) (v:=(s,c,())) ?_
  refine P4 (b:=x2) ?_
  refine O1 (b:=x2) (v:=(s,c,())) ?_
  exact N0 (hq _ _ Grow.rfl).sub
theorem A5F{b:Bool}{n:Int}(hq:∀k:Int,At L (Q (.int .i64 k))):FW prog 96 #[.bool b,.int .i64 n] L Q:=by
 refine fun h hs=>A7v b n h Q ((?_:W L _ _) h hs)
 delta B0N ie pu
 exact O2 (fun _=>N0 (hq _)) (fun _=>N0 (hq _))
theorem B8q{n:Int}(hq:∀k:Int,At L (Q (.int .i64 k))):FW prog 181 #[.int .i64 n] L Q:=by
 refine fun h hs=>A7t n h Q ((?_:W L _ _) h hs)
 delta B0L bn ie pu wi
 refine W6 ?_ (by decide)
 exact A3a (fun _=>Z9 (N0 (hq _))) (fun _=>Z9 (N0 (hq _)))
theorem A08{s:B1q}{c k:Int}{S:Slc}{pl:List X3}(hr:P6 Q6 4 h0 S pl)(hp:∀p∈pl,B9d p)(hl:pl.length≤1000)(hz:s.size≤9000000000000000000)(hq:∀t c',Grow s t 100000000000→At (old h0::L1) (Q (vOt t c')))(hx:Has L (old h0) L1:=by repeat first|with_reducible exact Q9|apply Q8):
  FW prog 98 #[vOt s c,.int .i64 k,.slice S.a S.len S.cap] L Q:=by
 refine fun h hs=>A4P (s,c,()) k S h Q ((?_:W (old h0::L1) _ _) h (hx.s hs))
 clear hs h hx
 delta A6O az bn cb ie nw pu sn ve vi vs
 refine P2 fun x1=>?_
 refine P2 fun x2=>?_
 refine k9 (B9X hr hp hl fun u d hu=>At.bI (x:=(u,d,())) ?_)
 refine O1 (b:=x1) (v:=(s,c,())) ?_
 refine O6 (B1p (s:=s) (t:=u) (c:=c) (d:=d) (by omega) fun c'=>At.un (x:=(s++u,c',())) ?_)
 have hg:Grow s (s++u) 100000000000:=Grow.app hu
 generalize s++u=t at hg
 refine P4 (b:=x1) ?_
 refine O6 (C2S hr hl fun b=>At.un (x:=b) ?_)
 refine A3a (fun _=>?_) (fun _=>?_)
 ·refine X6 (O1 (b:=x1) (v:=(t,c',())) ?_)
  refine O6 (A6y (s:=t) (by unfold Grow at hg;omega) fun t2 c2 ht=>At.un (x:=(t2,c2,())) ?_)
  refine P4 (b:=x1) ?_
  refine Z9 ?_
  refine O1 (b:=x1) (v:=(t2,c2,())) ?_
  refine P4 (b:=x2) ?_
  refine O1 (b:=x2) (v:=(t2,c2,())) ?_
  exact N0 (hq t2 c2 (by unfold Grow at hg ht⊢;omega)).sub
 ·refine Z9 ?_
  refine O1 (b:=x1) (v:=(t,c',())) ?_
  refine P4 (b:=x2) ?_
  refine O1 (b:=x2) (v:=(t,c',())) ?_
  exact N0 (hq _ _ hg).sub
end
section
open Go.H Go.Proofs
variable {h h0:Heap} {L L' L1 L2 L3 R:List Asn} {Q:Value→Heap→Prop}
structure Pk5(h0:Heap)(p:Pk)(pl wl:List X3)(cl:List Int)(sl:List A5I)(fl:List B1q):Prop where
 props:P6 Q6 4 h0 (p.2.2.2.2.2.2.2.2.2.1) pl
 dH:P6 Q6 4 h0 (p.2.2.2.2.2.2.2.2.2.2.2.2.2.2.2.2.2.2.1) wl
 codes:P6 (eKd .i64) 1 h0 (p.2.2.2.2.2.2.2.2.1) cl
 subs:P6 Y2 5 h0 (p.2.2.2.2.2.2.2.2.2.2.2.2.2.2.2.2.2.2.2.2.2.2.2.2.1) sl
 fils:P6 y5 1 h0 (p.2.2.2.2.2.2.2.2.2.2.2.2.2.2.2.2.2.2.2.2.2.2.2.2.2.1) fl
 topic:p.2.2.2.2.2.1.size≤1048576
 cZ:p.2.2.2.2.2.2.1.size≤1048576
 dM:p.2.2.2.2.2.2.2.2.2.2.1.size≤1048576
 wtopic:p.2.2.2.2.2.2.2.2.2.2.2.2.2.2.1.size≤1048576
 user:p.2.2.2.2.2.2.2.2.2.2.2.2.2.2.2.2.2.2.2.2.2.1.size≤1048576
 szp:∀x∈pl,B9d x
 szw:∀x∈wl,B9d x
 szs:∀x∈sl,x.1.size≤1048576
 szf:∀x∈fl,x.size≤1048576
 lp:pl.length≤1000
 lw:wl.length≤1000
theorem B97{p:Pk}(hq:∀k:Int,At L (Q (.int .i64 k))):FW prog 39 #[B1M .i64 p] L Q:=by
 refine fun h hs=>A4S p h Q ((?_:W L _ _) h hs)
 clear hs h
 delta A6Q bn ci ie jb ji nw pu vi wi
 obtain⟨vk,vd,vr,vq,vi,vt,vp,vc,s8,s9,aK,aG,aF,ax,aZ,bd,aL,ba,au,ay,aA,vu,aE,aD,ar,aq,⟨⟩⟩:=p
 refine P2 fun x1=>?_
 refine W.load (b:=x1) (v:=vk) ?_
 have r1:W (cells x1 (A2H .i64 (vk,vd,vr,vq,vi,vt,vp,vc,s8,s9,aK,aG,aF,ax,aZ,bd,aL,ba,au,ay,aA,vu,aE,aD,ar,aq,())).toArray::L) (X7 (vk==3) (
   HM.bind (α:=Bool) (R9 .bool (Addr.add ⟨x1,0,none⟩ 1)) fun x5=>
   HM.bind (α:=Int) (O3 prog (.one (.int .i64)) 96 #[.bool x5,.int .i64 8]) fun x6=>
   HM.bind (α:=Bool) (R9 .bool (Addr.add ⟨x1,0,none⟩ 2)) fun x7=>
   HM.bind (α:=Int) (O3 prog (.one (.int .i64)) 96 #[.bool x7,.int .i64 1]) fun x8=>
   HM.bind (α:=Int) (R9 (.int .i64) (Addr.add ⟨x1,0,none⟩ 3)) fun x9=>
   O9 (IntKind.wrap .i64 ((IntKind.wrap .i64 (x6+(IntKind.wrap .i64 (2*x9))))+x8),())) (
   O9 (0,()))) (fun(x:Int×Unit) h'=>Q (.int .i64 x.1) h'):=by
  refine O2 (fun _=>?_) (fun _=>N0 (hq 0).sub)
  refine W.load (b:=x1) (v:=vd) ?_
  refine O6 (A5F fun a=>At.un (x:=a) ?_)
  refine W.load (b:=x1) (v:=vr) ?_
  refine O6 (A5F fun b=>At.un (x:=b) ?_)
  refine W.load (b:=x1) (v:=vq) ?_
  exact N0 (hq _).sub
 refine A3a (fun h6=>Z9 ?_) (fun _=>X6 (A3a (fun h8=>Z9 (Z9 ?_)) (fun _=>Z9 (Z9 ?_))))
 ·exact O2 (fun _=>N0 (hq 2).sub) (fun _=>r1)
 ·exact O2 (fun _=>N0 (hq 2).sub) (fun _=>r1)
 ·exact O2 (fun _=>N0 (hq 2).sub) (fun _=>r1)
theorem C0D{s:B1q}{c:Int}{p:Pk}{pl wl:List X3}{cl:List Int}{sl:List A5I}{fl:List B1q}(hp:Pk5 h0 p pl wl cl sl fl)(hz:s.size≤8000000000000000000)(hq:∀t c',Grow s t 200000000000→At (old h0::L1) (Q (vOt t c')))(hx:Has L (old h0) L1:=by repeat first|with_reducible exact Q9|apply Q8):
  FW prog 103 #[vOt s c,B1M .i64 p] L Q:=by
 refine fun h hs=>A7u (s,c,()) p h Q ((?_:W (old h0::L1) _ _) h (hx.s hs))
 clear hs h hx
 obtain⟨dY,cB,ep,bN,bM,z1,z2,z3,z4,z5,zp,zw,zs,zf,lp,lw⟩:=hp
 obtain⟨vk,vd,vr,vq,vi,vt,vp,vc,s8,s9,aK,aG,aF,ax,aZ,bd,aL,ba,au,ay,aA,vu,aE,aD,ar,aq,⟨⟩⟩:=p
 dsimp only at dY cB ep bN bM z1 z2 z3 z4 z5
 let C2:C3D:=#[.int .i64 vk,.bool vd,.bool vr,.int .i64 vq,.int .i64 vi,.string vt,.string vp,.int .i64 vc,.slice s8.a s8.len s8.cap,.slice s9.a s9.len s9.cap,.string aK,.bool aG,.int .i64 aF,.bool ax,.string aZ,.string bd,.int .i64 aL,.bool ba,.slice au.a au.len au.cap,.bool ay,.bool aA,.string vu,.string aE,.bool aD,.slice ar.a ar.len ar.cap,.slice aq.a aq.len aq.cap]
 delta B0M az bn ie jc ji nw pu sn ve vi vs
 refine P2 fun x1=>?_
 refine P2 fun x2=>?_
 refine P2 fun x3=>?_
 refine W.cells (b:=x2) C2 ?_
 refine A5H (fun _=>True) (fun K hK=>?_) (fun x6 _=>?_)
 ·refine W.load (b:=x2) (v:=vc) ?_
  exact O2 (fun _=>N0 (hK _ trivial)) (fun _=>W.load (b:=x2) (v:=s9) (N0 (hK _ trivial)))
 refine B2G (X:=B1q×Int) (fun x _=>Grow s x.1 4) (fun x _=>cells x1 #[.string x.1,.int .i64 x.2]::cells x2 C2::cells x3 #[.string (ByteArray.mk #[]),.int .i64 0]::old h0::L1) (fun K hK=>O2 (fun _=>?_) (fun _=>N0 (hK (s,c) () Grow.rfl).sub)) (fun x _ hx=>?_)
 ·refine O1 (b:=x1) (v:=(s,c,())) ?_
  refine W.load (b:=x2) (v:=vc) ?_
  refine O6 (l9 (s:=s) (c:=c) (w:=1) (.inl rfl) (by omega) fun t c1 ht=>At.un (x:=(t,c1,())) ?_)
  refine P4 (b:=x1) ?_
  exact N0 (hK (t,c1) () ht).sub
 obtain⟨t,d⟩:=x
 dsimp only at hx⊢
 refine W.load (b:=x2) (v:=s9) ?_
 refine B2G (X:=B1q×Int) (fun x _=>Grow s x.1 200000000000) (fun x _=>cells x1 #[.string x.1,.int .i64 x.2]::cells x3 #[.string (ByteArray.mk #[]),.int .i64 0]::old h0::L1) (fun K hK=>O2 (fun _=>?_) (fun _=>N0 (hK (t,d) () (by unfold Grow at hx⊢;simp only;omega)).sub)) (fun x _ hx=>?_)
 ·refine O1 (b:=x1) (v:=(t,d,())) ?_
  refine W.load (b:=x2) (v:=vk) ?_
  refine W.load (b:=x2) (v:=s9) ?_
  refine O6 (A08 (s:=t) (c:=d) dY zp lp (by unfold Grow at hx;omega) fun t1 c1 ht=>At.un (x:=(t1,c1,())) ?_)
  refine P4 (b:=x1) ?_
  exact N0 (hK (t1,c1) () (by unfold Grow at hx ht⊢;simp only;omega)).sub
 obtain⟨t2,d2⟩:=x
 dsimp only at hx⊢
 refine O1 (b:=x1) (v:=(t2,d2,())) ?_
 refine P4 (b:=x3) ?_
 refine O1 (b:=x3) (v:=(t2,d2,())) ?_
 exact N0 (hq t2 d2 hx).sub
end
section
open Go.H Go.Proofs
variable {h h0:Heap} {L L' L1 L2 L3 R:List Asn} {Q:Value→Heap→Prop}
theorem B94{s:B1q}{c:Int}{p:Pk}{pl wl:List X3}{cl:List Int}{sl:List A5I}{fl:List B1q}(hp:Pk5 h0 p pl wl cl sl fl)(hz:s.size≤8000000000000000000)(hq:∀t c',Grow s t 400000000000→At (old h0::L1) (Q (vOt t c')))(hx:Has L (old h0) L1:=by repeat first|with_reducible exact Q9|apply Q8):
  FW prog 104 #[vOt s c,B1M .i64 p] L Q:=by
 refine fun h hs=>A4R (s,c,()) p h Q ((?_:W (old h0::L1) _ _) h (hx.s hs))
 clear hs h hx
 obtain⟨dY,cB,ep,bN,bM,z1,z2,z3,z4,z5,zp,zw,zs,zf,lp,lw⟩:=hp
 obtain⟨vk,vd,vr,vq,vi,vt,vp,vc,s8,s9,aK,aG,aF,ax,aZ,bd,aL,ba,au,ay,aA,vu,aE,aD,ar,aq,⟨⟩⟩:=p
 dsimp only at dY cB ep bN bM z1 z2 z3 z4 z5
 let C2:C3D:=#[.int .i64 vk,.bool vd,.bool vr,.int .i64 vq,.int .i64 vi,.string vt,.string vp,.int .i64 vc,.slice s8.a s8.len s8.cap,.slice s9.a s9.len s9.cap,.string aK,.bool aG,.int .i64 aF,.bool ax,.string aZ,.string bd,.int .i64 aL,.bool ba,.slice au.a au.len au.cap,.bool ay,.bool aA,.string vu,.string aE,.bool aD,.slice ar.a ar.len ar.cap,.slice aq.a aq.len aq.cap]
 delta A6P az bn ci g2 ie ix jb jc ji jt li lt nw pu sn ve vi vs wi
 refine P2 fun x1=>?_
 refine P2 fun x2=>?_
 refine P2 fun x3=>?_
 refine W.cells (b:=x2) C2 ?_
 refine O1 (b:=x1) (v:=(s,c,())) ?_
 refine W.load (b:=x2) (v:=vi) ?_
 refine O6 (C1n (s:=s) (c:=c) (by omega) fun t0 d0 sW=>At.un (x:=(t0,d0,())) ?_)
 refine P4 (b:=x1) ?_
 refine O1 (b:=x1) (v:=(t0,d0,())) ?_
 refine W.load (b:=x2) (v:=vk) ?_
 refine W.load (b:=x2) (v:=s9) ?_
 refine O6 (A08 (s:=t0) (c:=d0) dY zp lp (by unfold Grow at*;omega) fun t d hd=>At.un (x:=(t,d,())) ?_)
 refine P4 (b:=x1) ?_
 refine W.load (b:=x2) (v:=vk) ?_
 refine B2G (X:=B1q×Int) (fun x _=>Grow s x.1 400000000000) (fun x _=>cells x1 #[.string x.1,.int .i64 x.2]::cells x3 #[.string (ByteArray.mk #[]),.int .i64 0]::old h0::L1) (fun K hK=>O2 (fun _=>?_) (fun _=>A3a (fun _=>?_) (fun _=>?_))) (fun x _ hx=>?_)
 ·refine O1 (b:=x1) (v:=(t,d,())) ?_
  refine W.load (b:=x2) (i:=24) (v:=ar) ?_
  refine O6 (B4Z (s:=t) (c:=d) (by unfold Grow at*;omega) fun t1 d1 h1=>At.un (x:=(t1,d1,())) ?_)
  refine P4 (b:=x1) ?_
  refine W.loop (γ:=Nat×B1q×Int) (fun g x=>x.1=(g.1:Int)∧g.1≤64∧Grow s g.2.1 (100000000004+g.1*65543)) (fun g _=>cells x1 #[.string g.2.1,.int .i64 g.2.2]::cells x2 C2::cells x3 #[.string (ByteArray.mk #[]),.int .i64 0]::old h0::L1) (fun g=>64-g.1) (0,t1,d1) ⟨rfl,E9 _,by unfold Grow at*;simp only;omega⟩ ?_ ?_
  ·show Sub _ (cells x1 #[.string t1,.int .i64 d1]::cells x2 C2::cells x3 #[.string (ByteArray.mk #[]),.int .i64 0]::old h0::L1)
   repeat(first|with_reducible exact M4|with_reducible exact M5|refine M6 (by repeat first|with_reducible exact Q9|apply Q8) ?_|refine M7 ?_)
  rintro⟨i,u,e⟩ ⟨c,⟨⟩⟩ ⟨hc,hi,hu⟩ K1 k1 k2
  simp only at hc hi hu
  subst hc
  dsimp only
  refine A5H (fun x=>x.1=decide (i<sl.length∧i<64)) (fun K2 ee=>?_) (fun x hb=>?_)
  ·refine W.load (b:=x2) (i:=24) (v:=ar) ?_
   refine O2 (fun hb=>N0 (ee _ ?_)) (fun hb=>N0 (ee _ ?_))
   ·have hb:=of_decide_eq_true hb
    simp only[bN.1] at hb
    simp only[I0]
    omega
   ·have hb:=E0 hb
    simp only[bN.1] at hb
    exact(decide_eq_false (by omega)).symm
  refine O2 (fun bl=>?_) (fun bl=>N0 (k2 _ _ (N0 (hK (u,e) () (by unfold Grow at*;simp only;omega)).sub)))
  rw[hb] at bl
  have bl:=of_decide_eq_true bl
  have af:i<sl.length:=bl.1
  refine W.load (b:=x2) (i:=24) (v:=ar) ?_
  refine A3b bN af (fun a ha=>?_)
  refine B7x (v:=sbU sl[i]) bN ha (B2 af) ?_
  have gC:=zs sl[i] (I6 af)
  generalize sl[i]=y at gC
  refine P2 fun dW=>?_
  refine P4 (b:=dW) ?_
  refine O1 (b:=x1) (v:=(u,e,())) ?_
  refine W.load (b:=dW) (v:=y.1) ?_
  refine O6 (A39 (s:=u) (c:=e) gC (by unfold Grow at*;omega) fun u1 e1 g1=>At.un (x:=(u1,e1,())) ?_)
  refine P4 (b:=x1) ?_
  refine O1 (b:=x1) (v:=(u1,e1,())) ?_
  refine W.load (b:=dW) (v:=y.2.1) ?_
  refine O6 (B5X (s:=u1) (c:=e1) (by unfold Grow at*;omega) fun u2 e2 g2=>At.un (x:=(u2,e2,())) ?_)
  refine P4 (b:=x1) ?_
  refine O1 (b:=x1) (v:=(u2,e2,())) ?_
  refine W.load (b:=dW) (v:=y.2.2.2.2) ?_
  refine O6 (B5X (s:=u2) (c:=e2) (by unfold Grow at*;omega) fun u3 e3 g3=>At.un (x:=(u3,e3,())) ?_)
  refine P4 (b:=x1) ?_
  refine W.load (b:=dW) (v:=y.2.1) ?_
  refine O6 (B8q fun q1=>At.un (x:=q1) ?_)
  refine W.load (b:=dW) (v:=y.2.2.1) ?_
  refine O6 (A5F fun q2=>At.un (x:=q2) ?_)
  refine W.load (b:=dW) (v:=y.2.2.2.1) ?_
  refine O6 (A5F fun q3=>At.un (x:=q3) ?_)
  refine W.load (b:=dW) (v:=y.2.2.2.2) ?_
  refine O6 (B8q fun q4=>At.un (x:=q4) ?_)
  refine O1 (b:=x1) (v:=(u3,e3,())) ?_
  refine O6 (l9 (s:=u3) (c:=e3) (w:=1) (.inl rfl) (by unfold Grow at*;omega) fun uZ eZ g4=>At.un (x:=(uZ,eZ,())) ?_)
  refine P4 (b:=x1) ?_
  exact N0 (k1 (i+1,uZ,eZ) _ (by simp only;omega) ⟨by simp only;rw[O8 (by omega) (by omega)];rfl,by simp only;omega,by unfold Grow at*;simp only;omega⟩).sub
 ·refine X6 (O1 (b:=x1) (v:=(t,d,())) ?_)
  have hK:∀(x:B1q×Int) (a:Unit),Grow s x.1 400000000000→At (cells x1 #[.string x.1,.int .i64 x.2]::cells x3 #[.string (ByteArray.mk #[]),.int .i64 0]::old h0::L1) (K a):=hK
  refine W.load (b:=x2) (i:=25) (v:=aq) ?_
  refine O6 (B4Z (s:=t) (c:=d) (by unfold Grow at*;omega) fun t1 d1 h1=>At.un (x:=(t1,d1,())) ?_)
  refine P4 (b:=x1) ?_
  refine W.loop (γ:=Nat×B1q×Int) (fun g x=>x.1=(g.1:Int)∧g.1≤64∧Grow s g.2.1 (100000000004+g.1*65543)) (fun g _=>cells x1 #[.string g.2.1,.int .i64 g.2.2]::cells x2 C2::cells x3 #[.string (ByteArray.mk #[]),.int .i64 0]::old h0::L1) (fun g=>64-g.1) (0,t1,d1) ⟨rfl,E9 _,by unfold Grow at*;simp only;omega⟩ ?_ ?_
  ·show Sub _ (cells x1 #[.string t1,.int .i64 d1]::cells x2 C2::cells x3 #[.string (ByteArray.mk #[]),.int .i64 0]::old h0::L1)
   repeat(first|with_reducible exact M4|with_reducible exact M5|refine M6 (by repeat first|with_reducible exact Q9|apply Q8) ?_|refine M7 ?_)
  rintro⟨i,u,e⟩ ⟨c,⟨⟩⟩ ⟨hc,hi,hu⟩ K1 k1 k2
  simp only at hc hi hu
  subst hc
  dsimp only
  refine A5H (fun x=>x.1=decide (i<fl.length∧i<64)) (fun K2 ee=>?_) (fun x hb=>?_)
  ·refine W.load (b:=x2) (i:=25) (v:=aq) ?_
   refine O2 (fun hb=>N0 (ee _ ?_)) (fun hb=>N0 (ee _ ?_))
   ·have hb:=of_decide_eq_true hb
    simp only[bM.1] at hb
    simp only[I0]
    omega
   ·have hb:=E0 hb
    simp only[bM.1] at hb
    exact(decide_eq_false (by omega)).symm
  refine O2 (fun bl=>?_) (fun bl=>N0 (k2 _ _ (N0 (hK (u,e) () (by unfold Grow at*;simp only;omega)).sub)))
  rw[hb] at bl
  have bl:=of_decide_eq_true bl
  have af:i<fl.length:=bl.1
  refine O1 (b:=x1) (v:=(u,e,())) ?_
  refine W.load (b:=x2) (i:=25) (v:=aq) ?_
  refine A3b bM af (fun a ha=>?_)
  refine B7w (x:=fl[i]) (v:=fl[i]) bM ha (B2 af) ?_
  have gC:=zf fl[i] (I6 af)
  generalize fl[i]=y at gC
  refine O6 (A39 (s:=u) (c:=e) gC (by unfold Grow at*;omega) fun uZ eZ g1=>At.un (x:=(uZ,eZ,())) ?_)
  refine P4 (b:=x1) ?_
  exact N0 (k1 (i+1,uZ,eZ) _ (by simp only;omega) ⟨by simp only;rw[O8 (by omega) (by omega)];rfl,by simp only;omega,by unfold Grow at*;simp only;omega⟩).sub
 ·refine X6 (O1 (b:=x1) (v:=(t,d,())) ?_)
  refine W.load (b:=x2) (i:=8) (v:=s8) ?_
  refine O6 (B4Z (s:=t) (c:=d) (by unfold Grow at*;omega) fun t1 d1 h1=>At.un (x:=(t1,d1,())) ?_)
  refine P4 (b:=x1) ?_
  refine W.loop (γ:=Nat×B1q×Int) (fun g x=>x.1=(g.1:Int)∧g.1≤64∧Grow s g.2.1 (100000000004+g.1*65543)) (fun g _=>cells x1 #[.string g.2.1,.int .i64 g.2.2]::cells x2 C2::cells x3 #[.string (ByteArray.mk #[]),.int .i64 0]::old h0::L1) (fun g=>64-g.1) (0,t1,d1) ⟨rfl,E9 _,by unfold Grow at*;simp only;omega⟩ ?_ ?_
  ·show Sub _ (cells x1 #[.string t1,.int .i64 d1]::cells x2 C2::cells x3 #[.string (ByteArray.mk #[]),.int .i64 0]::old h0::L1)
   repeat(first|with_reducible exact M4|with_reducible exact M5|refine M6 (by repeat first|with_reducible exact Q9|apply Q8) ?_|refine M7 ?_)
  rintro⟨i,u,e⟩ ⟨c,⟨⟩⟩ ⟨hc,hi,hu⟩ K1 k1 k2
  simp only at hc hi hu
  subst hc
  dsimp only
  refine A5H (fun x=>x.1=decide (i<cl.length∧i<64)) (fun K2 ee=>?_) (fun x hb=>?_)
  ·refine W.load (b:=x2) (i:=8) (v:=s8) ?_
   refine O2 (fun hb=>N0 (ee _ ?_)) (fun hb=>N0 (ee _ ?_))
   ·have hb:=of_decide_eq_true hb
    simp only[ep.1] at hb
    simp only[I0]
    omega
   ·have hb:=E0 hb
    simp only[ep.1] at hb
    exact(decide_eq_false (by omega)).symm
  refine O2 (fun bl=>?_) (fun bl=>N0 (k2 _ _ (N0 (hK (u,e) () (by unfold Grow at*;simp only;omega)).sub)))
  rw[hb] at bl
  have bl:=of_decide_eq_true bl
  have af:i<cl.length:=bl.1
  refine O1 (b:=x1) (v:=(u,e,())) ?_
  refine W.load (b:=x2) (i:=8) (v:=s8) ?_
  refine A3b ep af (fun a ha=>?_)
  refine B7w (x:=cl[i]) (v:=cl[i]) ep ha (B2 af) ?_
  refine O6 (l9 (s:=u) (c:=e) (w:=1) (.inl rfl) (by unfold Grow at*;omega) fun uZ eZ g1=>At.un (x:=(uZ,eZ,())) ?_)
  refine P4 (b:=x1) ?_
  exact N0 (k1 (i+1,uZ,eZ) _ (by simp only;omega) ⟨by simp only;rw[O8 (by omega) (by omega)];rfl,by simp only;omega,by unfold Grow at*;simp only;omega⟩).sub
 obtain⟨t2,d2⟩:=x
 dsimp only at hx⊢
 refine O1 (b:=x1) (v:=(t2,d2,())) ?_
 refine P4 (b:=x3) ?_
 refine O1 (b:=x3) (v:=(t2,d2,())) ?_
 exact N0 (hq t2 d2 hx).sub
end
section
open Go.H Go.Proofs
variable {h h0:Heap} {L L' L1 L2 L3 R:List Asn} {Q:Value→Heap→Prop}
theorem B7j{s:B1q}{c:Int}{p:Pk}{pl wl:List X3}{cl:List Int}{sl:List A5I}{fl:List B1q}(hp:Pk5 h0 p pl wl cl sl fl)(hz:s.size≤7000000000000000000)(hq:∀t c',Grow s t 400000000000→At (old h0::L1) (Q (vOt t c')))(hx:Has L (old h0) L1:=by repeat first|with_reducible exact Q9|apply Q8):
  FW prog 95 #[vOt s c,B1M .i64 p] L Q:=by
 refine fun h hs=>A3D (s,c,()) p h Q ((?_:W (old h0::L1) _ _) h (hx.s hs))
 clear hs h hx
 obtain⟨dY,cB,ep,bN,bM,z1,z2,z3,z4,z5,zp,zw,zs,zf,lp,lw⟩:=hp
 obtain⟨vk,vd,vr,vq,vi,vt,vp,vc,s8,s9,aK,aG,aF,ax,aZ,bd,aL,ba,au,ay,aA,vu,aE,aD,ar,aq,⟨⟩⟩:=p
 dsimp only at dY cB ep bN bM z1 z2 z3 z4 z5
 let C2:C3D:=#[.int .i64 vk,.bool vd,.bool vr,.int .i64 vq,.int .i64 vi,.string vt,.string vp,.int .i64 vc,.slice s8.a s8.len s8.cap,.slice s9.a s9.len s9.cap,.string aK,.bool aG,.int .i64 aF,.bool ax,.string aZ,.string bd,.int .i64 aL,.bool ba,.slice au.a au.len au.cap,.bool ay,.bool aA,.string vu,.string aE,.bool aD,.slice ar.a ar.len ar.cap,.slice aq.a aq.len aq.cap]
 delta A3R ad az bn ci ie jb jc ji jt kb kc ki kt nw pu sn ve vi vs wi
 refine P2 fun x1=>?_
 refine P2 fun x2=>?_
 refine P2 fun x3=>?_
 refine W.cells (b:=x2) C2 ?_
 refine O1 (b:=x1) (v:=(s,c,())) ?_
 refine O6 (A39 (s:=s) (c:=c) (by decide) (by omega) fun t1 d1 g1=>At.un (x:=(t1,d1,())) ?_)
 refine P4 (b:=x1) ?_
 refine O1 (b:=x1) (v:=(t1,d1,())) ?_
 refine O6 (l9 (s:=t1) (c:=d1) (w:=1) (.inl rfl) (by unfold Grow at*;omega) fun t2 d2 g2=>At.un (x:=(t2,d2,())) ?_)
 refine P4 (b:=x1) ?_
 refine W.load (b:=x2) (v:=aG) ?_
 refine O6 (A5F fun b1=>At.un (x:=b1) ?_)
 refine W.load (b:=x2) (v:=aA) ?_
 refine O6 (A5F fun b2=>At.un (x:=b2) ?_)
 refine W.load (b:=x2) (v:=ay) ?_
 refine O6 (A5F fun b3=>At.un (x:=b3) ?_)
 refine W.load (b:=x2) (v:=ax) ?_
 refine B2G (X:=B1q×Int) (fun x _=>Grow s x.1 100000) (fun x _=>cells x1 #[.string x.1,.int .i64 x.2]::cells x2 C2::cells x3 #[.string (ByteArray.mk #[]),.int .i64 0]::old h0::L1) (fun K hK=>O2 (fun _=>?_) (fun _=>N0 (hK (t2,d2) _ (by unfold Grow at*;simp only;omega)).sub)) (fun x pI hx=>?_)
 ·refine O1 (b:=x1) (v:=(t2,d2,())) ?_
  refine A4w (b:=x2) (i:=16) (v:=aL) ?_
  refine O6 (B5X (s:=t2) (c:=d2) (by unfold Grow at*;omega) fun t3 d3 g3=>At.un (x:=(t3,d3,())) ?_)
  refine P4 (b:=x1) ?_
  refine A4w (b:=x2) (i:=16) (v:=aL) ?_
  refine O6 (B8q fun b4=>At.un (x:=b4) ?_)
  refine A4w (b:=x2) (i:=17) (v:=ba) ?_
  refine O6 (A5F fun b5=>At.un (x:=b5) ?_)
  exact N0 (hK (t3,d3) _ (by unfold Grow at*;simp only;omega)).sub
 obtain⟨t4,d4⟩:=x
 dsimp only at hx⊢
 have g4:=hx
 clear hx
 refine O1 (b:=x1) (v:=(t4,d4,())) ?_
 refine O6 (l9 (s:=t4) (c:=d4) (w:=1) (.inl rfl) (by unfold Grow at*;omega) fun t5 d5 g5=>At.un (x:=(t5,d5,())) ?_)
 refine P4 (b:=x1) ?_
 refine O1 (b:=x1) (v:=(t5,d5,())) ?_
 refine W.load (b:=x2) (v:=aF) ?_
 refine O6 (l9 (s:=t5) (c:=d5) (w:=2) (.inr (.inl rfl)) (by unfold Grow at*;omega) fun t6 d6 g6=>At.un (x:=(t6,d6,())) ?_)
 refine P4 (b:=x1) ?_
 refine O1 (b:=x1) (v:=(t6,d6,())) ?_
 refine W.load (b:=x2) (v:=s9) ?_
 refine O6 (A08 (s:=t6) (c:=d6) dY zp lp (by unfold Grow at*;omega) fun t7 d7 g7=>At.un (x:=(t7,d7,())) ?_)
 refine P4 (b:=x1) ?_
 refine O1 (b:=x1) (v:=(t7,d7,())) ?_
 refine W.load (b:=x2) (v:=aK) ?_
 refine O6 (A39 (s:=t7) (c:=d7) z3 (by unfold Grow at*;omega) fun t8 d8 g8=>At.un (x:=(t8,d8,())) ?_)
 refine P4 (b:=x1) ?_
 refine W.load (b:=x2) (v:=ax) ?_
 refine B2G (X:=B1q×Int) (fun x _=>Grow s x.1 300000000000) (fun x _=>cells x1 #[.string x.1,.int .i64 x.2]::cells x2 C2::cells x3 #[.string (ByteArray.mk #[]),.int .i64 0]::old h0::L1) (fun K hK=>O2 (fun _=>?_) (fun _=>N0 (hK (t8,d8) () (by unfold Grow at*;simp only;omega)).sub)) (fun x _ hx=>?_)
 ·refine O1 (b:=x1) (v:=(t8,d8,())) ?_
  refine A4w (b:=x2) (i:=18) (v:=au) ?_
  refine O6 (A08 (s:=t8) (c:=d8) cB zw lw (by unfold Grow at*;omega) fun t9 d9 g9=>At.un (x:=(t9,d9,())) ?_)
  refine P4 (b:=x1) ?_
  refine O1 (b:=x1) (v:=(t9,d9,())) ?_
  refine A4w (b:=x2) (i:=14) (v:=aZ) ?_
  refine O6 (A39 (s:=t9) (c:=d9) z4 (by unfold Grow at*;omega) fun t10 d10 g10=>At.un (x:=(t10,d10,())) ?_)
  refine P4 (b:=x1) ?_
  refine O1 (b:=x1) (v:=(t10,d10,())) ?_
  refine A4w (b:=x2) (i:=15) (v:=bd) ?_
  refine O6 (B8P (s:=t10) (c:=d10) (by unfold Grow at*;omega) fun t11 d11 g11=>At.un (x:=(t11,d11,())) ?_)
  refine P4 (b:=x1) ?_
  exact N0 (hK (t11,d11) () (by unfold Grow at*;simp only;omega)).sub
 obtain⟨t12,d12⟩:=x
 dsimp only at hx⊢
 have g12:=hx
 clear hx
 refine W.load (b:=x2) (v:=ay) ?_
 refine B2G (X:=B1q×Int) (fun x _=>Grow s x.1 300000100000) (fun x _=>cells x1 #[.string x.1,.int .i64 x.2]::cells x2 C2::cells x3 #[.string (ByteArray.mk #[]),.int .i64 0]::old h0::L1) (fun K hK=>O2 (fun _=>?_) (fun _=>N0 (hK (t12,d12) () (by unfold Grow at*;simp only;omega)).sub)) (fun x _ hx=>?_)
 ·refine O1 (b:=x1) (v:=(t12,d12,())) ?_
  refine W.load (b:=x2) (v:=vu) ?_
  refine O6 (A39 (s:=t12) (c:=d12) z5 (by unfold Grow at*;omega) fun t13 d13 g13=>At.un (x:=(t13,d13,())) ?_)
  refine P4 (b:=x1) ?_
  exact N0 (hK (t13,d13) () (by unfold Grow at*;simp only;omega)).sub
 obtain⟨t14,d14⟩:=x
 dsimp only at hx⊢
 have g14:=hx
 clear hx
 refine W.load (b:=x2) (v:=aA) ?_
 refine B2G (X:=B1q×Int) (fun x _=>Grow s x.1 300000200000) (fun x _=>cells x1 #[.string x.1,.int .i64 x.2]::cells x2 C2::cells x3 #[.string (ByteArray.mk #[]),.int .i64 0]::old h0::L1) (fun K hK=>O2 (fun _=>?_) (fun _=>N0 (hK (t14,d14) () (by unfold Grow at*;simp only;omega)).sub)) (fun x _ hx=>?_)
 ·refine O1 (b:=x1) (v:=(t14,d14,())) ?_
  refine W.load (b:=x2) (v:=aE) ?_
  refine O6 (B8P (s:=t14) (c:=d14) (by unfold Grow at*;omega) fun t15 d15 g15=>At.un (x:=(t15,d15,())) ?_)
  refine P4 (b:=x1) ?_
  exact N0 (hK (t15,d15) () (by unfold Grow at*;simp only;omega)).sub
 obtain⟨t16,d16⟩:=x
 dsimp only at hx⊢
 have g16:=hx
 clear hx
 refine O1 (b:=x1) (v:=(t16,d16,())) ?_
 refine P4 (b:=x3) ?_
 refine O1 (b:=x3) (v:=(t16,d16,())) ?_
 exact N0 (hq t16 d16 (by unfold Grow at*;omega)).sub
end
section
open Go.H Go.Proofs
variable {h h0:Heap} {L L' L1 L2 L3 R:List Asn} {Q:Value→Heap→Prop}
theorem C1R{s:B1q}{c:Int}{p:Pk}{pl wl:List X3}{cl:List Int}{sl:List A5I}{fl:List B1q}(hp:Pk5 h0 p pl wl cl sl fl)(hz:s.size≤7000000000000000000)(hq:∀t c',Grow s t 500000000000→At (old h0::L1) (Q (vOt t c')))(hx:Has L (old h0) L1:=by repeat first|with_reducible exact Q9|apply Q8):
  FW prog 38 #[vOt s c,B1M .i64 p] L Q:=by
 refine fun h hs=>A50 (s,c,()) p h Q ((?_:W (old h0::L1) _ _) h (hx.s hs))
 clear hs h hx
 obtain⟨vk,vd,vr,vq,vi,vt,vp,vc,s8,s9,aK,aG,aF,ax,aZ,bd,aL,ba,au,ay,aA,vu,aE,aD,ar,aq,⟨⟩⟩:=p
 let C2:C3D:=#[.int .i64 vk,.bool vd,.bool vr,.int .i64 vq,.int .i64 vi,.string vt,.string vp,.int .i64 vc,.slice s8.a s8.len s8.cap,.slice s9.a s9.len s9.cap,.string aK,.bool aG,.int .i64 aF,.bool ax,.string aZ,.string bd,.int .i64 aL,.bool ba,.slice au.a au.len au.cap,.bool ay,.bool aA,.string vu,.string aE,.bool aD,.slice ar.a ar.len ar.cap,.slice aq.a aq.len aq.cap]
 have cm:=hp
 obtain⟨dY,cB,ep,bN,bM,z1,z2,z3,z4,z5,zp,zw,zs,zf,lp,lw⟩:=cm
 dsimp only at dY cB ep bN bM z1 z2 z3 z4 z5
 delta A8V az bn ci g0 ie jb jc ji jt nw pu sn ve vi vs
 refine P2 fun x1=>?_
 refine P2 fun x2=>?_
 refine P2 fun x3=>?_
 refine W.cells (b:=x2) C2 ?_
 refine W.load (b:=x2) (v:=vk) ?_
 refine O2 (fun _=>?_) (fun _=>?_)
 ·refine O1 (b:=x1) (v:=(s,c,())) ?_
  refine O1 (b:=x2) (v:=(vk,vd,vr,vq,vi,vt,vp,vc,s8,s9,aK,aG,aF,ax,aZ,bd,aL,ba,au,ay,aA,vu,aE,aD,ar,aq,())) ?_
  refine O6 (B7j (s:=s) (c:=c) (p:=(vk,vd,vr,vq,vi,vt,vp,vc,s8,s9,aK,aG,aF,ax,aZ,bd,aL,ba,au,ay,aA,vu,aE,aD,ar,aq,())) hp (by omega) fun t d g=>At.un (x:=(t,d,())) ?_)
  refine P4 (b:=x3) ?_
  refine O1 (b:=x3) (v:=(t,d,())) ?_
  exact N0 (hq t d (by unfold Grow at*;omega)).sub
 refine O2 (fun _=>?_) (fun _=>?_)
 ·refine W.load (b:=x2) (v:=aD) ?_
  refine O6 (A5F fun b1=>At.un (x:=b1) ?_)
  refine O1 (b:=x1) (v:=(s,c,())) ?_
  refine O6 (l9 (s:=s) (c:=c) (w:=1) (.inl rfl) (by omega) fun t17 d17 g17=>At.un (x:=(t17,d17,())) ?_)
  refine P4 (b:=x1) ?_
  refine O1 (b:=x1) (v:=(t17,d17,())) ?_
  refine W.load (b:=x2) (v:=vc) ?_
  refine O6 (l9 (s:=t17) (c:=d17) (w:=1) (.inl rfl) (by unfold Grow at*;omega) fun t18 d18 g18=>At.un (x:=(t18,d18,())) ?_)
  refine P4 (b:=x1) ?_
  refine O1 (b:=x1) (v:=(t18,d18,())) ?_
  refine W.load (b:=x2) (v:=s9) ?_
  refine O6 (A08 (s:=t18) (c:=d18) dY zp lp (by unfold Grow at*;omega) fun t19 d19 g19=>At.un (x:=(t19,d19,())) ?_)
  refine P4 (b:=x3) ?_
  refine O1 (b:=x3) (v:=(t19,d19,())) ?_
  exact N0 (hq t19 d19 (by unfold Grow at*;omega)).sub
 refine O2 (fun _=>?_) (fun _=>?_)
 ·refine O1 (b:=x1) (v:=(s,c,())) ?_
  refine W.load (b:=x2) (v:=vq) ?_
  refine O6 (B5X (s:=s) (c:=c) (by omega) fun t20 d20 g20=>At.un (x:=(t20,d20,())) ?_)
  refine P4 (b:=x1) ?_
  refine A5H (fun _=>True) (fun K hK=>?_) (fun iK _=>?_)
  ·refine W.load (b:=x2) (v:=vd) ?_
   exact O2 (fun _=>W.load (b:=x2) (v:=vq) (N0 (hK _ trivial))) (fun _=>N0 (hK _ trivial))
  refine B2G (X:=B1q×Int) (fun x _=>Grow s x.1 1000) (fun x _=>cells x1 #[.string x.1,.int .i64 x.2]::cells x2 C2::cells x3 #[.string (ByteArray.mk #[]),.int .i64 0]::old h0::L1) (fun K hK=>O2 (fun _=>?_) (fun _=>N0 (hK (t20,d20) () (by unfold Grow at*;simp only;omega)).sub)) (fun x _ hx=>?_)
  ·refine O1 (b:=x1) (v:=(t20,d20,())) ?_
   refine O6 (A6y (s:=t20) (c:=d20) (by unfold Grow at*;omega) fun t21 d21 g21=>At.un (x:=(t21,d21,())) ?_)
   refine P4 (b:=x1) ?_
   exact N0 (hK (t21,d21) () (by unfold Grow at*;simp only;omega)).sub
  obtain⟨t22,d22⟩:=x
  dsimp only at hx⊢
  have g22:=hx
  clear hx
  refine O1 (b:=x1) (v:=(t22,d22,())) ?_
  refine W.load (b:=x2) (v:=vt) ?_
  refine O6 (A39 (s:=t22) (c:=d22) z1 (by unfold Grow at*;omega) fun t23 d23 g23=>At.un (x:=(t23,d23,())) ?_)
  refine P4 (b:=x1) ?_
  refine W.load (b:=x2) (v:=vq) ?_
  refine B2G (X:=B1q×Int) (fun x _=>Grow s x.1 100000) (fun x _=>cells x1 #[.string x.1,.int .i64 x.2]::cells x2 C2::cells x3 #[.string (ByteArray.mk #[]),.int .i64 0]::old h0::L1) (fun K hK=>O2 (fun _=>?_) (fun _=>N0 (hK (t23,d23) () (by unfold Grow at*;simp only;omega)).sub)) (fun x _ hx=>?_)
  ·refine O1 (b:=x1) (v:=(t23,d23,())) ?_
   refine W.load (b:=x2) (v:=vi) ?_
   refine O6 (C1n (s:=t23) (c:=d23) (by unfold Grow at*;omega) fun t24 d24 g24=>At.un (x:=(t24,d24,())) ?_)
   refine P4 (b:=x1) ?_
   exact N0 (hK (t24,d24) () (by unfold Grow at*;simp only;omega)).sub
  obtain⟨t25,d25⟩:=x
  dsimp only at hx⊢
  have kV:=hx
  clear hx
  refine O1 (b:=x1) (v:=(t25,d25,())) ?_
  refine W.load (b:=x2) (v:=s9) ?_
  refine O6 (A08 (s:=t25) (c:=d25) dY zp lp (by unfold Grow at*;omega) fun t26 d26 sX=>At.un (x:=(t26,d26,())) ?_)
  refine P4 (b:=x1) ?_
  refine O1 (b:=x1) (v:=(t26,d26,())) ?_
  refine W.load (b:=x2) (v:=vp) ?_
  refine O6 (B1p (s:=t26) (t:=vp) (c:=d26) (d:=0) (by unfold Grow at*;omega) fun dz=>At.un (x:=(t26++vp,dz,())) ?_)
  refine P4 (b:=x3) ?_
  refine O1 (b:=x3) (v:=(t26++vp,dz,())) ?_
  exact N0 (hq (t26++vp) dz (by unfold Grow at*;rw[E1];omega)).sub
 refine A5H (fun _=>True) (fun K hK=>?_) (fun nZ _=>?_)
 ·repeat' (first|exact N0 (hK _ trivial)|refine O2 (fun _=>?_) (fun _=>?_)|refine A3a (fun _=>?_) (fun _=>?_)|refine Z9 ?_|refine X6 ?_)
 refine O2 (fun _=>?_) (fun _=>?_)
 ·refine O1 (b:=x1) (v:=(s,c,())) ?_
  refine W.load (b:=x2) (v:=vi) ?_
  refine O6 (C1n (s:=s) (c:=c) (by omega) fun t1 d1 g1=>At.un (x:=(t1,d1,())) ?_)
  refine P4 (b:=x1) ?_
  refine O1 (b:=x1) (v:=(t1,d1,())) ?_
  refine O1 (b:=x2) (v:=(vk,vd,vr,vq,vi,vt,vp,vc,s8,s9,aK,aG,aF,ax,aZ,bd,aL,ba,au,ay,aA,vu,aE,aD,ar,aq,())) ?_
  refine O6 (C0D (s:=t1) (c:=d1) (p:=(vk,vd,vr,vq,vi,vt,vp,vc,s8,s9,aK,aG,aF,ax,aZ,bd,aL,ba,au,ay,aA,vu,aE,aD,ar,aq,())) hp (by unfold Grow at*;omega) fun t d g=>At.un (x:=(t,d,())) ?_)
  refine P4 (b:=x3) ?_
  refine O1 (b:=x3) (v:=(t,d,())) ?_
  exact N0 (hq t d (by unfold Grow at*;omega)).sub
 refine A5H (fun _=>True) (fun K hK=>?_) (fun nZ _=>?_)
 ·repeat' (first|exact N0 (hK _ trivial)|refine O2 (fun _=>?_) (fun _=>?_)|refine A3a (fun _=>?_) (fun _=>?_)|refine Z9 ?_|refine X6 ?_)
 refine O2 (fun _=>?_) (fun _=>?_)
 ·refine O1 (b:=x1) (v:=(s,c,())) ?_
  refine O1 (b:=x2) (v:=(vk,vd,vr,vq,vi,vt,vp,vc,s8,s9,aK,aG,aF,ax,aZ,bd,aL,ba,au,ay,aA,vu,aE,aD,ar,aq,())) ?_
  refine O6 (C0D (s:=s) (c:=c) (p:=(vk,vd,vr,vq,vi,vt,vp,vc,s8,s9,aK,aG,aF,ax,aZ,bd,aL,ba,au,ay,aA,vu,aE,aD,ar,aq,())) hp (by omega) fun t d g=>At.un (x:=(t,d,())) ?_)
  refine P4 (b:=x3) ?_
  refine O1 (b:=x3) (v:=(t,d,())) ?_
  exact N0 (hq t d (by unfold Grow at*;omega)).sub
 refine A5H (fun _=>True) (fun K hK=>?_) (fun nZ _=>?_)
 ·repeat' (first|exact N0 (hK _ trivial)|refine O2 (fun _=>?_) (fun _=>?_)|refine A3a (fun _=>?_) (fun _=>?_)|refine Z9 ?_|refine X6 ?_)
 refine O2 (fun _=>?_) (fun _=>?_)
 ·refine O1 (b:=x1) (v:=(s,c,())) ?_
  refine O1 (b:=x2) (v:=(vk,vd,vr,vq,vi,vt,vp,vc,s8,s9,aK,aG,aF,ax,aZ,bd,aL,ba,au,ay,aA,vu,aE,aD,ar,aq,())) ?_
  refine O6 (B94 (s:=s) (c:=c) (p:=(vk,vd,vr,vq,vi,vt,vp,vc,s8,s9,aK,aG,aF,ax,aZ,bd,aL,ba,au,ay,aA,vu,aE,aD,ar,aq,())) hp (by omega) fun t d g=>At.un (x:=(t,d,())) ?_)
  refine P4 (b:=x3) ?_
  refine O1 (b:=x3) (v:=(t,d,())) ?_
  exact N0 (hq t d (by unfold Grow at*;omega)).sub
 refine O1 (b:=x1) (v:=(s,c,())) ?_
 refine P4 (b:=x3) ?_
 refine O1 (b:=x3) (v:=(s,c,())) ?_
 exact N0 (hq s c Grow.rfl).sub
theorem C1X{p:Pk}{pl wl:List X3}{cl:List Int}{sl:List A5I}{fl:List B1q}(hp:Pk5 h0 p pl wl cl sl fl)(hq:∀(t:B1q) (c:Int),t.size≤1000000000000→At (old h0::L1) (Q (.tuple #[.string t,.int .i64 c])))(hx:Has L (old h0) L1:=by repeat first|with_reducible exact Q9|apply Q8):
  FW prog 18 #[B1M .i64 p] L Q:=by
 refine fun h hs=>A7y p h Q ((?_:W (old h0::L1) _ _) h (hx.s hs))
 clear hs h hx
 obtain⟨vk,vd,vr,vq,vi,vt,vp,vc,s8,s9,aK,aG,aF,ax,aZ,bd,aL,ba,au,ay,aA,vu,aE,aD,ar,aq,⟨⟩⟩:=p
 delta B0Q az bn ci g0 ie ji jt nw pu sn ve vi wi
 refine P2 fun x1=>?_
 refine A5H (fun _=>True) (fun K hK=>?_) (fun x4 _=>?_)
 ·refine W.load (b:=x1) (v:=vk) ?_
  refine O2 (fun _=>N0 (hK _ trivial)) (fun _=>W.load (b:=x1) (v:=vk) (N0 (hK _ trivial)))
 refine O2 (fun _=>N0 (hq (ByteArray.mk #[]) 129 (by decide)).sub) (fun _=>?_)
 refine O1 (b:=x1) (v:=(vk,vd,vr,vq,vi,vt,vp,vc,s8,s9,aK,aG,aF,ax,aZ,bd,aL,ba,au,ay,aA,vu,aE,aD,ar,aq,())) ?_
 refine O6 (C1R (s:=ByteArray.mk #[]) (c:=0) (p:=(vk,vd,vr,vq,vi,vt,vp,vc,s8,s9,aK,aG,aF,ax,aZ,bd,aL,ba,au,ay,aA,vu,aE,aD,ar,aq,())) hp (by decide) fun t d g=>At.un (x:=(t,d,())) ?_)
 have g:t.size≤500000000000:=by have:(ByteArray.mk #[]).size=0:=rfl;unfold Grow at g;omega
 refine P2 fun x7=>?_
 refine P4 (b:=x7) ?_
 refine W.load (b:=x7) (v:=d) ?_
 refine O2 (fun _=>W.load (b:=x7) (v:=d) (N0 (hq (ByteArray.mk #[]) d (by decide)).sub)) (fun _=>?_)
 refine W.load (b:=x7) (v:=t) ?_
 refine O2 (fun _=>N0 (hq (ByteArray.mk #[]) 149 (by decide)).sub) (fun _=>?_)
 refine O1 (b:=x1) (v:=(vk,vd,vr,vq,vi,vt,vp,vc,s8,s9,aK,aG,aF,ax,aZ,bd,aL,ba,au,ay,aA,vu,aE,aD,ar,aq,())) ?_
 refine O6 (B97 (p:=(vk,vd,vr,vq,vi,vt,vp,vc,s8,s9,aK,aG,aF,ax,aZ,bd,aL,ba,au,ay,aA,vu,aE,aD,ar,aq,())) fun k=>At.un (x:=k) ?_)
 refine W.load (b:=x1) (v:=vk) ?_
 refine k9 (A3k (w:=1) (.inl rfl) fun u e hu=>At.bI (x:=(u,e,())) ?_)
 refine W.load (b:=x7) (v:=t) ?_
 refine k9 (A71 fun u2 e2 kI=>At.bI (x:=(u2,e2,())) ?_)
 dsimp only
 refine W6 ?_ (by omega)
 refine W.load (b:=x7) (v:=t) ?_
 refine W6 ?_ (by rw[E1];omega)
 exact N0 (hq ((u++u2)++t) 0 (by simp only[E1];omega)).sub
end
section
open Go.H Go.Proofs
variable {h h0:Heap} {L L' L1 L2 L3 R:List Asn} {Q:Value→Heap→Prop}
instance:Enc S0 6:=⟨B2q,C0c,by decide⟩
theorem B87{γ β:Type}{enc:γ→C3E}{size:Nat}(k:Nat){s s2:Slc}{xs:List γ}{f:Slc→HM β}{Q':β→Heap→Prop}(hr:P6 enc size h0 s xs)(hw:∀s',P6 enc size h0 s' (xs.take k)→W L (f s') Q')(hs:s2=s:=by rfl):
  W L (HM.bind (HM.slice s none (some (if(k:Int)<(((s2.len:Nat):Int):Int) then(k:Int) else((s2.len:Nat):Int))) none size) f) Q':=by
 subst hs
 have hl:=hr.1
 by_cases hk:k<xs.length
 ·rw[if_pos (by omega)]
  exact B6l (n:=k) hr (by omega) hw
 ·rw[if_neg (by omega)]
  have e:xs.take k=xs.take xs.length:=by rw[D7 (by omega),K4]
  refine B6l (n:=xs.length) hr (B5 _) (fun s' bf=>hw s' (by rw[e];exact bf)) (by rw[hl])
abbrev vRl(r:B1q×Int×Int×B1q×B1q×Unit):Value:=.agg #[.string r.1,.int .i64 r.2.1,.int .i64 r.2.2.1,.string r.2.2.2.1,.string r.2.2.2.2.1]
theorem C02{r:B1q×Int×Int×B1q×B1q×Unit}(hq:At L (Q (.tuple #[vRl r,vRl r]))):FW prog 16 #[vRl r] L Q:=by
 obtain⟨a,b,c,d,e,⟨⟩⟩:=r
 refine fun h hs=>A6b (a,b,c,d,e,()) h Q ((?_:W L _ _) h hs)
 clear hs h
 delta A9e az g3 ji jt nw pu rq sn vi
 refine P2 fun x1=>?_
 refine P2 fun x2=>?_
 refine P2 fun x3=>?_
 refine W.load (b:=x1) (v:=a) ?_
 refine W.load (b:=x1) (v:=b) ?_
 refine W.load (b:=x1) (v:=c) ?_
 refine W.load (b:=x1) (v:=d) ?_
 refine W.load (b:=x1) (v:=e) ?_
 refine O1 (b:=x1) (v:=(a,b,c,d,e,())) ?_
 refine P4 (b:=x2) ?_
 refine O1 (b:=x1) (v:=(a,b,c,d,e,())) ?_
 refine W6 ?_ rfl
 refine P4 (b:=x3) ?_
 refine O1 (b:=x2) (v:=(a,b,c,d,e,())) ?_
 refine O1 (b:=x3) (v:=(a,b,c,d,e,())) ?_
 exact N0 hq.sub
abbrev vCf(id:Int)(S:Slc)(aJ tags:Int):Value:=.agg #[.int .i64 id,.slice S.a S.len S.cap,.int .i64 aJ,.int .i64 tags]
theorem C0e{id aJ tags:Int}{S:Slc}{ls:List Z6}(hr:P6 S0 6 h0 S ls)
  (hq:∀K1 K2:Slc,At (N4 S0 6 K1 (ls.take 20)::N4 S0 6 K2 (ls.take 20)::old h0::L1) (Q (.tuple #[vCf id K1 aJ tags,vCf id K2 aJ tags])))(hx:Has L (old h0) L1:=by repeat first|with_reducible exact Q9|apply Q8):
  FW prog 4 #[vCf id S aJ tags] L Q:=by
 refine fun h hs=>A5d (id,S,aJ,tags,()) h Q ((?_:W (old h0::L1) _ _) h (hx.s hs))
 clear hs h hx
 let Cc:Slc→C3D:=fun K=>#[.int .i64 id,.slice K.a K.len K.cap,.int .i64 aJ,.int .i64 tags]
 delta A66 ad az bn g3 g4 ie ix jc ji nw pu rq sn sw ve vi vs vz w5 wi
 refine P2 fun x1=>?_
 refine W.cells (b:=x1) (Cc S) ?_
 refine P2 fun x2=>?_
 refine P2 fun x3=>?_
 refine W.load (b:=x1) (v:=id) ?_
 refine W.load (b:=x1) (v:=aJ) ?_
 refine W.load (b:=x1) (v:=tags) ?_
 refine P2 fun x7=>?_
 refine P4 (b:=x7) ?_
 refine W.cells (b:=x7) (Cc Q5) ?_
 refine W.load (b:=x1) (v:=id) ?_
 refine W.load (b:=x1) (v:=aJ) ?_
 refine W.load (b:=x1) (v:=tags) ?_
 refine P2 fun dp=>?_
 refine P4 (b:=dp) ?_
 refine W.cells (b:=dp) (Cc Q5) ?_
 refine W.load (b:=x1) (v:=S) ?_
 refine W.load (b:=x1) (v:=S) ?_
 refine B87 20 hr (fun s' bf=>?_)
 have rP:(ls.take 20).length≤20:=I5 _ _
 generalize ls.take 20=xs at bf hq rP
 refine B0h S0 6 (xs.take 0) ?_
 refine B0h S0 6 (xs.take 0) ?_
 refine W.loop (γ:=Nat×Slc×Slc) (fun g s=>s.1=(g.1:Int)∧g.1≤xs.length) (fun g s=>cells x7 (Cc g.2.1)::cells dp (Cc g.2.2)::N4 S0 6 g.2.1 (xs.take g.1)::N4 S0 6 g.2.2 (xs.take g.1)::cells x1 (Cc S)::cells x2 zS4::cells x3 zS4::old h0::L1)
  (fun g=>xs.length-g.1) (0,Q5,Q5) ⟨rfl,E9 _⟩ ?_ ?_
 ·show Sub _ (cells x7 (Cc Q5)::cells dp (Cc Q5)::N4 S0 6 Q5 (xs.take 0)::N4 S0 6 Q5 (xs.take 0)::cells x1 (Cc S)::cells x2 zS4::cells x3 zS4::old h0::L1)
  repeat(first|with_reducible exact M4|with_reducible exact M5|refine M6 (by repeat first|with_reducible exact Q9|apply Q8) ?_|refine M7 ?_)
 rintro⟨i,K1,K2⟩ s ⟨hi,dT⟩ K k1 k2
 simp only at hi dT
 by_cases af:i<xs.length
 ·refine o4 (by rw[hi,bf.1];exact decide_eq_true (by omega)) ?_
  have bH:xs[i]? =some xs[i]:=B2 af
  have cO:xs.take (i+1)=xs.take i++[xs[i]]:=E4 af
  generalize xs[i]=u at bH cO
  have hb:((xs.take i).length+1)*72≤140737488355328:=by simp only[E2];omega
  have hn:∀T1 T2:Slc,At (cells x7 (Cc T1)::cells dp (Cc T2)::N4 S0 6 T1 (xs.take i++[u])::N4 S0 6 T2 (xs.take i++[u])::cells x1 (Cc S)::cells x2 zS4::cells x3 zS4::old h0::L1) (K (.inl (IntKind.wrap .i64 (s.1+1),()))):=fun T1 T2=>by
   have:=k1 (i+1,T1,T2) (IntKind.wrap .i64 (s.1+1),()) (by simp only;omega) ⟨by simp only[hi];rw[O8 (by omega) (by omega)];rfl,af⟩
   simp only[cO] at this
   exact this
  clear k1 k2 hq
  obtain⟨ua,ub,uc,ud,ue,uf,⟨⟩⟩:=u
  refine A3b bf af (fun a ha=>?_) (he:=hi)
  refine B7x (v:=(ua,ub,uc,ud,ue,uf,())) bf ha bH ?_
  refine P2 fun iX=>?_
  refine P4 (b:=iX) ?_
  refine C3v (b:=iX) (i:=1) (v:=(ub,uc,ud,ue,uf,())) ?_
  refine k9 (C02 (r:=(ub,uc,ud,ue,uf,())) (At.bI (x:=((ub,uc,ud,ue,uf,()),(ub,uc,ud,ue,uf,()),())) ?_))
  refine P2 fun kZ=>?_
  refine P2 fun dW=>?_
  refine P4 (b:=kZ) ?_
  refine P4 (b:=dW) ?_
  refine W.load (b:=x7) (v:=K1) ?_
  refine W.load (b:=iX) (v:=ua) ?_
  refine O1 (b:=kZ) (v:=(ub,uc,ud,ue,uf,())) ?_
  refine W.load (b:=dp) (v:=K2) ?_
  refine W.load (b:=iX) (v:=ua) ?_
  refine O1 (b:=dW) (v:=(ub,uc,ud,ue,uf,())) ?_
  repeat' (first
   |refine W6 ?_ rfl
   |with_reducible refine A6z ?_ ?_
   |refine B2H (s:=K1) (enc:=S0) (ua,ub,uc,ud,ue,uf,()) (fun T1=>?_) hb
   |refine B2H (s:=K2) (enc:=S0) (ua,ub,uc,ud,ue,uf,()) (fun T2=>?_) hb
   |refine W.load (b:=x7) (v:=K1) ?_
   |refine W.load (b:=dp) (v:=K2) ?_
   |refine W.load (b:=iX) (v:=ua) ?_
   |refine O1 (b:=kZ) (v:=(ub,uc,ud,ue,uf,())) ?_
   |refine O1 (b:=dW) (v:=(ub,uc,ud,ue,uf,())) ?_
   |refine P2 fun _=>?_)
  all_goals
   refine W.store (b:=x7) (cs':=Cc T1) ?_
   refine W.store (b:=dp) (cs':=Cc T2) ?_
   exact N0 (hn T1 T2).sub
 refine A2l (by rw[hi,bf.1];exact decide_eq_false (by omega)) (N0 (k2 _ _ ?_))
 have fD:i=xs.length:=by omega
 subst fD
 clear k1 k2
 rw[K4]
 refine O1 (b:=x7) (v:=(id,K1,aJ,tags,())) ?_
 refine O1 (b:=dp) (v:=(id,K2,aJ,tags,())) ?_
 refine P4 (b:=x2) ?_
 refine O1 (b:=dp) (v:=(id,K2,aJ,tags,())) ?_
 refine W6 ?_ rfl
 refine P4 (b:=x3) ?_
 refine O1 (b:=x2) (v:=(id,K1,aJ,tags,())) ?_
 refine O1 (b:=x3) (v:=(id,K2,aJ,tags,())) ?_
 exact N0 (hq K1 K2).sub
end
section
open Go.H Go.Proofs
structure PkQ where
 pk:Pk
 cl:List Int
 pl:List X3
 wl:List X3
 sl:List A5I
 fl:List B1q
structure PkG(top:Nat)(h:Heap)(x:PkQ):Prop where
 rows:C2Y h x.pk x.pl x.wl x.cl x.sl x.fl
 topic:x.pk.2.2.2.2.2.1.size≤top
 cZ:x.pk.2.2.2.2.2.2.1.size≤top
 dM:(x.pk.2.2.2.2.2.2.2.2.2.2.1).size≤top
 will:(x.pk.2.2.2.2.2.2.2.2.2.2.2.2.2.2.1).size≤top
 user:(x.pk.2.2.2.2.2.2.2.2.2.2.2.2.2.2.2.2.2.2.2.2.2.1).size≤top
 szp:∀p∈x.pl,p.2.2.1.size≤top∧p.2.2.2.size≤top
 szw:∀p∈x.wl,p.2.2.1.size≤top∧p.2.2.2.size≤top
 subs:∀s∈x.sl,s.1.size≤top
 fils:∀f∈x.fl,f.size≤top
abbrev B8K(x:PkQ):C3E:=A2H .u8 x.pk
structure EvQ where
 kind:Int
 at':Int
 sp:Slc
 ps:List PkQ
 sb:Slc
 bs:List B1q
 raw:B1q
structure EvG(top:Nat)(h:Heap)(x:EvQ):Prop where
 ps:P6 B8K 26 h x.sp x.ps
 pg:∀p∈x.ps,PkG top h p
 bs:P6 y5 1 h x.sb x.bs
 bg:∀b∈x.bs,b.size≤top
 raw:x.raw.size≤top
abbrev C2O(x:EvQ):C3E:=[.int .i64 x.kind,.int .i64 x.at',.slice x.sp.a x.sp.len x.sp.cap,.slice x.sb.a x.sb.len x.sb.cap,.string x.raw]
structure CfQ where
 id:Int
 sl:Slc
 ls:List Z6
 aJ:Int
 tags:Int
structure CfG(top:Nat)(h:Heap)(x:CfQ):Prop where
 ls:P6 S0 6 h x.sl x.ls
 sz:∀l∈x.ls,l.2.1.size≤top∧l.2.2.2.2.1.size≤top∧l.2.2.2.2.2.1.size≤top
abbrev C2P(x:CfQ):C3E:=[.int .i64 x.id,.slice x.sl.a x.sl.len x.sl.cap,.int .i64 x.aJ,.int .i64 x.tags]
variable {h h0:Heap} {L L' L1 L2 L3 R:List Asn} {Q:Value→Heap→Prop}
instance:Enc B8K 26:=⟨fun x=>B3Y .u8 x.pk,fun x=>B1h .u8 x.pk,by decide⟩
theorem B88{α:Type}{m:HM α}{Q:α→Heap→Prop}(hw:∀hc,sat hc L→W [old hc] m Q):W L m Q:=fun h hs=>hw h hs h (sat_old h)
theorem At.thaw{q:Heap→Prop}{hc:Heap}{R:List Asn}(hs:sat hc L)(hq:At L q):At (old hc::R) q:=fun h' ah=>hq h' (hs.grow fun k o ho=>ah.bJ ho)
abbrev C1M(s:B1q)(i:Int)(p:Pk):HM ((B1q×Int×Unit)⊕(B1q×Int×Unit)):=
 HM.bind (α:=(yS0)×(yS0)×Unit) (Q4 prog [.agg tS1,.agg tS0] 17 #[.agg (aS1 p)]) fun dW=>
 HM.bind (α:=Nat) (HM.new (.cells zS1 96)) fun kY=>
 HM.bind (α:=Nat) (HM.new (.cells zS0 103)) fun iK=>
 HM.bind (α:=Unit) (A0f ⟨kY,0,none⟩ (lS1 dW.1)) fun _=>
 HM.bind (α:=Unit) (A0f ⟨iK,0,none⟩ (lS0 dW.2.1)) fun _=>
 HM.bind (α:=yS0) (N5 tS0 ⟨iK,0,none⟩) fun pH=>
 HM.bind (α:=B1q×Int×Unit) (Q4 prog [.one .str,.one (.int .i64)] 18 #[.agg (aS0 pH)]) fun oa=>
 P7 (ByteArray.size s+ByteArray.size oa.1≤9223372036854775807)<|
 O9 (.inl (s++oa.1,IntKind.wrap .i64 (i+1),()))
theorem B3U{hc:Heap}{L:List Asn}{s:B1q}{i:Int}{x:PkQ}{Q:((B1q×Int×Unit)⊕(B1q×Int×Unit))→Heap→Prop}(hx:PkG 1048576 hc x)(hs:sat hc L)(hz:s.size≤8000000000000000000)
  (hq:∀t:B1q,t.size≤s.size+1000000000000→At L (Q (.inl (t,IntKind.wrap .i64 (i+1),())))):W [old hc] (C1M s i x.pk) Q:=by
 obtain⟨p,cl,pl,wl,sl,fl⟩:=x
 obtain⟨hr,z1,z2,z3,z4,z5,zp,zw,zs,zf⟩:=hx
 dsimp only at hr z1 z2 z3 z4 z5 zp zw zs zf⊢
 obtain⟨vk,vd,vr,vq,vi,vt,vp,vc,s8,s9,aK,aG,aF,ax,aZ,bd,aL,ba,au,ay,aA,vu,aE,aD,ar,aq,⟨⟩⟩:=p
 dsimp only at z1 z2 z3 z4 z5
 refine k9 (B6V hr rfl fun c1 c2 p1 p2 w1 w2 s1 s2 f1 f2 eB iz=>At.bI (x:=((vk,vd,vr,vq,vi,vt,vp,vc,c1,p1,aK,aG,aF,ax,aZ,bd,aL,ba,w1,ay,aA,vu,aE,aD,s1,f1,()),(vk,vd,vr,vq,vi,vt,vp,IntKind.wrap .i64 vc,c2,p2,aK,aG,aF,ax,aZ,bd,aL,ba,w2,ay,aA,vu,aE,aD,s2,f2,()),())) ?_)
 refine P2 fun kY=>?_
 refine P2 fun iK=>?_
 refine P4 (b:=kY) ?_
 refine P4 (b:=iK) ?_
 refine O1 (b:=iK) (v:=(vk,vd,vr,vq,vi,vt,vp,IntKind.wrap .i64 vc,c2,p2,aK,aG,aF,ax,aZ,bd,aL,ba,w2,ay,aA,vu,aE,aD,s2,f2,())) ?_
 refine W.sub (L':=[N4 Q6 4 p2 (pl.take 80),N4 Q6 4 w2 (wl.take 80),N4 (eKd .i64) 1 c2 eB,N4 Y2 5 s2 (sl.take 80),N4 y5 1 f2 (fl.take 80),old hc]) ?_
 refine B88 fun hd iO=>?_
 have r1:P6 Q6 4 hd p2 (pl.take 80):=iO.aI A78
 have r2:P6 Q6 4 hd w2 (wl.take 80):=(iO.re [1,0]).aI A78
 have r3:P6 (eKd .i64) 1 hd c2 eB:=(iO.re [2,0,1]).aI (B6f .i64)
 have r4:P6 Y2 5 hd s2 (sl.take 80):=(iO.re [3,0,1,2]).aI (fun _=>rfl)
 have r5:P6 y5 1 hd f2 (fl.take 80):=(iO.re [4,0,1,2,3]).aI (fun _=>rfl)
 have qq:=iO.re [5,0,1,2,3,4]
 refine k9 (C1X (p:=(vk,vd,vr,vq,vi,vt,vp,IntKind.wrap .i64 vc,c2,p2,aK,aG,aF,ax,aZ,bd,aL,ba,w2,ay,aA,vu,aE,aD,s2,f2,())) (pl:=pl.take 80) (wl:=wl.take 80) (cl:=eB) (sl:=sl.take 80) (fl:=fl.take 80)
  ⟨r1,r2,r3,r4,r5,z1,z2,z3,z4,z5,fun q hq=>zp q (E6 hq),fun q hq=>zw q (E6 hq),fun q hq=>zs q (E6 hq),fun q hq=>zf q (E6 hq),by rw[E2];omega,by rw[E2];omega⟩
  fun t c ht=>At.bI (x:=(t,c,())) ?_)
 refine W6 (N0 ?_) (by simp only;omega)
 have h1:=hq (s++t) (by rw[E1];omega)
 exact At.thaw qq (At.thaw hs h1)
end
section
open Go.H Go.Proofs
variable {h h0:Heap} {L L' L1 L2 L3 R:List Asn} {Q:Value→Heap→Prop}
theorem C1U{β:Type}(k:Nat){r r2:B1q}{f:B1q→HM β}{Q':β→Heap→Prop}(hw:∀t:B1q,t.size≤r.size→W L (f t) Q')(he:r2=r:=by rfl):
  W L (HM.bind (r7 r none (some (if(k:Int)<(((ByteArray.size r2:Nat):Int):Int) then(k:Int) else((ByteArray.size r2:Nat):Int)))) f) Q':=fun h hs=>by
 subst he
 rw[N2]
 refine⟨0,min k r2.size,?_,rfl,hw _ ?_ h hs⟩
 ·by_cases hk:k<r2.size
  ·rw[if_pos (by omega)]
   exact⟨by omega,by omega⟩
  ·rw[if_neg (by omega)]
   exact⟨by omega,by omega⟩
 ·rw[ByteArray.size_extract];omega
abbrev vEv(k a:Int)(s:B1q):Value:=.agg #[.int .i64 k,.int .i64 a,.string s]
theorem B8J{x:EvQ}(hg:EvG 1048576 h0 x)(hq:∀s:B1q,s.size≤5000000000000→At (old h0::L1) (Q (.tuple #[vEv x.kind x.at' s,vEv x.kind x.at' s])))(hx:Has L (old h0) L1:=by repeat first|with_reducible exact Q9|apply Q8):
  FW prog 5 #[.agg #[.int .i64 x.kind,.int .i64 x.at',.slice x.sp.a x.sp.len x.sp.cap,.slice x.sb.a x.sb.len x.sb.cap,.string x.raw]] L Q:=by
 obtain⟨kd,at',S,ps,B,bs,raw⟩:=x
 obtain⟨hr,hp,gj,oU,na⟩:=hg
 dsimp only at hr hp gj oU na hq⊢
 refine fun h hs=>A4m (kd,at',S,B,raw,()) h Q ((?_:W (old h0::L1) _ _) h (hx.s hs))
 clear hs h hx
 delta A5c az bn es g0 B7a ie ix jc ji jt lt nw pu rq sn sw ve vi vs wi
 let C1:C3D:=#[.int .i64 kd,.int .i64 at',.slice S.a S.len S.cap,.slice B.a B.len B.cap,.string raw]
 let Z:C3D:=#[.int .i64 0,.int .i64 0,.string (ByteArray.mk #[])]
 refine P2 fun x1=>?_
 refine W.cells (b:=x1) C1 ?_
 refine P2 fun x2=>?_
 refine P2 fun x3=>?_
 refine W.load (b:=x1) (v:=S) ?_
 refine W.load (b:=x1) (v:=S) ?_
 refine B87 4 hr (fun s' bf=>?_)
 have h4:(ps.take 4).length≤4:=I5 _ _
 have cm:∀p∈ps.take 4,PkG 1048576 h0 p:=fun p hm=>hp p (E6 hm)
 generalize ps.take 4=xs at bf h4 cm
 refine W.loop (γ:=Nat) (fun g s=>s.2.1=(g:Int)∧g≤xs.length∧s.1.size≤g*1000000000000) (fun _ _=>cells x1 C1::cells x2 Z::cells x3 Z::old h0::L1) (fun g=>xs.length-g) 0 ⟨rfl,E9 _,B5 _⟩ ?_ ?_
 ·show Sub _ (cells x1 C1::cells x2 Z::cells x3 Z::old h0::L1)
  repeat(first|with_reducible exact M4|with_reducible exact M5|refine M6 (by repeat first|with_reducible exact Q9|apply Q8) ?_|refine M7 ?_)
 rintro i ⟨t,d,⟨⟩⟩ ⟨hd,hi,ht⟩ K k1 k2
 simp only at hd hi ht
 subst hd
 dsimp only
 by_cases af:i<xs.length
 ·refine o4 (by rw[bf.1];exact decide_eq_true (by omega)) ?_
  have bH:xs[i]? =some xs[i]:=B2 af
  have kM:=cm xs[i] (I6 af)
  generalize xs[i]=u at bH kM
  have hn:∀t2:B1q,t2.size≤t.size+1000000000000→At (cells x1 C1::cells x2 Z::cells x3 Z::old h0::L1) (K (.inl (t2,IntKind.wrap .i64 ((i:Int)+1),()))):=fun t2 h2=>
   k1 (i+1) _ (by omega) ⟨by simp only;rw[O8 (by omega) (by omega)];rfl,af,by simp only;omega⟩
  clear k1 k2 hq
  obtain⟨p,cl,pl,wl,sl,fl⟩:=u
  obtain⟨qp,z1,z2,z3,z4,z5,zp,zw,zs,zf⟩:=kM
  obtain⟨vk,vd,vr,vq,vi,vt,vp,vc,s8,s9,aK,aG,aF,ax,aZ,bd,aL,ba,au,ay,aA,vu,aE,aD,ar,aq,⟨⟩⟩:=p
  obtain⟨g9,g18,g8,g24,kV⟩:=qp
  dsimp only at g9 g18 g8 g24 kV z1 z2 z3 z4 z5 zp zw zs zf
  refine A3b bf af (fun a ha=>?_)
  refine B7x (v:=(vk,vd,vr,vq,vi,vt,vp,vc,s8,s9,aK,aG,aF,ax,aZ,bd,aL,ba,au,ay,aA,vu,aE,aD,ar,aq,())) bf ha bH ?_
  refine P2 fun dp=>?_
  refine P4 (b:=dp) ?_
  let C11:Int→Int→Slc→C3D:=fun k q sp=>#[.int .i64 k,.bool vd,.bool vr,.int .i64 q,.int .i64 vi,.string vt,.string vp,.int .u8 vc,.slice s8.a s8.len s8.cap,.slice sp.a sp.len sp.cap,.string aK,.bool aG,.int .i64 aF,.bool ax,.string aZ,.string bd,.int .i64 aL,.bool ba,.slice au.a au.len au.cap,.bool ay,.bool aA,.string vu,.string aE,.bool aD,.slice ar.a ar.len ar.cap,.slice aq.a aq.len aq.cap]
  refine W.cells (b:=dp) (C11 vk vq s9) ?_
  refine A5H (fun b=>b.1=true→i<bs.length) (fun K2 ee=>?_) (fun b hb=>?_)
  ·refine W.load (b:=x1) (v:=B) ?_
   refine O2 (fun hl=>?_) (fun _=>N0 (ee _ (fun e=>by cases e)))
   have hl:=of_decide_eq_true hl
   have cD:i<bs.length:=by rw[←gj.1];omega
   refine W.load (b:=x1) (v:=B) ?_
   refine A3b gj cD (fun a2 gk=>?_)
   refine B7w (x:=bs[i]) (v:=bs[i]) gj gk (B2 cD) ?_
   exact N0 (ee _ (fun _=>cD))
  refine A3a (fun bl=>?_) (fun _=>Z9 ?_)
  ·have cD:=hb bl
   have oe:=oU bs[i] (I6 cD)
   refine X6 (W.store (b:=dp) (cs':=C11 3 vq s9) ?_)
   refine X6 (W.store (b:=dp) (cs':=C11 3 1 s9) ?_)
   refine X6 (W.load (b:=x1) (v:=B) ?_)
   refine X6 (A3b gj cD (fun a2 gk=>?_))
   refine X6 (B7w (x:=bs[i]) (v:=bs[i]) gj gk (B2 cD) ?_)
   generalize bs[i]=lb at oe
   refine X6 (P2 fun bE=>?_)
   refine X6 (W.store (b:=dp) (cs':=C11 3 1 ⟨some ⟨bE,0,none⟩,1,1⟩) ?_)
   refine Z9 ?_
   refine O1 (b:=dp) (v:=(3,vd,vr,1,vi,vt,vp,vc,s8,⟨some ⟨bE,0,none⟩,1,1⟩,aK,aG,aF,ax,aZ,bd,aL,ba,au,ay,aA,vu,aE,aD,ar,aq,())) ?_
   refine W.sub (L':=cells bE #[.int .i64 38,.int .i64 0,.string (ByteArray.mk #[116,97,103]),.string lb]::old h0::cells x1 C1::cells x2 Z::cells x3 Z::L1) ?_
   refine B88 fun hc fL=>?_
   have ho:sat hc (old h0::_):=fL.p1
   have mR:sat hc (N4 Q6 4 ⟨some ⟨bE,0,none⟩,1,1⟩ [(38,0,ByteArray.mk #[116,97,103],lb)]::_):=W8 (o:=0) ⟨rfl,B5 _,rfl,B5 _,rfl⟩ fL
   refine B3U (x:=⟨(3,vd,vr,1,vi,vt,vp,vc,s8,⟨some ⟨bE,0,none⟩,1,1⟩,aK,aG,aF,ax,aZ,bd,aL,ba,au,ay,aA,vu,aE,aD,ar,aq,()),cl,[(38,0,ByteArray.mk #[116,97,103],lb)],wl,sl,fl⟩) ⟨⟨mR.aI A78,g18.old ho,g8.old ho,g24.old ho,kV.old ho⟩,z1,z2,z3,z4,z5,fun q hq=>by rw[B4.1 hq];exact⟨(show(ByteArray.mk #[116,97,103]).size≤1048576 by decide),oe⟩,zw,zs,zf⟩ fL (by omega) fun t2 h2=>?_
   exact(hn t2 h2).sub
  ·refine O1 (b:=dp) (v:=(vk,vd,vr,vq,vi,vt,vp,vc,s8,s9,aK,aG,aF,ax,aZ,bd,aL,ba,au,ay,aA,vu,aE,aD,ar,aq,())) ?_
   refine W.sub (L':=old h0::cells x1 C1::cells x2 Z::cells x3 Z::L1) ?_
   refine B88 fun hc fL=>?_
   refine B3U (x:=⟨(vk,vd,vr,vq,vi,vt,vp,vc,s8,s9,aK,aG,aF,ax,aZ,bd,aL,ba,au,ay,aA,vu,aE,aD,ar,aq,()),cl,pl,wl,sl,fl⟩) ⟨⟨g9.old fL,g18.old fL,g8.old fL,g24.old fL,kV.old fL⟩,z1,z2,z3,z4,z5,zp,zw,zs,zf⟩ fL (by omega) fun t2 h2=>?_
   exact(hn t2 h2).sub
 refine A2l (by rw[bf.1];exact decide_eq_false (by omega)) (N0 (k2 _ _ ?_))
 clear k1 k2
 dsimp only
 refine W.load (b:=x1) (v:=raw) ?_
 refine W.load (b:=x1) (v:=raw) ?_
 refine C1U 2000 (fun r kL=>?_)
 refine W6 ?_ (by omega)
 refine W.load (b:=x1) (v:=kd) ?_
 refine W.load (b:=x1) (v:=at') ?_
 refine W.load (b:=x1) (v:=kd) ?_
 refine W.load (b:=x1) (v:=at') ?_
 refine P4 (b:=x2) ?_
 refine W.load (b:=x1) (v:=at') ?_
 refine W6 ?_ rfl
 refine W.load (b:=x1) (v:=kd) ?_
 refine W6 ?_ rfl
 refine P4 (b:=x3) ?_
 refine O1 (b:=x2) (v:=(kd,at',t++r,())) ?_
 refine O1 (b:=x3) (v:=(kd,at',t++r,())) ?_
 exact N0 (hq (t++r) (by rw[E1];omega)).sub
end
section
open Go.H Go.Proofs
variable {h h0:Heap} {L L' L1 L2 L3 R:List Asn} {Q:Value→Heap→Prop}
def okC(id:Int)(ls:List Z6)(aJ tags:Int):Bool:=A0D ⟨id,1,[],ls⟩&&decide (1≤aJ∧aJ≤32∧1≤tags∧tags≤65536)
def B1k(b:Bool):Int:=match b with|true=>0|false=>128
theorem C1T{id:Int}{K:Slc}{ls:List Z6}(ht:TP h0)(hz:∀l∈ls,szR l.2)(hq:∀s,At (N4 S0 6 K ls::old h0::L1) (Q (.tuple #[.string s,.int .u8 (match A0D ⟨id,1,[],ls⟩ with|true=>0|false=>129)])))(hx:Has L (N4 S0 6 K ls) L2:=by repeat first|with_reducible exact Q9|apply Q8)(hy:Has L2 (old h0) L1:=by repeat first|with_reducible exact Q9|apply Q8):
  FW prog 36 #[.agg #[.int .i64 id,.int .i64 1,.slice none 0 0,.slice K.a K.len K.cap]] L Q:=fun h hs=>by
 have h1:sat h (N4 eS 1 Q5 []::N4 S0 6 K ls::old h0::L1):=A0z ((hx.then hy).s hs)
 refine B9c (a:=⟨id,1,[],ls⟩) (sf:=Q5) (sl:=K) h1 ht ⟨(fun f hf=>by cases hf),hz⟩ fun h' ah=>?_
 have h2:=fun s=>hq s h' ah.drop
 cases hg:A0D ⟨id,1,[],ls⟩ with
 |true=>rw[hg] at h2;rw[if_pos rfl];exact h2 _
 |false=>rw[hg] at h2;rw[if_neg (by decide)];exact h2 _
theorem B9W{id:Int}{K:Slc}{ls:List Z6}(hz:∀l∈ls,szR l.2)(hq:At (N4 S0 6 K ls::L1) (Q (.bool (A0D ⟨id,1,[],ls⟩))))(hx:Has L (N4 S0 6 K ls) L1:=by repeat first|with_reducible exact Q9|apply Q8):
  FW prog 35 #[.agg #[.int .i64 id,.int .i64 1,.slice none 0 0,.slice K.a K.len K.cap]] L Q:=fun h hs=>by
 have h1:sat h (N4 eS 1 Q5 []::N4 S0 6 K ls::L1):=A0z (hx.s hs)
 exact B46 (a:=⟨id,1,[],ls⟩) (sf:=Q5) (sl:=K) h1 ⟨(fun f hf=>by cases hf),hz⟩ fun h' ah=>hq h' ah.drop
theorem B3E{id aJ tags:Int}{K:Slc}{ls:List Z6}(ht:TP h0)(hz:∀l∈ls,szR l.2)(hq:At (N4 S0 6 K ls::old h0::L1) (Q (.int .u8 (B1k (okC id ls aJ tags)))))(hx:Has L (N4 S0 6 K ls) L2:=by repeat first|with_reducible exact Q9|apply Q8)(hy:Has L2 (old h0) L1:=by repeat first|with_reducible exact Q9|apply Q8):
  FW prog 15 #[vCf id K aJ tags] L Q:=by
 refine fun h hs=>A1c (id,K,aJ,tags,()) h Q ((?_:W (N4 S0 6 K ls::old h0::L1) _ _) h ((hx.then hy).s hs))
 clear hs h hx hy
 delta A0O bn ie jc ji nw pu vi vs vz
 refine P2 fun x1=>?_
 refine W.load (b:=x1) (v:=id) ?_
 refine W.load (b:=x1) (v:=K) ?_
 refine k9 (C1T ht hz fun s=>At.bI (x:=(s,_,())) ?_)
 refine A5H (fun x=>x.1= !okC id ls aJ tags) (fun Kq hK=>?_) (fun x hb=>?_)
 ·cases hg:A0D ⟨id,1,[],ls⟩ with
  |false=>exact o4 rfl (N0 (hK _ (by simp[okC,hg])))
  |true=>
   refine A2l rfl ?_
   refine W.load (b:=x1) (v:=aJ) ?_
   refine O2 (fun e1=>N0 (hK _ ?_)) (fun e1=>?_)
   ·have e1:=of_decide_eq_true e1
    simp[okC,hg];omega
   have e1:=E0 e1
   refine W.load (b:=x1) (v:=aJ) ?_
   refine O2 (fun e2=>N0 (hK _ ?_)) (fun e2=>?_)
   ·have e2:=of_decide_eq_true e2
    simp[okC,hg];omega
   have e2:=E0 e2
   refine W.load (b:=x1) (v:=tags) ?_
   refine O2 (fun e3=>N0 (hK _ ?_)) (fun e3=>?_)
   ·have e3:=of_decide_eq_true e3
    simp[okC,hg];omega
   have e3:=E0 e3
   refine W.load (b:=x1) (v:=tags) ?_
   refine N0 (hK _ ?_)
   simp only[okC,hg,F0]
   by_cases e4:65536<tags
   ·rw[decide_eq_true e4,decide_eq_false (by omega)];rfl
   ·rw[decide_eq_false e4,decide_eq_true (by omega)];rfl
 cases ho:okC id ls aJ tags with
 |true=>rw[ho] at hb hq;exact A2l hb (N0 hq.sub)
 |false=>rw[ho] at hb hq;exact o4 hb (N0 hq.sub)
theorem B78{id aJ tags:Int}{K:Slc}{ls:List Z6}(hz:∀l∈ls,szR l.2)(hq:At (N4 S0 6 K ls::L1) (Q (.int .i64 (B1k (okC id ls aJ tags)))))(hx:Has L (N4 S0 6 K ls) L1:=by repeat first|with_reducible exact Q9|apply Q8):
  FW prog 14 #[vCf id K aJ tags] L Q:=by
 refine fun h hs=>A4L (id,K,aJ,tags,()) h Q ((?_:W (N4 S0 6 K ls::L1) _ _) h (hx.s hs))
 clear hs h hx
 delta A6L bn cb ie jc ji nw pu vi vs vz
 refine P2 fun x1=>?_
 refine W.load (b:=x1) (v:=id) ?_
 refine W.load (b:=x1) (v:=K) ?_
 refine O6 (B9W hz (At.un (x:=A0D ⟨id,1,[],ls⟩) ?_))
 refine A5H (fun x=>x.1= !okC id ls aJ tags) (fun Kq hK=>?_) (fun x hb=>?_)
 ·cases hg:A0D ⟨id,1,[],ls⟩ with
  |false=>exact o4 rfl (N0 (hK _ (by simp[okC,hg])))
  |true=>
   refine A2l rfl ?_
   refine W.load (b:=x1) (v:=aJ) ?_
   refine O2 (fun e1=>N0 (hK _ ?_)) (fun e1=>?_)
   ·have e1:=of_decide_eq_true e1
    simp[okC,hg];omega
   have e1:=E0 e1
   refine W.load (b:=x1) (v:=aJ) ?_
   refine O2 (fun e2=>N0 (hK _ ?_)) (fun e2=>?_)
   ·have e2:=of_decide_eq_true e2
    simp[okC,hg];omega
   have e2:=E0 e2
   refine W.load (b:=x1) (v:=tags) ?_
   refine O2 (fun e3=>N0 (hK _ ?_)) (fun e3=>?_)
   ·have e3:=of_decide_eq_true e3
    simp[okC,hg];omega
   have e3:=E0 e3
   refine W.load (b:=x1) (v:=tags) ?_
   refine N0 (hK _ ?_)
   simp only[okC,hg,F0]
   by_cases e4:65536<tags
   ·rw[decide_eq_true e4,decide_eq_false (by omega)];rfl
   ·rw[decide_eq_false e4,decide_eq_true (by omega)];rfl
 cases ho:okC id ls aJ tags with
 |true=>rw[ho] at hb hq;exact A2l hb (N0 hq.sub)
 |false=>rw[ho] at hb hq;exact o4 hb (N0 hq.sub)
theorem C0V{w:Nat}(hw:A0c w)(hq:At L (Q (.bool true))):FW prog 120 #[.int .i64 w] L Q:=fun h hs=>B0s hw (hq h hs)
theorem B8e{w:Nat}{n:Int}(hw:A0c w)(hq:∀(s:B1q) (c:Int),s.size≤4→At L (Q (.tuple #[.string s,.int .u8 c]))):FW prog 62 #[.int .i64 w,.int .i64 n] L Q:=by
 by_cases hn:0≤n∧n<((256 ^ w:Nat):Int)
 ·obtain⟨N,rfl⟩:=F7 hn.1
  have mJ:=B7X hw
  exact fun h hs=>A4x hs hw (by omega) fun h' ah=>hq _ _ (by rw[A0q];omega) h' ah
 ·refine fun h hs=>A0u w n h Q ((?_:W L _ _) h hs)
  clear hs h
  delta A1t az bn cb ie nw pu vi wi
  refine O6 (C0V hw (At.un (x:=true) ?_))
  refine A2l rfl ?_
  refine A3a (fun _=>Z9 (o4 rfl (N0 (hq _ _ (by decide))))) (fun h1=>?_)
  have h1:=E0 h1
  refine B9a ?_ (C0r hw)
  refine Z9 ?_
  rw[C0s hw]
  exact o4 (by exact decide_eq_true (by omega)) (N0 (hq _ _ (by decide)))
abbrev eP2(x:Int×Int):C3E:=[.int .i64 x.1,.int .i64 x.2]
instance:Enc eP2 2:=⟨fun _=>rfl,fun x v hv=>by
 have:(eP2 x).all (fun v=>v.oneCell')=true:=rfl
 exact G6.1 this v hv,by decide⟩
theorem B9b{k a:Int}{s:B1q}(hz:s.size≤6000000000000)(hq:∀t:B1q,At L (Q (.string t))):FW prog 25 #[vEv k a s] L Q:=by
 refine fun h hs=>A44 (k,a,s,()) h Q ((?_:W L _ _) h hs)
 clear hs h
 delta A61 az bn ie ji jt li nw pu sn vi wi
 refine P2 fun x1=>?_
 refine A5H (fun _=>True) (fun K hK=>?_) (fun x5 _=>?_)
 ·refine W.load (b:=x1) (v:=k) ?_
  refine O2 (fun _=>N0 (hK _ trivial)) (fun _=>?_)
  refine W.load (b:=x1) (v:=k) ?_
  refine O2 (fun _=>N0 (hK _ trivial)) (fun _=>?_)
  refine W.load (b:=x1) (v:=a) ?_
  exact N0 (hK _ trivial)
 refine O2 (fun _=>N0 (hq _).sub) (fun _=>?_)
 refine W.load (b:=x1) (v:=a) ?_
 refine A5H (fun _=>True) (fun K hK=>?_) (fun x7 _=>?_)
 ·exact O2 (fun _=>N0 (hK _ trivial)) (fun _=>N0 (hK _ trivial))
 refine W.load (b:=x1) (v:=k) ?_
 refine W6 ?_ (by decide)
 generalize(Int.fdiv x7.2.1 (2 ^ (min (Int.toNat 32) (IntKind.bits .i64))))=hi
 generalize(A0e .and .i64 x7.2.1 4294967295)=lo
 generalize x7.1=sg
 refine P2 fun x9=>?_
 refine C2U (A:=N4 eP2 2 ⟨some ⟨x9,0,none⟩,4,4⟩ ([(1,k),(1,sg),(4,hi),(4,lo)]:List (Int×Int))) (B:=cells x9 #[.int .i64 1,.int .i64 k,.int .i64 1,.int .i64 sg,.int .i64 4,.int .i64 hi,.int .i64 4,.int .i64 lo]) (fun h hs=>W8 (o:=0) ⟨rfl,B5 _,rfl,B5 _,rfl⟩ hs) ?_
 refine W.loop (γ:=Nat) (fun g s=>s.2.1=(g:Int)∧g≤4∧s.1.size≤g*4) (fun _ _=>N4 eP2 2 ⟨some ⟨x9,0,none⟩,4,4⟩ ([(1,k),(1,sg),(4,hi),(4,lo)]:List (Int×Int))::cells x1 #[.int .i64 k,.int .i64 a,.string s]::L) (fun g=>4-g) 0 ⟨rfl,E9 _,B5 _⟩ ?_ ?_
 ·show Sub _ (N4 eP2 2 ⟨some ⟨x9,0,none⟩,4,4⟩ ([(1,k),(1,sg),(4,hi),(4,lo)]:List (Int×Int))::cells x1 #[.int .i64 k,.int .i64 a,.string s]::L)
  repeat(first|with_reducible exact M4|with_reducible exact M5|refine M6 (by repeat first|with_reducible exact Q9|apply Q8) ?_|refine M7 ?_)
 rintro i ⟨t,d,⟨⟩⟩ ⟨hd,sH,ht⟩ K k1 k2
 simp only at hd ht
 subst hd
 dsimp only
 refine O2 (fun hl=>?_) (fun hl=>N0 (k2 _ _ ?_))
 ·have hl:=of_decide_eq_true hl
  have cD:i<([(1,k),(1,sg),(4,hi),(4,lo)]:List (Int×Int)).length:=by show i<4;omega
  have bH:([(1,k),(1,sg),(4,hi),(4,lo)]:List (Int×Int))[i]? =some ([(1,k),(1,sg),(4,hi),(4,lo)]:List (Int×Int))[i]:=B2 cD
  have hw:∃w:Nat,A0c w∧(([(1,k),(1,sg),(4,hi),(4,lo)]:List (Int×Int))[i]).1=(w:Int):=by
   have qF:i=0∨i=1∨i=2∨i=3:=by omega
   rcases qF with rfl|rfl|rfl|rfl
   ·exact⟨1,.inl rfl,rfl⟩
   ·exact⟨1,.inl rfl,rfl⟩
   ·exact⟨4,.inr (.inr rfl),rfl⟩
   ·exact⟨4,.inr (.inr rfl),rfl⟩
  generalize([(1,k),(1,sg),(4,hi),(4,lo)]:List (Int×Int))[i]=u at bH hw
  obtain⟨w,p',hu⟩:=hw
  obtain⟨u1,u2⟩:=u
  have hu:u1=(w:Int):=hu
  subst hu
  refine B4g (s:=⟨some ⟨x9,0,none⟩,4,4⟩) cD (fun b hb=>?_)
  refine C3w (v:=((w:Int),u2,())) hb bH ?_
  refine P2 fun kD=>?_
  refine P4 (b:=kD) ?_
  refine X5 (b:=kD) (n:=2) (xs:=[(w:Int),u2]) ?_
  refine B4g (s:=⟨some ⟨kD,0,none⟩,2,2⟩) (xs:=[(w:Int),u2]) (enc:=eN) (i:=0) (Nat.zero_lt_succ 1) (fun b0 db=>?_)
  refine C0l (enc:=eN) (xs:=[(w:Int),u2]) db rfl (v:=(w:Int)) ?_
  refine B4g (s:=⟨some ⟨kD,0,none⟩,2,2⟩) (xs:=[(w:Int),u2]) (enc:=eN) (i:=1) (G4 1) (fun b1 bl=>?_)
  refine C0l (enc:=eN) (xs:=[(w:Int),u2]) bl rfl (v:=u2) ?_
  refine k9 (B8e p' fun y c hy=>At.bI (x:=(y,c,())) ?_)
  dsimp only
  refine W6 ?_ (by omega)
  refine N0 ((k1 (i+1) _ (by omega) ⟨by simp only;rw[O8 (by omega) (by omega)];rfl,by omega,by simp only[E1];omega⟩).sub)
 dsimp only
 refine W.load (b:=x1) (v:=s) ?_
 refine W6 ?_ (by omega)
 exact N0 (hq _).sub
theorem B16(hq:At L (Q (.pointer none))):FW prog 10 #[.pointer none] L Q:=by
 refine fun h hs=>A1E none h Q ((?_:W L _ _) h hs)
 delta A1a cp ie kp nn pu
 exact o4 rfl (N0 hq)
theorem B6Y(hq:At L (Q (.slice none 0 0))):FW prog 11 #[.pointer none] L Q:=by
 refine fun h hs=>A3F none h Q ((?_:W L _ _) h hs)
 delta A3T cc ie kp nn pu
 exact o4 rfl (N0 hq)
theorem A94(hq:At L (Q (.slice none 0 0))):FW prog 13 #[.pointer none] L Q:=by
 refine fun h hs=>A1b none h Q ((?_:W L _ _) h hs)
 delta A0N cc ie kp nn pu
 exact o4 rfl (N0 hq)
theorem B49{a:Int}(hq:At L (Q (.slice none 0 0))):FW prog 12 #[.pointer none,.int .i64 a] L Q:=by
 refine fun h hs=>A2x none a h Q ((?_:W L _ _) h hs)
 delta A2y bn cc ie km kp nn pu vi
 exact A9T rfl (Z9 (o4 rfl (N0 hq)))
abbrev B1N(b:Nat):Value:=.iface 159 (.pointer (some ⟨b,0,none⟩))
theorem B8j{k a:Int}{s:B1q}(hz:s.size≤6000000000000)(hq:∀(b:Nat) (t:B1q),At (cells b #[.int .u8 128,.string t,.nilIface]::L) (Q (.tuple #[.slice none 0 0,B1N b]))):FW prog 7 #[.pointer none,vEv k a s] L Q:=by
 refine fun h hs=>A4k none (k,a,s,()) h Q ((?_:W L _ _) h hs)
 clear hs h
 delta A45 az bn cc ct es ie jt kp nn nw pu vi
 refine P2 fun x1=>?_
 refine O1 (b:=x1) (v:=(k,a,s,())) ?_
 refine O6 (B9b hz fun t=>At.un (x:=t) ?_)
 refine A9T rfl (Z9 (o4 rfl ?_))
 refine O6 (B5p fun b=>At.un (x:=B1N b) ?_)
 exact N0 (hq b (ByteArray.mk #[101,118,101,110,116])).sub
theorem B48{id aJ tags:Int}{K:Slc}{ls:List Z6}(ht:TP h0)(hE:B0j h0)(hz:∀l∈ls,szR l.2)(hq:∀(b:Nat) (t:B1q) (v:Value),At (cells b #[.int .u8 128,.string t,v]::N4 S0 6 K ls::old h0::L1) (Q (.tuple #[.pointer none,B1N b])))(hx:Has L (N4 S0 6 K ls) L2:=by repeat first|with_reducible exact Q9|apply Q8)(hy:Has L2 (old h0) L1:=by repeat first|with_reducible exact Q9|apply Q8):
  FW prog 6 #[.pointer none,vCf id K aJ tags] L Q:=by
 refine fun h hs=>A7C none (id,K,aJ,tags,()) h Q ((?_:W (N4 S0 6 K ls::old h0::L1) _ _) h ((hx.then hy).s hs))
 clear hs h hx hy
 delta B0Z az bn cc cp cu es g4 ie ix lt nn nw pu sn sx ve vi wi
 refine P2 fun x1=>?_
 refine O1 (b:=x1) (v:=(id,K,aJ,tags,())) ?_
 refine O6 (B3E ht hz (At.un (x:=B1k (okC id ls aJ tags)) ?_))
 cases okC id ls aJ tags with
 |false=>
  dsimp only[B1k]
  refine o4 rfl ?_
  refine O6 (B5p fun b=>At.un (x:=B1N b) ?_)
  exact N0 (hq b (ByteArray.mk #[99,111,110,102,105,103]) .nilIface).sub
 |true=>
  refine A2l rfl ?_
  refine k9 (B5g hE fun b2 s v=>At.bI (x:=(none,ByteArray.mk #[],Q5,B1N b2,())) ?_)
  refine W6 ?_ rfl
  refine o4 rfl ?_
  refine O6 (B6c (b:=b2) (c:=128) (s:=s) (v:=v) hE fun b3=>At.un (x:=B1N b3) ?_)
  exact N0 (hq b3 (ByteArray.mk #[110,111,100,101]) (B1N b2)).sub
end
end Go.Proofs.YtmpgankhnfpoaaaGreatDoor
namespace Go.X
open Go.H
inductive XV where
 |int (k:IntKind) (n:Int)
 |bool (b:Bool)
 |str (s:B1q)
 |nptr
 |ptr (k o:Nat)
 |eptr (k o:Nat)
 |gptr (g o:Nat)
 |nslc
 |slc (k:Nat)
 |nmap
 |map (k:Nat)
 |agg (cs:List XV)
 |aQ (vs:List XV)
 |func (f:Nat) (first cap:List XV)
 |nfunc
 |niface
 |iface (t:Nat) (v:XV)
 deriving Inhabited
structure As where
 b:Nat→Nat
 s:Nat→Slc
 o:Heap
def A2Y(b o:Nat):Addr:=⟨b,o,none⟩
mutual
def val(β:As):XV→Value
 |.int k n=>.int k n
 |.bool b=>.bool b
 |.str s=>.string s
 |.nptr=>.pointer none
 |.ptr k o=>.pointer (some (A2Y (β.b k) o))
 |.eptr k o=>.pointer ((β.s k).a.map (·.add o))
 |.gptr g o=>.pointer (some (A2Y g o))
 |.nslc=>.slice none 0 0
 |.slc k=>.slice (β.s k).a (β.s k).len (β.s k).cap
 |.nmap=>.map none
 |.map k=>.map (some (β.b k))
 |.agg cs=>.agg (vals β cs).toArray
 |.aQ vs=>.tuple (vals β vs).toArray
 |.func f first cap=>.func (.func f) (vals β first).toArray (vals β cap).toArray
 |.nfunc=>.nilFunc
 |.niface=>.nilIface
 |.iface t v=>.iface t (val β v)
def vals(β:As):List XV→C3E
 |[]=>[]
 |v::vs=>val β v::vals β vs
end
theorem R1(β:As):∀l,vals β l=l.map (val β)
 |[]=>rfl
 |v::vs=>by rw[vals,R1 β vs];rfl
mutual
def clo(n:Nat):XV→Bool
 |.ptr k _=>Nat.blt k n
 |.eptr k _=>Nat.blt k n
 |.slc k=>Nat.blt k n
 |.map k=>Nat.blt k n
 |.agg cs=>S9 n cs
 |.aQ vs=>S9 n vs
 |.func _ first cap=>match S9 n first with
  |true=>S9 n cap
  |false=>false
 |.iface _ v=>clo n v
 |_=>true
def S9(n:Nat):List XV→Bool
 |[]=>true
 |v::vs=>match clo n v with
  |true=>S9 n vs
  |false=>false
end
structure Agr(n:Nat)(β γ:As):Prop where
 b:∀k,k<n→β.b k=γ.b k
 s:∀k,k<n→β.s k=γ.s k
 o:β.o=γ.o
theorem Agr.rfl{n:Nat}{β:As}:Agr n β β:=⟨fun _ _=>Eq.refl _,fun _ _=>Eq.refl _,Eq.refl _⟩
theorem Agr.trans{n m:Nat}{β γ δ:As}(h:Agr n β γ)(k:Agr m γ δ)(hn:n≤m):Agr n β δ:=
 ⟨fun i hi=>(h.b i hi).trans (k.b i (K8 hi hn)),fun i hi=>(h.s i hi).trans (k.s i (K8 hi hn)),h.o.trans k.o⟩
mutual
theorem A1u{n:Nat}{β γ:As}(h:Agr n β γ):∀v,clo n v=true→val β v=val γ v
 |.ptr k o,hc=>by simp only[val];rw[h.b k (by simpa[clo] using hc)]
 |.eptr k o,hc=>by simp only[val];rw[h.s k (by simpa[clo] using hc)]
 |.slc k,hc=>by simp only[val];rw[h.s k (by simpa[clo] using hc)]
 |.map k,hc=>by simp only[val];rw[h.b k (by simpa[clo] using hc)]
 |.agg cs,hc=>by simp only[val];rw[u7 h cs (by simpa[clo] using hc)]
 |.aQ cs,hc=>by simp only[val];rw[u7 h cs (by simpa[clo] using hc)]
 |.func f a b,hc=>by
  have dL:S9 n a=true∧S9 n b=true:=by
   simp only[clo] at hc
   cases ha:S9 n a<;>simp_all
  simp only[val];rw[u7 h a dL.1,u7 h b dL.2]
 |.iface t v,hc=>by simp only[val];rw[A1u h v (by simpa[clo] using hc)]
 |.int _ _,_=>rfl
 |.bool _,_=>rfl
 |.str _,_=>rfl
 |.nptr,_=>rfl
 |.gptr _ _,_=>rfl
 |.nslc,_=>rfl
 |.nmap,_=>rfl
 |.nfunc,_=>rfl
 |.niface,_=>rfl
theorem u7{n:Nat}{β γ:As}(h:Agr n β γ):∀l,S9 n l=true→vals β l=vals γ l
 |[],_=>rfl
 |v::vs,hc=>by
  have dL:clo n v=true∧S9 n vs=true:=by
   simp only[S9] at hc
   cases ha:clo n v<;>simp_all
  simp only[vals];rw[A1u h v dL.1,u7 h vs dL.2]
end
mutual
def xeq:XV→XV→Bool
 |.int k n,.int k' n'=>match A1e k k' with
  |true=>decide (n=n')
  |false=>false
 |.bool a,.bool b=>match a,b with
  |true,true=>true
  |false,false=>true
  |_,_=>false
 |.str a,.str b=>decide (a=b)
 |.nptr,.nptr=>true
 |.ptr k o,.ptr k' o'=>match Nat.beq k k' with
  |true=>Nat.beq o o'
  |false=>false
 |.eptr k o,.eptr k' o'=>match Nat.beq k k' with
  |true=>Nat.beq o o'
  |false=>false
 |.gptr k o,.gptr k' o'=>match Nat.beq k k' with
  |true=>Nat.beq o o'
  |false=>false
 |.nslc,.nslc=>true
 |.slc k,.slc k'=>Nat.beq k k'
 |.nmap,.nmap=>true
 |.map k,.map k'=>Nat.beq k k'
 |.agg a,.agg b=>A5L a b
 |.aQ a,.aQ b=>A5L a b
 |.func f a b,.func f' a' b'=>match Nat.beq f f' with
  |true=>match A5L a a' with
   |true=>A5L b b'
   |false=>false
  |false=>false
 |.nfunc,.nfunc=>true
 |.niface,.niface=>true
 |.iface t v,.iface t' v'=>match Nat.beq t t' with
  |true=>xeq v v'
  |false=>false
 |_,_=>false
def A5L:List XV→List XV→Bool
 |[],[]=>true
 |a::asZ,b::bs=>match xeq a b with
  |true=>A5L asZ bs
  |false=>false
 |_,_=>false
end
mutual
theorem A2n:∀a b,xeq a b=true→a=b
 |.int k n,b,h=>by
  cases b<;>simp only[xeq] at h<;>try cases h
  split at h
  ·rename_i hk;rw[A0T hk,of_decide_eq_true h]
  ·cases h
 |.bool a,b,h=>by
   cases b<;>simp only[xeq] at h<;>try cases h
   rename_i b;cases a<;>cases b<;>first|rfl|cases h
 |.str a,b,h=>by
   cases b<;>simp only[xeq] at h<;>try cases h
   rw[of_decide_eq_true h]
 |.nptr,b,h=>by cases b<;>simp only[xeq] at h<;>first|rfl|cases h
 |.ptr k o,b,h=>by
  cases b<;>simp only[xeq] at h<;>try cases h
  split at h
  ·rename_i hk;rw[B0 hk,B0 h]
  ·cases h
 |.eptr k o,b,h=>by
  cases b<;>simp only[xeq] at h<;>try cases h
  split at h
  ·rename_i hk;rw[B0 hk,B0 h]
  ·cases h
 |.gptr k o,b,h=>by
  cases b<;>simp only[xeq] at h<;>try cases h
  split at h
  ·rename_i hk;rw[B0 hk,B0 h]
  ·cases h
 |.nslc,b,h=>by cases b<;>simp only[xeq] at h<;>first|rfl|cases h
 |.slc k,b,h=>by
  cases b<;>simp only[xeq] at h<;>try cases h
  rw[B0 h]
 |.nmap,b,h=>by cases b<;>simp only[xeq] at h<;>first|rfl|cases h
 |.map k,b,h=>by
  cases b<;>simp only[xeq] at h<;>try cases h
  rw[B0 h]
 |.agg a,b,h=>by
  cases b<;>simp only[xeq] at h<;>try cases h
  rw[A0g _ _ h]
 |.aQ a,b,h=>by
  cases b<;>simp only[xeq] at h<;>try cases h
  rw[A0g _ _ h]
 |.func f a c,b,h=>by
  cases b<;>simp only[xeq] at h<;>try cases h
  split at h
  ·rename_i hf
   split at h
   ·rename_i ha
    rw[B0 hf,A0g _ _ ha,A0g _ _ h]
   ·cases h
  ·cases h
 |.nfunc,b,h=>by cases b<;>simp only[xeq] at h<;>first|rfl|cases h
 |.niface,b,h=>by cases b<;>simp only[xeq] at h<;>first|rfl|cases h
 |.iface t v,b,h=>by
  cases b<;>simp only[xeq] at h<;>try cases h
  split at h
  ·rename_i hk;rw[B0 hk,A2n _ _ h]
  ·cases h
theorem A0g:∀a b,A5L a b=true→a=b
 |[],[],_=>rfl
 |[],_::_,h=>by simp only[A5L] at h;cases h
 |_::_,[],h=>by simp only[A5L] at h;cases h
 |a::asZ,b::bs,h=>by
  simp only[A5L] at h
  split at h
  ·rename_i hk;rw[A2n _ _ hk,A0g _ _ h]
  ·cases h
end
end Go.X
namespace Go.H
open Go.MapKept (Stamped)
section
variable {K:Type} [DecidableEq K]
end
section
variable {K V:Type} {h:Heap} {R:List Asn} {ek:K→Value}
variable [DecidableEq K]
end
abbrev e2(k:Int×Int):Value:=.agg #[.int .i64 k.1,.int .i64 k.2]
theorem C1m:∀a b:Int×Int,e2 a=e2 b→a=b:=fun a b h=>by
 have:(Array.toList #[Value.int .i64 a.1,.int .i64 a.2])=(Array.toList #[Value.int .i64 b.1,.int .i64 b.2]):=congrArg Array.toList (Value.agg.inj h)
 simp at this
 exact Prod.ext this.1 this.2
theorem C1k{kd:k4}(he:∀a b c d:Int,kd (.agg #[.int .i64 a,.int .i64 b]) (.agg #[.int .i64 c,.int .i64 d])=some ((a==c)&&((b==d)&&true))):KeyLaw kd e2:=⟨fun a b=>by
 rw[he]
 congr 1
 rw[Bool.and_true,Bool.eq_iff_iff]
 simp[Prod.ext_iff],fun a=>by simp[Instr.sameBits]⟩
abbrev eP(k:Int×B1q):Value:=.agg #[.int .i64 k.1,.string k.2]
theorem C1l:∀a b:Int×B1q,eP a=eP b→a=b:=fun a b h=>by
 have:(Array.toList #[Value.int .i64 a.1,.string a.2])=(Array.toList #[Value.int .i64 b.1,.string b.2]):=congrArg Array.toList (Value.agg.inj h)
 simp at this
 exact Prod.ext this.1 this.2
theorem C1j{kd:k4}(he:∀(a:Int) (b:B1q) (c:Int) (d:B1q),kd (.agg #[.int .i64 a,.string b]) (.agg #[.int .i64 c,.string d])=some ((a==c)&&(decide (b=d)&&true))):KeyLaw kd eP:=⟨fun a b=>by
 rw[he]
 congr 1
 rw[Bool.and_true,Bool.eq_iff_iff]
 simp[Prod.ext_iff],fun a=>by simp[Instr.sameBits,beq_toListBytes]⟩
end Go.H
namespace Go.X
open Go.H
section
open Go.H
inductive XF where
 |cells (T:Nat) (cs:List XV)
 |mapI (es:List (Int×XV))
 |mapS (es:List (B1q×XV))
 |mapT (es:List ((Int×Int)×XV))
 |mapP (es:List ((Int×B1q)×XV))
 |own (size:Nat) (es:List (List XV))
 |txt (s:B1q) (pos:Nat)
 |buf (T:Nat) (bs:List Int)
 |walkI (it:Nat) (l done todo:List (Int×XV))
 |walkS (it:Nat) (l done todo:List (B1q×XV))
 |itOf (m:Nat)
 |itNil
 |view (k z lo hi:Nat) (mx:Option Nat)
 |base (gs:List Nat)
inductive Tri (α:Type) where
 |lf
 |nd (o:Option α) (l r:Tri α)
 deriving Inhabited
abbrev XSt:=Tri XF
section
variable {XF:Type}
def Tri.get:Tri XF→Nat→Option XF
 |.lf,_=>none
 |.nd o l r,i=>match i with
  |0=>o
  |j+1=>match Nat.beq (Nat.mod j 2) 0 with
   |true=>l.get (Nat.div j 2)
   |false=>r.get (Nat.div j 2)
def Tri.bR:Tri XF→Nat→Option XF→Tri XF
 |.lf,_,_=>.lf
 |.nd o l r,i,x=>match i with
  |0=>.nd x l r
  |j+1=>match Nat.beq (Nat.mod j 2) 0 with
   |true=>.nd o (l.bR (Nat.div j 2) x) r
   |false=>.nd o l (r.bR (Nat.div j 2) x)
def Tri.ins:Nat→Tri XF→Nat→XF→Tri XF
 |0,t,_,_=>t
 |f+1,t,i,x=>match t with
  |.lf=>match i with
   |0=>.nd (some x) .lf .lf
   |j+1=>match Nat.beq (Nat.mod j 2) 0 with
    |true=>.nd none (Tri.ins f .lf (Nat.div j 2) x) .lf
    |false=>.nd none .lf (Tri.ins f .lf (Nat.div j 2) x)
  |.nd o l r=>match i with
   |0=>.nd (some x) l r
   |j+1=>match Nat.beq (Nat.mod j 2) 0 with
    |true=>.nd o (Tri.ins f l (Nat.div j 2) x) r
    |false=>.nd o l (Tri.ins f r (Nat.div j 2) x)
def Tri.all:Tri XF→(Nat→Nat)→List (Nat×XF)
 |.lf,_=>[]
 |.nd o l r,κ=>o.toList.map (fun x=>(κ 0,x))++(l.all (fun j=>κ (2*j+1))++r.all (fun j=>κ (2*j+2)))
def add(n:Nat)(f:XF)(s:Tri XF):Tri XF:=Tri.ins (n+1) s n f
def back(k:Nat)(f:XF)(s:Tri XF):Tri XF:=s.bR k (some f)
theorem A1p(j:Nat):Nat.beq (Nat.mod (2*j) 2) 0=true:=by
 have:Nat.mod (2*j) 2=0:=by show 2*j % 2=0;omega
 rw[this];rfl
theorem A1i(j:Nat):Nat.div (2*j) 2=j:=by show 2*j / 2=j;omega
theorem A3A(j:Nat):Nat.beq (Nat.mod (2*j+1) 2) 0=false:=by
 have:Nat.mod (2*j+1) 2=1:=by show(2*j+1) % 2=1;omega
 rw[this];rfl
theorem A3z(j:Nat):Nat.div (2*j+1) 2=j:=by show(2*j+1) / 2=j;omega
theorem R2{o:Option XF}{l r:Tri XF}(j:Nat):(Tri.nd o l r).get (2*j+1)=l.get j:=by
 simp only[Tri.get,A1p,A1i]
theorem Q3{o:Option XF}{l r:Tri XF}(j:Nat):(Tri.nd o l r).get (2*j+2)=r.get j:=by
 simp only[Tri.get,A3A,A3z]
theorem A1F(i:Nat):i=0∨(∃j,i=2*j+1)∨∃j,i=2*j+2:=by
 rcases Nat.eq_zero_or_pos i with h|h
 ·exact .inl h
 ·rcases Nat.mod_two_eq_zero_or_one i with h1|h1
  ·exact .inr (.inr ⟨i / 2-1,by omega⟩)
  ·exact .inr (.inl ⟨i / 2,by omega⟩)
theorem A4G{o x:Option XF}{l r:Tri XF}(j:Nat):(Tri.nd o l r).bR (2*j+1) x=.nd o (l.bR j x) r:=by
 simp only[Tri.bR,A1p,A1i]
theorem A3g{o x:Option XF}{l r:Tri XF}(j:Nat):(Tri.nd o l r).bR (2*j+2) x=.nd o l (r.bR j x):=by
 simp only[Tri.bR,A3A,A3z]
theorem A09{α:Type}{a:α}{A B C:List α}(h:B.Perm (a::C)):(A++B).Perm (a::(A++C)):=(List.Perm.append_left A h).trans List.perm_middle
theorem A8c:∀(t:Tri XF) (κ:Nat→Nat) (i:Nat) {f:XF},t.get i=some f→∀x:Option XF,((t.bR i x).all κ).Perm (x.toList.map (fun x=>(κ i,x))++(t.bR i none).all κ)
 |.lf,κ,i,f,h,x=>by cases h
 |.nd o l r,κ,i,f,h,x=>by
  rcases A1F i with rfl|⟨j,rfl⟩|⟨j,rfl⟩
  ·simp[Tri.bR,Tri.all]
  ·rw[R2] at h
   simp only[A4G,Tri.all]
   have:=A8c l (fun j=>κ (2*j+1)) j h x
   cases x with
   |none=>simp
   |some x=>exact A09 (List.Perm.append_right _ this)
  ·rw[Q3] at h
   simp only[A3g,Tri.all]
   have:=A8c r (fun j=>κ (2*j+2)) j h x
   cases x with
   |none=>simp
   |some x=>exact A09 (A09 this)
theorem A8E:∀(t:Tri XF) (i:Nat),t.bR i (t.get i)=t
 |.lf,i=>rfl
 |.nd o l r,i=>by
  rcases A1F i with rfl|⟨j,rfl⟩|⟨j,rfl⟩
  ·rfl
  ·rw[R2,A4G,A8E l j]
  ·rw[Q3,A3g,A8E r j]
theorem A3f:∀(t:Tri XF) (i:Nat) (x y:Option XF),(t.bR i x).bR i y=t.bR i y
 |.lf,i,x,y=>rfl
 |.nd o l r,i,x,y=>by
  rcases A1F i with rfl|⟨j,rfl⟩|⟨j,rfl⟩
  ·rfl
  ·simp only[A4G,A3f l]
  ·simp only[A3g,A3f r]
theorem A1J:∀(t:Tri XF) (i k:Nat) (x:Option XF) {f:XF},t.get i=some f→(t.bR i x).get k=if k=i then x else t.get k
 |.lf,i,k,x,f,h=>by cases h
 |.nd o l r,i,k,x,f,h=>by
  rcases A1F i with rfl|⟨j,rfl⟩|⟨j,rfl⟩
  ·rcases A1F k with rfl|⟨m,rfl⟩|⟨m,rfl⟩
   ·rfl
   ·rw[if_neg (by omega),R2];simp only[Tri.bR,R2]
   ·rw[if_neg (by omega),Q3];simp only[Tri.bR,Q3]
  ·rw[R2] at h
   rw[A4G]
   rcases A1F k with rfl|⟨m,rfl⟩|⟨m,rfl⟩
   ·rw[if_neg (by omega)];rfl
   ·rw[R2,R2,A1J l j m x h]
    by_cases hm:m=j
    ·rw[if_pos hm,if_pos (by omega)]
    ·rw[if_neg hm,if_neg (by omega)]
   ·rw[if_neg (by omega),Q3,Q3]
  ·rw[Q3] at h
   rw[A3g]
   rcases A1F k with rfl|⟨m,rfl⟩|⟨m,rfl⟩
   ·rw[if_neg (by omega)];rfl
   ·rw[if_neg (by omega),R2,R2]
   ·rw[Q3,Q3,A1J r j m x h]
    by_cases hm:m=j
    ·rw[if_pos hm,if_pos (by omega)]
    ·rw[if_neg hm,if_neg (by omega)]
theorem A3x:∀(f:Nat) (t:Tri XF) (κ:Nat→Nat) (i:Nat) (x:XF),i<f→t.get i=none→((Tri.ins f t i x).all κ).Perm ((κ i,x)::t.all κ)
 |0,_,_,_,_,h,_=>by omega
 |f+1,.lf,κ,i,x,h,h0=>by
  rcases A1F i with rfl|⟨j,rfl⟩|⟨j,rfl⟩
  ·exact J0 _
  ·simp only[Tri.ins,A1p,A1i]
   have:=A3x f .lf (fun j=>κ (2*j+1)) j x (by omega) rfl
   simpa[Tri.all] using this
  ·simp only[Tri.ins,A3A,A3z]
   have:=A3x f .lf (fun j=>κ (2*j+2)) j x (by omega) rfl
   simpa[Tri.all] using this
 |f+1,.nd o l r,κ,i,x,h,h0=>by
  rcases A1F i with rfl|⟨j,rfl⟩|⟨j,rfl⟩
  ·have:o=none:=h0
   subst this
   exact J0 _
  ·rw[R2] at h0
   simp only[Tri.ins,A1p,A1i,Tri.all]
   exact A09 (List.Perm.append_right _ (A3x f l _ j x (by omega) h0))
  ·rw[Q3] at h0
   simp only[Tri.ins,A3A,A3z,Tri.all]
   exact A09 (A09 (A3x f r _ j x (by omega) h0))
theorem A0S:∀(f:Nat) (t:Tri XF) (i k:Nat) (x:XF),i<f→(Tri.ins f t i x).get k=if k=i then some x else t.get k
 |0,_,_,_,_,h=>by omega
 |f+1,.lf,i,k,x,h=>by
  rcases A1F i with rfl|⟨j,rfl⟩|⟨j,rfl⟩
  ·rcases A1F k with rfl|⟨m,rfl⟩|⟨m,rfl⟩
   ·rfl
   ·rw[if_neg (by omega)];simp only[Tri.ins,R2];rfl
   ·rw[if_neg (by omega)];simp only[Tri.ins,Q3];rfl
  ·simp only[Tri.ins,A1p,A1i]
   rcases A1F k with rfl|⟨m,rfl⟩|⟨m,rfl⟩
   ·rw[if_neg (by omega)];rfl
   ·rw[R2,A0S f .lf j m x (by omega)]
    by_cases hm:m=j
    ·rw[if_pos hm,if_pos (by omega)]
    ·rw[if_neg hm,if_neg (by omega)];rfl
   ·rw[Q3,if_neg (by omega)];rfl
  ·simp only[Tri.ins,A3A,A3z]
   rcases A1F k with rfl|⟨m,rfl⟩|⟨m,rfl⟩
   ·rw[if_neg (by omega)];rfl
   ·rw[R2,if_neg (by omega)];rfl
   ·rw[Q3,A0S f .lf j m x (by omega)]
    by_cases hm:m=j
    ·rw[if_pos hm,if_pos (by omega)]
    ·rw[if_neg hm,if_neg (by omega)];rfl
 |f+1,.nd o l r,i,k,x,h=>by
  rcases A1F i with rfl|⟨j,rfl⟩|⟨j,rfl⟩
  ·rcases A1F k with rfl|⟨m,rfl⟩|⟨m,rfl⟩
   ·rfl
   ·rw[if_neg (by omega)];simp only[Tri.ins,R2]
   ·rw[if_neg (by omega)];simp only[Tri.ins,Q3]
  ·simp only[Tri.ins,A1p,A1i]
   rcases A1F k with rfl|⟨m,rfl⟩|⟨m,rfl⟩
   ·rw[if_neg (by omega)];rfl
   ·rw[R2,R2,A0S f l j m x (by omega)]
    by_cases hm:m=j
    ·rw[if_pos hm,if_pos (by omega)]
    ·rw[if_neg hm,if_neg (by omega)]
   ·rw[Q3,Q3,if_neg (by omega)]
  ·simp only[Tri.ins,A3A,A3z]
   rcases A1F k with rfl|⟨m,rfl⟩|⟨m,rfl⟩
   ·rw[if_neg (by omega)];rfl
   ·rw[R2,R2,if_neg (by omega)]
   ·rw[Q3,Q3,A0S f r j m x (by omega)]
    by_cases hm:m=j
    ·rw[if_pos hm,if_pos (by omega)]
    ·rw[if_neg hm,if_neg (by omega)]
theorem A3B:∀(t:Tri XF) (κ:Nat→Nat) (a:Nat) (f:XF),(a,f)∈t.all κ→∃i,a=κ i∧t.get i=some f
 |.lf,κ,a,f,h=>by cases h
 |.nd o l r,κ,a,f,h=>by
  simp only[Tri.all,J7,H8] at h
  rcases h with⟨x,hx,e⟩|h|h
  ·cases e
   exact⟨0,rfl,by simpa[Tri.get] using hx⟩
  ·obtain⟨j,h1,h2⟩:=A3B l _ a f h
   exact⟨2*j+1,h1,by rw[R2];exact h2⟩
  ·obtain⟨j,h1,h2⟩:=A3B r _ a f h
   exact⟨2*j+2,h1,by rw[Q3];exact h2⟩
end
abbrev VS(size:Nat):Type:={l:C3E // l.length=size∧∀v∈l,v.oneCell'=true}
abbrev vsV{size:Nat}(x:VS size):C3E:=x.1
def A1B(β:As)(k size:Nat)(es:List (List XV)):Asn:=
 exA fun xs:List (VS size)=>star (pr (xs.map (·.1)=es.map (vals β)∧0<size)) (N4 (vsV (size:=size)) size (β.s k) xs)
def fact(β:As):Nat×XF→Asn
 |(k,.cells T cs)=>blk (β.b k) (.cells (vals β cs).toArray T (0,0))
 |(k,.mapI es)=>mapA (fun n:Int=>Value.int .i64 n) (val β) (β.b k) es
 |(k,.mapS es)=>mapA (fun s:B1q=>Value.string s) (val β) (β.b k) es
 |(k,.mapT es)=>mapA e2 (val β) (β.b k) es
 |(k,.mapP es)=>mapA eP (val β) (β.b k) es
 |(k,.own size es)=>A1B β k size es
 |(k,.txt s pos)=>blk (β.b k) (.stringIter s pos)
 |(k,.buf T bs)=>A6s T (β.s k) bs
 |(k,.walkI it l d t)=>itA (fun n:Int=>Value.int .i64 n) (val β) (β.b k) l (β.b it) d t
 |(k,.walkS it l d t)=>itA (fun s:B1q=>Value.string s) (val β) (β.b k) l (β.b it) d t
 |(k,.itOf m)=>pr True
 |(k,.itNil)=>blk (β.b k) (.mapIter none 0 #[] 0)
 |(j,.view k z lo hi mx)=>pr (lo≤hi∧hi≤mx.getD (β.s k).cap∧mx.getD (β.s k).cap≤(β.s k).cap∧β.s j=P5 (β.s k) lo hi (mx.getD (β.s k).cap) z)
 |(_,.base gs)=>star (pr (∀g∈gs,∃m,O5 β.o ⟨g,0,none⟩=some (.int .i64 m))) (old β.o)
def asn(β:As)(s:XSt):List Asn:=(s.all id).map (fact β)
theorem Sub.perm{L L':List Asn}(h:L.Perm L'):Sub L L':=by
 induction h with
 |nil=>exact fun _ hs=>hs
 |cons a _ ih=>exact fun m hs=>X4 (fun _ h=>h) ih hs
 |swap a b l=>exact fun m hs=>A1x hs
 |trans _ _ h1 h2=>exact fun m hs=>h2 m (h1 m hs)
abbrev look(k:Nat)(s:XSt):Option XF:=s.get k
def pick(k:Nat)(s:XSt):Option (XF×XSt):=match s.get k with
 |some f=>some (f,s.bR k none)
 |none=>none
theorem p8{k:Nat}{s r:XSt}{f:XF}(h:pick k s=some (f,r)):s.get k=some f∧r=s.bR k none:=by
 unfold pick at h
 split at h
 ·rename_i g hg;cases h;exact⟨hg,rfl⟩
 ·cases h
theorem A3q{k:Nat}{s:XSt}{f:XF}(h:look k s=some f):∃r,pick k s=some (f,r):=⟨_,by unfold pick;rw[show s.get k=some f from h]⟩
theorem A3l{k:Nat}{s r:XSt}{f:XF}(h:pick k s=some (f,r))(β:As):(asn β s).Perm (fact β (k,f)::asn β r):=by
 obtain⟨h1,rfl⟩:=p8 h
 have h2:=A8c s id k h1 (some f)
 rw[←h1,A8E,h1] at h2
 exact h2.map (fact β)
theorem B6U{k:Nat}{s r:XSt}{f:XF}(h:pick k s=some (f,r))(g:XF)(β:As):(asn β (back k g r)).Perm (fact β (k,g)::asn β r):=by
 obtain⟨h1,rfl⟩:=p8 h
 have h2:=A8c s id k h1 (some g)
 unfold back
 rw[A3f]
 exact h2.map (fact β)
theorem P3{β:As}{k:Nat}{L:List Asn}{s r:XSt}{f:XF}(h:pick k s=some (f,r)):Has (asn β s++L) (fact β (k,f)) (asn β r++L):=
 Sub.perm ((A3l h β).append_right L)
theorem S3{β:As}{k:Nat}{L:List Asn}{s r:XSt}{f:XF}(h:pick k s=some (f,r))(g:XF):Sub (fact β (k,g)::(asn β r++L)) (asn β (back k g r)++L):=
 Sub.perm ((B6U h g β).symm.append_right L)
def T8{K:Type}(n:Nat):List (K×XV)→Bool
 |[]=>true
 |(_,v)::r=>match clo n v with
  |true=>T8 n r
  |false=>false
def e7(n:Nat):List (List XV)→Bool
 |[]=>true
 |l::r=>match S9 n l with
  |true=>e7 n r
  |false=>false
def B0u{K:Type}(n it:Nat)(l d t:List (K×XV)):Bool:=match Nat.blt it n with
  |true=>match T8 n l with
   |true=>match T8 n d with
    |true=>T8 n t
    |false=>false
   |false=>false
  |false=>false
def A1S(n:Nat):XF→Bool
 |.cells _ cs=>S9 n cs
 |.mapI es=>T8 n es
 |.mapS es=>T8 n es
 |.mapT es=>T8 n es
 |.mapP es=>T8 n es
 |.own _ es=>e7 n es
 |.txt _ _=>true
 |.buf _ _=>true
 |.walkI it l d t=>B0u n it l d t
 |.walkS it l d t=>B0u n it l d t
 |.itOf m=>Nat.blt m n
 |.itNil=>true
 |.view k _ _ _ _=>Nat.blt k n
 |.base _=>true
def O4(n:Nat)(s:XSt):Prop:=∀k f,s.get k=some f→k<n∧A1S n f=true
theorem A1v{β:As}{n:Nat}{L:List Asn}{s:XSt}(h:O4 n s)(g:XF):Sub (fact β (n,g)::(asn β s++L)) (asn β (add n g s)++L):=by
 have h0:s.get n=none:=by
  cases hg:s.get n with
  |none=>rfl
  |some f=>exact absurd (h n f hg).1 (Nat.lt_irrefl _)
 exact Sub.perm (((A3x (n+1) s id n g (G4 _) h0).map (fact β)).symm.append_right L)
theorem W4{K:Type}{n:Nat}{β γ:As}(h:Agr n β γ):∀{es:List (K×XV)},T8 n es=true→es.map (fun p=>(p.1,val β p.2))=es.map (fun p=>(p.1,val γ p.2))
 |[],_=>rfl
 |(a,v)::r,hc=>by
  simp only[T8] at hc
  split at hc
  ·rename_i hv
   simp only[B6]
   rw[A1u h v hv,W4 h hc]
  ·cases hc
theorem A9L{n:Nat}{β γ:As}(h:Agr n β γ):∀{es:List (List XV)},e7 n es=true→es.map (vals β)=es.map (vals γ)
 |[],_=>rfl
 |l::r,hc=>by
  simp only[e7] at hc
  split at hc
  ·rename_i hv
   simp only[B6]
   rw[u7 h l hv,A9L h hc]
  ·cases hc
theorem A49{K:Type}{ek:K→Value}{b:Nat}{β γ:As}{es:List (K×XV)}(h:es.map (fun p=>(p.1,val β p.2))=es.map (fun p=>(p.1,val γ p.2))):mapA ek (val β) b es=mapA ek (val γ) b es:=by
 have e:∀l,Z2 ek (val β) es l=Z2 ek (val γ) es l:=fun l=>by
  unfold Z2
  have h2:=congrArg (List.map fun p:K×Value=>(ek p.1,p.2)) h
  simp only[F6,G5] at h2
  rw[h2]
 unfold mapA
 simp only[e]
theorem B2e{K:Type}{ek:K→Value}{b it:Nat}{f g:XV→Value}{l d t:List (K×XV)}(h1:l.map (fun p=>(p.1,f p.2))=l.map (fun p=>(p.1,g p.2)))(h2:d.map (fun p=>(p.1,f p.2))=d.map (fun p=>(p.1,g p.2)))(h3:t.map (fun p=>(p.1,f p.2))=t.map (fun p=>(p.1,g p.2))):
  itA ek f b l it d t=itA ek g b l it d t:=by
 have key:∀{l:List (K×XV)},l.map (fun p=>(p.1,f p.2))=l.map (fun p=>(p.1,g p.2))→l.map (fun p=>(ek p.1,f p.2))=l.map (fun p=>(ek p.1,g p.2)):=fun{l} h=>by
  have h2:=congrArg (List.map fun p:K×Value=>(ek p.1,p.2)) h
  simpa only[F6,G5] using h2
 have e:∀es c s des tes,ItF ek f l d t es c s des tes=ItF ek g l d t es c s des tes:=fun es c s des tes=>by
  refine propext ⟨fun h=>⟨?_,h.stamped,h.perm,h.seen,?_,?_⟩,fun h=>⟨?_,h.stamped,h.perm,h.seen,?_,?_⟩⟩
  ·have:=h.cM;unfold Z2 at this⊢;rw[←key h1];exact this
  ·have:=h.done;unfold m9 at this⊢;rw[←key h2];exact this
  ·have:=h.todo;unfold m9 at this⊢;rw[←key h3];exact this
  ·have:=h.cM;unfold Z2 at this⊢;rw[key h1];exact this
  ·have:=h.done;unfold m9 at this⊢;rw[key h2];exact this
  ·have:=h.todo;unfold m9 at this⊢;rw[key h3];exact this
 unfold itA
 simp only[e]
theorem u6{K:Type}{n it:Nat}{l d t:List (K×XV)}(h:B0u n it l d t=true):it<n∧T8 n l=true∧T8 n d=true∧T8 n t=true:=by
 unfold B0u at h
 split at h
 ·rename_i h1
  split at h
  ·rename_i h2
   split at h
   ·rename_i h3;exact⟨by simpa using h1,h2,h3,h⟩
   ·cases h
  ·cases h
 ·cases h
theorem A0o{K:Type}{n it:Nat}{l d t:List (K×XV)}(h1:it<n)(h2:T8 n l=true)(h3:T8 n d=true)(h4:T8 n t=true):B0u n it l d t=true:=by
 unfold B0u
 rw[show Nat.blt it n=true by simpa using h1,h2,h3,h4]
theorem B8I{n k:Nat}{β γ:As}(h:Agr n β γ)(hk:k<n):∀f,A1S n f=true→fact β (k,f)=fact γ (k,f)
 |.cells T cs,hc=>by simp only[fact];rw[h.b k hk,u7 h cs hc]
 |.mapI es,hc=>by simp only[fact];rw[h.b k hk,A49 (W4 h hc)]
 |.mapS es,hc=>by simp only[fact];rw[h.b k hk,A49 (W4 h hc)]
 |.mapT es,hc=>by simp only[fact];rw[h.b k hk,A49 (W4 h hc)]
 |.mapP es,hc=>by simp only[fact];rw[h.b k hk,A49 (W4 h hc)]
 |.own size es,hc=>by simp only[fact,A1B];rw[h.s k hk,A9L h hc]
 |.txt s p,_=>by simp only[fact];rw[h.b k hk]
 |.buf T bs,_=>by simp only[fact];rw[h.s k hk]
 |.walkI it l d t,hc=>by
  obtain⟨h1,h2,h3,h4⟩:=u6 hc
  simp only[fact];rw[h.b k hk,h.b it h1,B2e (W4 h h2) (W4 h h3) (W4 h h4)]
 |.walkS it l d t,hc=>by
  obtain⟨h1,h2,h3,h4⟩:=u6 hc
  simp only[fact];rw[h.b k hk,h.b it h1,B2e (W4 h h2) (W4 h h3) (W4 h h4)]
 |.itOf m,_=>rfl
 |.itNil,_=>by simp only[fact];rw[h.b k hk]
 |.view j z lo hi mx,hc=>by simp only[A1S,J5] at hc;simp only[fact];rw[h.s k hk,h.s j hc]
 |.base gs,_=>by simp only[fact];rw[h.o]
theorem A0X{n:Nat}{β γ:As}(h:Agr n β γ){s:XSt}(hc:O4 n s):asn β s=asn γ s:=
 K0 fun⟨k,f⟩ hm=>by
  obtain⟨i,rfl,hg⟩:=A3B _ _ _ _ hm
  exact B8I h (hc _ f hg).1 f (hc _ f hg).2
theorem S5{k:Nat}{s r:XSt}{f:XF}(h:pick k s=some (f,r)):s.get k=some f∧∀i x,r.get i=some x→s.get i=some x:=by
 obtain⟨h1,rfl⟩:=p8 h
 refine⟨h1,fun i x hx=>?_⟩
 rw[A1J s k i none h1] at hx
 split at hx
 ·cases hx
 ·exact hx
theorem O4.rest{n k:Nat}{s r:XSt}{f:XF}(h:O4 n s)(hp:pick k s=some (f,r)):O4 n r:=fun j f' hm=>h j f' ((S5 hp).2 _ _ hm)
theorem O4.put{n k:Nat}{s r:XSt}{f g:XF}(h:O4 n s)(hp:pick k s=some (f,r))(hg:A1S n g=true):O4 n (back k g r):=by
 obtain⟨h1,rfl⟩:=p8 hp
 intro j f' hm
 unfold back at hm
 rw[A3f,A1J s k j (some g) h1] at hm
 split at hm
 ·rename_i e;cases hm;subst e;exact⟨(h _ _ h1).1,hg⟩
 ·exact h j f' hm
mutual
theorem m6{n m:Nat}(h:n≤m):∀v,clo n v=true→clo m v=true
 |.ptr k o,hc=>by simp only[clo,J5] at hc⊢;omega
 |.eptr k o,hc=>by simp only[clo,J5] at hc⊢;omega
 |.slc k,hc=>by simp only[clo,J5] at hc⊢;omega
 |.map k,hc=>by simp only[clo,J5] at hc⊢;omega
 |.agg cs,hc=>j9 h cs hc
 |.aQ cs,hc=>j9 h cs hc
 |.func f a b,hc=>by
  simp only[clo] at hc⊢
  split at hc
  ·rename_i ha;rw[j9 h a ha];exact j9 h b hc
  ·cases hc
 |.iface t v,hc=>m6 h v hc
 |.int _ _,_=>rfl
 |.bool _,_=>rfl
 |.str _,_=>rfl
 |.nptr,_=>rfl
 |.gptr _ _,_=>rfl
 |.nslc,_=>rfl
 |.nmap,_=>rfl
 |.nfunc,_=>rfl
 |.niface,_=>rfl
theorem j9{n m:Nat}(h:n≤m):∀l,S9 n l=true→S9 m l=true
 |[],_=>rfl
 |v::vs,hc=>by
  simp only[S9] at hc⊢
  split at hc
  ·rename_i ha;rw[m6 h v ha];exact j9 h vs hc
  ·cases hc
end
theorem T0{K:Type}{n m:Nat}(h:n≤m):∀{es:List (K×XV)},T8 n es=true→T8 m es=true
 |[],_=>rfl
 |(a,v)::r,hc=>by
  simp only[T8] at hc⊢
  split at hc
  ·rename_i ha;rw[m6 h v ha];exact T0 h hc
  ·cases hc
theorem q9{n m:Nat}(h:n≤m):∀{es:List (List XV)},e7 n es=true→e7 m es=true
 |[],_=>rfl
 |l::r,hc=>by
  simp only[e7] at hc⊢
  split at hc
  ·rename_i ha;rw[j9 h l ha];exact q9 h hc
  ·cases hc
theorem B1l{n m:Nat}(h:n≤m):∀{f:XF},A1S n f=true→A1S m f=true
 |.cells _ cs,hc=>j9 h cs hc
 |.mapI es,hc=>T0 h hc
 |.mapS es,hc=>T0 h hc
 |.mapT es,hc=>T0 h hc
 |.mapP es,hc=>T0 h hc
 |.own _ es,hc=>q9 h hc
 |.txt _ _,_=>rfl
 |.buf _ _,_=>rfl
 |.walkI it l d t,hc=>by
  obtain⟨h1,h2,h3,h4⟩:=u6 hc
  exact A0o (K8 h1 h) (T0 h h2) (T0 h h3) (T0 h h4)
 |.walkS it l d t,hc=>by
  obtain⟨h1,h2,h3,h4⟩:=u6 hc
  exact A0o (K8 h1 h) (T0 h h2) (T0 h h3) (T0 h h4)
 |.itOf m,hc=>by simp only[A1S,J5] at hc⊢;omega
 |.itNil,_=>rfl
 |.view k z lo hi mx,hc=>by simp only[A1S,J5] at hc⊢;omega
 |.base _,_=>rfl
theorem O4.new{n:Nat}{s:XSt}{g:XF}(h:O4 n s)(hg:A1S (n+1) g=true):O4 (n+1) (add n g s):=by
 intro j f' hm
 unfold add at hm
 rw[A0S (n+1) s n j g (G4 _)] at hm
 split at hm
 ·rename_i e;cases hm;subst e;exact⟨G4 _,hg⟩
 ·exact⟨Nat.lt_succ_of_lt (h j f' hm).1,B1l (E7 _) (h j f' hm).2⟩
def As.aT(β:As)(n b:Nat):As:=⟨fun k=>if k=n then b else β.b k,β.s,β.o⟩
def As.aR(β:As)(n:Nat)(s:Slc):As:=⟨β.b,fun k=>if k=n then s else β.s k,β.o⟩
theorem A27{β:As}{n b:Nat}:Agr n β (β.aT n b):=⟨fun k hk=>by simp[As.aT];omega,fun _ _=>rfl,rfl⟩
theorem W5{β:As}{n:Nat}{s:Slc}:Agr n β (β.aR n s):=⟨fun _ _=>rfl,fun k hk=>by simp only[As.aR];rw[if_neg (by omega)],rfl⟩
end
section
open Go.H
section
variable {ρ:Type} {L:List Asn} {Q:ρ→Heap→Prop} {k:Value→HM ρ} {P:Program} {β:As}
def chk(b:Bool)(v:XV):Option XV:=match b with
 |true=>some v
 |false=>none
theorem A1T{b:Bool}{v u:XV}(h:chk b v=some u):b=true∧v=u:=by
 cases b
 ·cases h
 ·cases h;exact⟨rfl,rfl⟩
def C0Q(op:BinOp)(kx ky:IntKind)(a b:Int):Option XV:=
 match op with
 |.shl=>chk (decide (0≤b)) (.int kx (kx.wrap (a*2 ^ (min b.toNat kx.bits))))
 |.shr=>chk (decide (0≤b)) (.int kx (a.fdiv (2 ^ (min b.toNat kx.bits))))
 |op=>match A1e kx ky with
  |false=>none
  |true=>match op with
   |.add=>some (.int kx (kx.wrap (a+b)))
   |.sub=>some (.int kx (kx.wrap (a-b)))
   |.mul=>some (.int kx (kx.wrap (a*b)))
   |.quo=>chk (decide (b≠0)) (.int kx (kx.wrap (a.tdiv b)))
   |.rem=>chk (decide (b≠0)) (.int kx (a.tmod b))
   |.and=>some (.int kx (A0e .and kx a b))
   |.or=>some (.int kx (A0e .or kx a b))
   |.xor=>some (.int kx (A0e .xor kx a b))
   |.andNot=>some (.int kx (A0e .andNot kx a b))
   |.lss=>some (.bool (decide (a<b)))
   |.leq=>some (.bool (decide (a≤b)))
   |.gtr=>some (.bool (decide (b<a)))
   |.geq=>some (.bool (decide (b≤a)))
   |_=>none
theorem B9F{op:BinOp}{kx ky:IntKind}{a b:Int}{v:XV}(h:C0Q op kx ky a b=some v)(hk:W L (k (val β v)) Q):W L (A9A op kx ky a b k) Q:=by
 cases op
 case shl=>obtain⟨h1,rfl⟩:=A1T h;exact W6 hk (of_decide_eq_true h1)
 case shr=>obtain⟨h1,rfl⟩:=A1T h;exact W6 hk (of_decide_eq_true h1)
 all_goals
  simp only[C0Q] at h
  simp only[A9A]
  split at h
  ·cases h
  ·rename_i jL
   simp only[jL]
   first
    |(cases h;done)
    |(cases h;exact hk)
    |(obtain⟨h1,rfl⟩:=A1T h;exact W6 hk (of_decide_eq_true h1))
def C0M(op:BinOp)(a b:B1q):Option XV:=
 match op with
 |.add=>chk (Nat.ble (a.size+b.size) 9223372036854775807) (.str (a++b))
 |.lss=>some (.bool (Op.bytesLess a.toList b.toList))
 |.leq=>some (.bool (Op.bytesLess a.toList b.toList||a.toList==b.toList))
 |.gtr=>some (.bool !(Op.bytesLess a.toList b.toList||a.toList==b.toList))
 |.geq=>some (.bool !(Op.bytesLess a.toList b.toList))
 |_=>none
theorem B9u{op:BinOp}{a b:B1q}{v:XV}(h:C0M op a b=some v)(hk:W L (k (val β v)) Q):W L (B2s op a b k) Q:=by
 cases op
 case add=>obtain⟨h1,rfl⟩:=A1T h;exact W6 hk (B1 h1)
 all_goals
  simp only[C0M] at h
  first
   |(cases h;done)
   |(cases h;exact hk)
def B7K:XV→Option Bool
 |.nptr=>some true
 |.ptr _ _=>some false
 |.gptr _ _=>some false
 |_=>none
theorem B7J{x:XV}{r:Bool}(h:B7K x=some r):∃p,val β x=.pointer p∧p.isNone=r:=by
 cases x<;>simp only[B7K] at h<;>first|(cases h;done)|(cases h;exact⟨_,rfl,rfl⟩)
def B8D:XV→Option Value
 |.int k n=>some (.int k n)
 |.bool b=>some (.bool b)
 |.str s=>some (.string s)
 |_=>none
def B3R:List XV→Option (C3E)
 |[]=>some []
 |v::r=>match B8D v with
  |some a=>match B3R r with
   |some l=>some (a::l)
   |none=>none
  |none=>none
theorem B8C{v:XV}{a:Value}(h:B8D v=some a):val β v=a:=by
 cases v<;>simp only[B8D] at h<;>first|(cases h;done)|(cases h;rfl)
theorem A9q:∀{l:List XV} {r:C3E},B3R l=some r→vals β l=r
 |[],r,h=>by cases h;rfl
 |v::l,r,h=>by
  unfold B3R at h
  split at h
  ·rename_i a ha
   split at h
   ·rename_i b hb
    cases h
    rw[vals,B8C ha,A9q hb]
   ·cases h
  ·cases h
def xEq(P:Program)(neg:Bool)(t:TypeId)(yo:Operand)(x y:XV):Option XV:=
 match P.underlying t with
 |some (.pointer _)=>match yo with
  |.const (.pointer none)=>match B7K x with
   |some r=>some (.bool (V8 neg r))
   |none=>none
  |_=>none
 |some (.map _ _)=>match yo with
  |.const (.map none)=>match x with
   |.nmap=>some (.bool (V8 neg true))
   |.map _=>some (.bool (V8 neg false))
   |_=>none
  |_=>none
 |some (.interface _)=>match yo with
  |.const .nilIface=>match x with
   |.niface=>some (.bool (V8 neg true))
   |.iface _ _=>some (.bool (V8 neg false))
   |_=>none
  |_=>none
 |some (.func _ _ _)=>match yo with
  |.const .nilFunc=>match x with
   |.nfunc=>some (.bool (V8 neg true))
   |.func _ _ _=>some (.bool (V8 neg false))
   |_=>none
  |_=>none
 |some (.int _)=>match x,y with
  |.int kx a,.int ky b=>match A1e kx ky with
   |true=>some (.bool (V8 neg (a==b)))
   |false=>none
  |_,_=>none
 |some .bool=>match x,y with
  |.bool a,.bool b=>some (.bool (V8 neg (a==b)))
  |_,_=>none
 |some .string=>match x,y with
  |.str a,.str b=>some (.bool (V8 neg (decide (a=b))))
  |_,_=>none
 |some (.struct _)=>match x,y with
  |.agg a,.agg b=>match B3R a with
   |some xs=>match B3R b with
    |some ys=>match A3H P 8 t (.agg xs.toArray) (.agg ys.toArray) with
     |some r=>some (.bool (V8 neg r))
     |none=>none
    |none=>none
   |none=>none
  |_,_=>none
 |some (.slice _)=>match yo with
  |.const (.slice none _ _)=>match x with
   |.nslc=>some (.bool (V8 neg true))
   |_=>none
  |_=>none
 |_=>none
theorem B7P{neg:Bool}{t:TypeId}{yo:Operand}{x y:XV}{v:XV}(h:xEq P neg t yo x y=some v)(hk:W L (k (val β v)) Q):W L (o8 P neg t yo (val β x) (val β y) k) Q:=by
 unfold xEq at h
 unfold o8
 split at h
 ·rename_i ht
  rw[ht]
  split at h
  ·split at h
   ·rename_i r hr
    cases h
    obtain⟨p,h1,h2⟩:=B7J (β:=β) hr
    simp only[h1,h2]
    exact hk
   ·cases h
  ·cases h
 ·rename_i ht
  rw[ht]
  split at h
  ·cases x<;>simp only at h<;>first|(cases h;done)|(cases h;exact hk)
  ·cases h
 ·rename_i ht
  rw[ht]
  split at h
  ·cases x<;>simp only at h<;>first|(cases h;done)|(cases h;exact W6 hk rfl)
  ·cases h
 ·rename_i ht
  rw[ht]
  split at h
  ·cases x<;>simp only at h<;>first|(cases h;done)|(cases h;exact W6 hk rfl)
  ·cases h
 ·rename_i ht
  rw[ht]
  split at h
  ·split at h
   ·rename_i jL
    cases h
    simp only[val,jL]
    exact hk
   ·cases h
  ·cases h
 ·rename_i ht
  rw[ht]
  split at h
  ·cases h;exact hk
  ·cases h
 ·rename_i ht
  rw[ht]
  split at h
  ·cases h;exact hk
  ·cases h
 ·rename_i ht
  rw[ht]
  split at h
  ·rename_i a b
   split at h
   ·rename_i xs hx
    split at h
    ·rename_i ys hy
     split at h
     ·rename_i r hr
      cases h
      simp only[val,A9q (β:=β) hx,A9q (β:=β) hy,hr]
      exact hk
     ·cases h
    ·cases h
   ·cases h
  ·cases h
 ·rename_i ht
  rw[ht]
  split at h
  ·cases x<;>simp only at h<;>first|(cases h;done)|(cases h;exact hk)
  ·cases h
 ·cases h
def C0S(P:Program)(op:BinOp)(t:TypeId)(yo:Operand)(x y:XV):Option XV:=
 match op with
 |.eql=>xEq P false t yo x y
 |.neq=>xEq P true t yo x y
 |op=>match x,y with
  |.int kx a,.int ky b=>C0Q op kx ky a b
  |.str a,.str b=>C0M op a b
  |_,_=>none
theorem B9H{op:BinOp}{t:TypeId}{yo:Operand}{x y:XV}{v:XV}(h:C0S P op t yo x y=some v)(hk:W L (k (val β v)) Q):W L (A2T P op t yo (val β x) (val β y) k) Q:=by
 cases op
 case eql=>exact B7P h hk
 case neq=>exact B7P h hk
 all_goals
  simp only[C0S] at h
  simp only[A2T]
  split at h
  ·simp only[val];exact B9F h hk
  ·simp only[val];exact B9u h hk
  ·cases h
def xUn(op:UnOp)(x:XV):Option XV:=
 match op,x with
 |.not,.bool b=>some (.bool !b)
 |.neg,.int kd n=>some (.int kd (kd.wrap (0-n)))
 |.xor,.int kd n=>some (.int kd (A0e .xor kd (if kd.signed then -1 else kd.max) n))
 |_,_=>none
theorem C0L{op:UnOp}{x v:XV}(h:xUn op x=some v)(hk:W L (k (val β v)) Q):W L (B6g op (val β x) k) Q:=by
 unfold xUn at h
 split at h<;>first|(cases h;done)|(cases h;exact hk)
end
end
section
open Go.H
def B19{α γ:Type}(f:α→Option γ):List α→Option (List γ)
 |[]=>some []
 |x::xs=>match f x with
  |some y=>match B19 f xs with
   |some ys=>some (y::ys)
   |none=>none
  |none=>none
def ofV:Nat→Value→Option XV
 |0,_=>none
 |d+1,v=>match v with
  |.int k n=>some (.int k n)
  |.bool b=>some (.bool b)
  |.string s=>some (.str s)
  |.pointer none=>some .nptr
  |.slice none n c=>match Nat.beq n 0 with
   |true=>match Nat.beq c 0 with
    |true=>some .nslc
    |false=>none
   |false=>none
  |.map none=>some .nmap
  |.nilFunc=>some .nfunc
  |.nilIface=>some .niface
  |.agg cs=>match B19 (ofV d) cs.toList with
   |some l=>some (.agg l)
   |none=>none
  |_=>none
theorem A0P{β:As}{f:Value→Option XV}(hf:∀v x,f v=some x→val β x=v∧∀n,clo n x=true):∀{l:C3E} {r:List XV},B19 f l=some r→vals β r=l∧∀n,S9 n r=true
 |[],_,h=>by cases h;exact⟨rfl,fun _=>rfl⟩
 |v::l,r,h=>by
  simp only[B19] at h
  split at h
  ·rename_i y hy
   split at h
   ·rename_i ys iM
    cases h
    obtain⟨h1,h2⟩:=hf v y hy
    obtain⟨h3,h4⟩:=A0P hf iM
    refine⟨by simp only[vals];rw[h1,h3],fun n=>?_⟩
    simp only[S9]
    rw[h2 n]
    exact h4 n
   ·cases h
  ·cases h
theorem A1D{β:As}:∀(d:Nat) (v:Value) (x:XV),ofV d v=some x→val β x=v∧∀n,clo n x=true
 |0,_,_,h=>by cases h
 |d+1,v,x,h=>by
  simp only[ofV] at h
  split at h
  all_goals first
   |(cases h;done)
   |(cases h;exact⟨rfl,fun _=>rfl⟩)
   |skip
  ·split at h
   ·rename_i hn
    split at h
    ·rename_i hc
     cases h
     rw[B0 hn,B0 hc]
     exact⟨rfl,fun _=>rfl⟩
    ·cases h
   ·cases h
  ·split at h
   ·rename_i l hl
    cases h
    obtain⟨h1,h2⟩:=A0P (fun v x=>A1D d v x) hl
    refine⟨?_,h2⟩
    simp only[val]
    rw[h1]
   ·cases h
def B1u:Tag→XV→Bool
 |.int k,.int k' _=>A1e k k'
 |.bool,.bool _=>true
 |.str,.str _=>true
 |.ptr,.nptr=>true
 |.ptr,.ptr _ _=>true
 |.ptr,.eptr _ _=>true
 |.ptr,.gptr _ _=>true
 |.slc,.nslc=>true
 |.slc,.slc _=>true
 |.map,.nmap=>true
 |.map,.map _=>true
 |.any,.agg _=>false
 |.any,.aQ _=>false
 |.any,_=>true
 |_,_=>false
theorem A7R{β:As}{t:Tag}{x:XV}(h:B1u t x=true):(∃y,t.get (val β x)=some y)∧(val β x).oneCell'=true:=by
 cases t<;>cases x<;>simp only[B1u] at h<;>first
  |(cases h;done)
  |(exact⟨⟨_,rfl⟩,rfl⟩)
  |(refine⟨?_,rfl⟩;simp only[val,Tag.get];rw[if_pos h];exact⟨_,rfl⟩)
def B2J:List Tag→List XV→Bool
 |[],[]=>true
 |t::ts,x::xs=>match B1u t x with
  |true=>B2J ts xs
  |false=>false
 |_,_=>false
theorem A8d{β:As}:∀{ts:List Tag} {xs:List XV},B2J ts xs=true→∃y,Tup.get ts (vals β xs)=some y∧Tup.vals ts y=vals β xs
 |[],[],_=>⟨(),rfl,rfl⟩
 |[],_::_,h=>by cases h
 |_::_,[],h=>by cases h
 |t::ts,x::xs,h=>by
  simp only[B2J] at h
  split at h
  ·rename_i ht
   obtain⟨⟨y,hy⟩,-⟩:=A7R (β:=β) ht
   obtain⟨ys,iM,hv⟩:=A8d (β:=β) h
   have e:Tup.get (t::ts) (vals β (x::xs))=some (y,ys):=by
    simp only[vals,Tup.get,HT.get] at iM⊢
    rw[hy,iM]
   exact⟨(y,ys),e,(Tup.aP _ _ _ e).symm⟩
  ·cases h
theorem V6(β:As)(l:List XV):(vals β l).length=l.length:=by rw[R1];simp
def A1s(kd:Kind)(x:XV):Option (List XV):=
 match kd with
 |.one _=>some [x]
 |.agg ts=>match x with
  |.agg cs=>match Nat.beq cs.length ts.length with
   |true=>some cs
   |false=>none
  |_=>none
theorem A3e{β:As}{kd:Kind}{x:XV}{cs:List XV}(h:A1s kd x=some cs):Y3 kd (val β x)=some (vals β cs):=by
 cases kd with
 |one t=>simp only[A1s] at h;cases h;rfl
 |agg ts=>
  simp only[A1s] at h
  cases x<;>simp only at h<;>try(cases h;done)
  split at h
  ·rename_i hb
   cases h
   simp only[Y3,val]
   rw[V6,hb]
  ·cases h
def A6B:List XV→Nat→List XV→List XV
 |cs,_,[]=>cs
 |[],_,_::_=>[]
 |_::cs,0,v::vs=>v::A6B cs 0 vs
 |c::cs,n+1,v::vs=>c::A6B cs n (v::vs)
theorem A8h{β:As}:∀(cs:List XV) (n:Nat) (vs:List XV),vals β (A6B cs n vs)=V4 (vals β cs) n (vals β vs)
 |cs,n,[]=>by cases cs<;>cases n<;>simp[A6B,V4,vals]
 |[],n,_::_=>by simp[A6B,V4,vals]
 |_::cs,0,v::vs=>by simp only[A6B,vals,V4];rw[A8h cs 0 vs]
 |c::cs,n+1,v::vs=>by
  have:=A8h (β:=β) cs n (v::vs)
  simp only[vals] at this
  simp only[A6B,vals,V4]
  rw[this]
def A8j(place:Nat→Option (Nat×Kind)):List XV→List (Nat×XV)→Option (List XV)
 |cs,[]=>some cs
 |cs,(i,v)::rest=>match place i with
  |some (off,kd)=>match A1s kd v with
   |some vs=>match Nat.ble (off+vs.length) cs.length with
    |true=>A8j place (A6B cs off vs) rest
    |false=>none
   |none=>none
  |none=>none
def A6X(β:As)(ps:List (Nat×XV)):List (Nat×Value):=ps.map fun p=>(p.1,val β p.2)
theorem A4A{β:As}{place:Nat→Option (Nat×Kind)}:∀(ps:List (Nat×XV)) (cs r:List XV),A8j place cs ps=some r→z8 place (vals β cs) (A6X β ps)=some (vals β r)
 |[],cs,r,h=>by simp only[A8j] at h;cases h;rfl
 |(i,v)::rest,cs,r,h=>by
  simp only[A8j] at h
  simp only[A6X,B6,z8]
  split at h
  ·rename_i off kd hp
   rw[hp]
   split at h
   ·rename_i vs al
    split at h
    ·rename_i hle
     simp only[A3e (β:=β) al,V6,hle]
     rw[←A8h]
     exact A4A rest _ r h
    ·cases h
   ·cases h
  ·cases h
def B6s(place:Nat→Option (Nat×Kind)):List (Nat×XV)→Bool
 |[]=>true
 |(i,v)::rest=>match place i with
  |some (_,kd)=>match(match kd with
   |.one tg=>B1u tg v
   |.agg _=>true) with
   |true=>B6s place rest
   |false=>false
  |none=>false
theorem B0I{ρ:Type}{L:List Asn}{Q:ρ→Heap→Prop}{m:HM ρ}{β:As}{kd:Kind}{x:XV}(h:(match kd with|.one tg=>B1u tg x|.agg _=>true)=true)(hm:W L m Q):W L (A5U kd (val β x) m) Q:=by
 cases kd with
 |agg ts=>exact hm
 |one tg=>
  simp only at h
  obtain⟨⟨y,hy⟩,hc⟩:=A7R (β:=β) h
  simp only[A5U]
  split
  ·exact W6 hm hc
  ·rw[hy];exact hm
theorem A7S{ρ:Type}{L:List Asn}{Q:ρ→Heap→Prop}{m:HM ρ}{β:As}{place:Nat→Option (Nat×Kind)}:∀(ps:List (Nat×XV)),B6s place ps=true→W L m Q→W L (y0 place (A6X β ps) m) Q
 |[],_,hm=>hm
 |(i,v)::rest,h,hm=>by
  simp only[B6s] at h
  simp only[A6X,B6,y0]
  split at h
  ·rename_i off kd hp
   rw[hp]
   split at h
   ·rename_i hk
    exact B0I hk (A7S rest h hm)
   ·cases h
  ·cases h
section
variable {ρ:Type} {L:List Asn} {Q:ρ→Heap→Prop} {k:Value→HM ρ} {P:Program} {β:As}
def B7H(P:Program)(t:TypeId)(cs:List XV)(off:Nat):Option XV:=
 match P.underlying t with
 |some d=>match A1I d with
  |true=>some (.agg ((cs.drop off).take (P.cellsOf t)))
  |false=>cs[off]?
 |none=>none
theorem B7G{t:TypeId}{cs:List XV}{off:Nat}{x:XV}(h:B7H P t cs off=some x):l8 P t (vals β cs) off=some (val β x):=by
 unfold B7H at h
 unfold l8
 split at h
 ·rename_i d hd
  rw[hd]
  split at h
  ·rename_i ha
   cases h
   simp only[ha,val,R1,H0,H2]
  ·rename_i ha
   simp only[ha]
   rw[R1,H6,h]
   rfl
 ·cases h
def B4F(P:Program)(t:TypeId)(x:XV)(f:Nat):Option XV:=
 match x with
 |.agg cs=>match P.underlying t with
  |some (.struct fields)=>match fields.toList[f]? with
   |some fd=>B7H P fd.type cs fd.offset
   |none=>none
  |_=>none
 |_=>none
theorem B6A{t:TypeId}{x v:XV}{f:Nat}(h:B4F P t x f=some v)(hk:W L (k (val β v)) Q):W L (A2P P t (val β x) f k) Q:=by
 unfold B4F at h
 split at h
 ·split at h
  ·rename_i fields ht
   split at h
   ·rename_i fd hf
    have:=B7G (β:=β) h
    simp only[val,A2P,ht,hf,this]
    exact hk
   ·cases h
  ·cases h
 ·cases h
def B9I(x:XV)(n:Nat):Option XV:=
 match x with
 |.ptr k o=>some (.ptr k (o+n))
 |.eptr k o=>some (.eptr k (o+n))
 |.gptr k o=>some (.gptr k (o+n))
 |_=>none
theorem A6x(b o n:Nat):(A2Y b o).add n=A2Y b (o+n):=by
 unfold A2Y Addr.add
 split
 ·rename_i h;subst h;rfl
 ·rfl
def B4J(P:Program)(t:TypeId)(ps:List (Nat×XV)):Option XV:=
 match P.underlying t with
 |some (.struct fields)=>match A3C P fields.toList with
  |true=>match P.info? t with
   |some i=>match i.zero with
    |some z=>match B19 (ofV 4) z.cells.toList with
     |some zs=>match A8j (Y8 P fields) zs ps with
      |some cs=>chk (B6s (Y8 P fields) ps) (.agg cs)
      |none=>none
     |none=>none
    |none=>none
   |none=>none
  |false=>none
 |some (.array _ elem)=>match P.info? t with
  |some i=>match i.zero with
   |some z=>match P.info? elem with
    |some _=>match B19 (ofV 4) z.cells.toList with
     |some zs=>match A8j (T5 P elem) zs ps with
      |some cs=>chk (B6s (T5 P elem) ps) (.agg cs)
      |none=>none
     |none=>none
    |none=>none
   |none=>none
  |none=>none
 |_=>none
theorem B6F{t:TypeId}{ps:List (Nat×XV)}{v:XV}(h:B4J P t ps=some v)(hk:W L (k (val β v)) Q):W L (A2S P t (A6X β ps) k) Q:=by
 unfold B4J at h
 unfold A2S
 split at h
 ·rename_i fields ht
  rw[ht]
  split at h
  ·rename_i ha
   split at h
   ·rename_i i hi
    split at h
    ·rename_i z hz
     split at h
     ·rename_i zs fK
      split at h
      ·rename_i cs cJ
       obtain⟨h1,rfl⟩:=A1T h
       have e1:=(A0P (β:=β) (fun v x=>A1D 4 v x) fK).1
       have e2:=A4A (β:=β) _ _ _ cJ
       rw[e1] at e2
       simp only[ha,hi,hz,e2]
       refine A7S ps h1 ?_
       exact hk
      ·cases h
     ·cases h
    ·cases h
   ·cases h
  ·cases h
 ·rename_i n elem ht
  rw[ht]
  split at h
  ·rename_i i hi
   split at h
   ·rename_i z hz
    split at h
    ·rename_i ie fD
     split at h
     ·rename_i zs fK
      split at h
      ·rename_i cs cJ
       obtain⟨h1,rfl⟩:=A1T h
       have e1:=(A0P (β:=β) (fun v x=>A1D 4 v x) fK).1
       have e2:=A4A (β:=β) _ _ _ cJ
       rw[e1] at e2
       simp only[hi,hz,fD,e2]
       refine A7S ps h1 ?_
       exact hk
      ·cases h
     ·cases h
    ·cases h
   ·cases h
  ·cases h
 ·cases h
end
end
section
open Go.H
section
variable {L:List Asn} {β:As} {h:Heap}
theorem P0{s:XSt}{k:Nat}{f:XF}(hl:look k s=some f)(hs:sat h (asn β s++L)):∃R,sat h (fact β (k,f)::R):=by
 obtain⟨r,hr⟩:=A3q hl
 exact⟨_,(P3 hr).s hs⟩
theorem a8{k size:Nat}{es:List (List XV)}{R:List Asn}:sat h (A1B β k size es::R)↔∃xs:List (VS size),(xs.map (·.1)=es.map (vals β)∧0<size)∧sat h (N4 (vsV (size:=size)) size (β.s k) xs::R):=by
 unfold A1B
 rw[sat.bC]
 simp only[sat.aH,sat.aN]
theorem A57{k size i:Nat}{es:List (List XV)}{row:List XV}{R:List Asn}(hs:sat h (A1B β k size es::R))(hi:es[i]? =some row):
  0<size∧row.length=size∧(β.s k).len=es.length∧∃a,(β.s k).a=some a∧∀j v,(vals β row)[j]? =some v→O5 h ((a.add (i*size)).add j)=some v:=by
 obtain⟨xs,⟨hx,h0⟩,hs⟩:=a8.1 hs
 obtain⟨h1,h2,h3⟩:=hs.aI (fun x=>x.2.1)
 have af:i<xs.length:=by
  have:=congrArg List.length hx
  simp only[C9] at this
  rw[this]
  exact(C4.1 hi).1
 have jf:xs[i]? =some xs[i]:=B2 af
 have he:(xs[i]).1=vals β row:=by
  have e1:=congrArg (fun l:List (C3E)=>l[i]?) hx
  simp only[H6,jf,hi,F3,C3] at e1
  exact e1
 obtain⟨a,ha,hc⟩:=h3 i _ jf
 refine⟨h0,?_,?_,a,ha,fun j v hv=>hc j v (by rw[show vsV xs[i]=vals β row from he];exact hv)⟩
 ·have:=(xs[i]).2.1
  rw[he,V6] at this
  exact this
 ·rw[h1]
  have:=congrArg List.length hx
  simpa using this
def B1F(s:XSt)(a:XV):Option (List XV):=
 match a with
 |.ptr k o=>match look k s with
  |some (.cells _ cs)=>some (cs.drop o)
  |_=>none
 |.eptr k o=>match look k s with
  |some (.own size es)=>match es[o / size]? with
   |some row=>some (row.drop (o % size))
   |none=>none
  |_=>none
 |_=>none
theorem A29(a:Addr)(m n:Nat):(a.add m).add n=a.add (m+n):=by
 unfold Addr.add
 by_cases hm:m=0
 ·subst hm;simp
 ·by_cases hn:n=0
  ·subst hn;simp
  ·rw[if_neg hm,if_neg hn,if_neg (by omega)]
   simp[Nat.add_assoc]
theorem B0p{s:XSt}{a:XV}{cs:List XV}(hx:B1F s a=some cs)(hs:sat h (asn β s++L)):∃ad,val β a=.pointer (some ad)∧∀j v,(vals β cs)[j]? =some v→O5 h (ad.add j)=some v:=by
 unfold B1F at hx
 split at hx
 ·rename_i k o
  split at hx
  ·rename_i T pn hl
   cases hx
   obtain⟨R,aa⟩:=P0 (L:=L) hl hs
   refine⟨_,rfl,fun j v hv=>?_⟩
   rw[A6x]
   have:=Go.H.sat.cell (T9.2 ⟨_,aa⟩) (o+j)
   rw[R1] at hv
   simp only[H2,I9] at hv
   rw[show A2Y (β.b k) (o+j)=⟨β.b k,o+j,none⟩ from rfl,this]
   simpa[R1] using hv
  ·cases hx
 ·rename_i k o
  split at hx
  ·rename_i size es hl
   split at hx
   ·rename_i row hr
    cases hx
    obtain⟨R,aa⟩:=P0 (L:=L) hl hs
    obtain⟨h0,h1,h2,a,ha,hc⟩:=A57 aa hr
    refine⟨a.add o,by simp only[val,ha,F3],fun j v hv=>?_⟩
    have e:o=o / size*size+o % size:=by rw[Nat.mul_comm];exact(Nat.div_add_mod o size).symm
    rw[R1] at hv
    simp only[H2,I9] at hv
    have:=hc (o % size+j) v (by rw[R1];exact hv)
    rw[A29] at this⊢
    rw[show o+j=o / size*size+(o % size+j) by omega]
    exact this
   ·cases hx
  ·cases hx
 ·cases hx
end
section
variable {ρ:Type} {L:List Asn} {Q:ρ→Heap→Prop} {k:Value→HM ρ} {P:Program} {β:As}
def B5R(P:Program)(t:TypeId)(s:XSt)(a:XV):Option XV:=
 match P.underlying t with
 |some d=>match A1I d with
  |true=>match kindOf P t with
   |some (.agg ts)=>match Nat.beq ts.length (P.cellsOf t) with
    |true=>match B1F s a with
     |some cs=>chk (B2J ts (cs.take ts.length)) (.agg (cs.take ts.length))
     |none=>none
    |false=>none
   |_=>none
  |false=>match kindOf P t with
   |some (.one tg)=>match B1F s a with
    |some (x::_)=>chk (B1u tg x) x
    |_=>none
   |_=>none
 |none=>none
theorem B2T{t:TypeId}{s:XSt}{a v:XV}(h:B5R P t s a=some v)(hk:W (asn β s++L) (k (val β v)) Q):W (asn β s++L) (A1Q P t (val β a) k) Q:=by
 intro hp hs
 unfold B5R at h
 split at h
 ·rename_i d hd
  split at h
  ·rename_i gQ
   split at h
   ·rename_i ts bt
    split at h
    ·rename_i fb
     split at h
     ·rename_i cs cJ
      obtain⟨h1,rfl⟩:=A1T h
      obtain⟨ad,ha,hc⟩:=B0p (L:=L) cJ hs
      obtain⟨y,hy,hv⟩:=A8d (β:=β) h1
      simp only[A1Q,ha,hd,gQ,bt,fb]
      refine⟨y,fun i u hu=>?_,?_⟩
      ·refine hc i u ?_
       rw[hv,R1,H0,G9] at hu
       split at hu
       ·rw[R1];exact hu
       ·cases hu
      ·have:=hk hp hs
       simp only[val] at this
       rw[←hv] at this
       exact this
     ·cases h
    ·cases h
   ·cases h
  ·rename_i gQ
   split at h
   ·rename_i tg bt
    split at h
    ·rename_i x cs cJ
     obtain⟨h1,rfl⟩:=A1T h
     obtain⟨ad,ha,hc⟩:=B0p (L:=L) cJ hs
     obtain⟨⟨y,hy⟩,-⟩:=A7R (β:=β) h1
     simp only[A1Q,ha,hd,gQ,bt]
     have h0:=hc 0 (val β x) rfl
     rw[add_zero] at h0
     refine⟨y,by rw[h0,←Tag.aS hy],?_⟩
     have:=hk hp hs
     rw[Tag.aS hy] at this
     exact this
    ·cases h
   ·cases h
 ·cases h
end
end
section
open Go.H
section
variable {ρ τ:Type} {L:List Asn} {Q:ρ→Heap→Prop} {k:Value→HM ρ} {P:Program} {β:As}
theorem B00{cs:C3D}{T:TypeId}{zs:List XV}{n:Nat}{s:XSt}{f:Nat→HM ρ}(ae:O4 n s)(hz:∀γ,Agr n β γ→(vals γ zs).toArray=cs)
  (hk:∀γ,Agr n β γ→W (asn γ (add n (.cells T zs) s)++L) (f (γ.b n)) Q):W (asn β s++L) (HM.bind (HM.new (.cells cs T)) f) Q:=by
 intro h hs
 refine B14 hs fun b h' ah=>?_
 have ha:Agr n β (β.aT n b):=A27
 have hb:(β.aT n b).b n=b:=by simp[As.aT]
 have:=hk _ ha
 rw[hb] at this
 refine W.sub this ?_ h' ah
 have e:=A1v (β:=β.aT n b) (L:=L) ae (.cells T zs)
 rw[←A0X ha ae] at e
 simp only[fact,hb,hz _ ha] at e
 exact e
def B4L(P:Program)(t:TypeId)(n:Nat)(s:XSt):Option (XV×XSt):=
 match P.info? t with
 |some i=>match i.zero with
  |some z=>match B19 (ofV 4) z.cells.toList with
   |some zs=>some (.ptr n 0,add n (.cells t zs) s)
   |none=>none
  |none=>none
 |none=>none
theorem B6G{t:TypeId}{n:Nat}{s s':XSt}{v:XV}(h:B4L P t n s=some (v,s'))(ae:O4 n s)(hk:∀γ,Agr n β γ→O4 (n+1) s'→W (asn γ s'++L) (k (val γ v)) Q):W (asn β s++L) (A2U P t k) Q:=by
 unfold B4L at h
 split at h
 ·rename_i i hi
  split at h
  ·rename_i z hz
   split at h
   ·rename_i zs fK
    cases h
    simp only[A2U,hi,hz]
    have hc:=(A0P (β:=β) (fun v x=>A1D 4 v x) fK).2
    refine B00 ae (fun γ _=>?_) (fun γ hγ=>hk γ hγ (ae.new (hc _)))
    rw[(A0P (β:=γ) (fun v x=>A1D 4 v x) fK).1]
   ·cases h
  ·cases h
 ·cases h
def C0R(P:Program)(t:TypeId)(v:XV)(n:Nat)(s:XSt):Option (XV×XSt):=
 match kindOf P t with
 |some kd=>match A1s kd v with
  |some cs=>match(match kd with
   |.one tg=>B1u tg v
   |.agg _=>true) with
   |true=>match S9 n cs with
    |true=>some (.ptr n 0,add n (.cells t cs) s)
    |false=>none
   |false=>none
  |none=>none
 |none=>none
theorem B9G{t:TypeId}{n:Nat}{s s':XSt}{x v:XV}(h:C0R P t x n s=some (v,s'))(ae:O4 n s)(hk:∀γ,Agr n β γ→O4 (n+1) s'→W (asn γ s'++L) (k (val γ v)) Q):W (asn β s++L) (A9G P t (val β x) k) Q:=by
 unfold C0R at h
 split at h
 ·rename_i kd bt
  split at h
  ·rename_i cs cJ
   split at h
   ·rename_i hr
    split at h
    ·rename_i hc
     cases h
     simp only[A9G,bt,A3e (β:=β) cJ]
     refine B0I hr ?_
     refine B00 ae (fun γ hγ=>by rw[u7 hγ cs hc]) (fun γ hγ=>hk γ hγ (ae.new (j9 (E7 _) cs hc)))
    ·cases h
   ·cases h
  ·cases h
 ·cases h
def B7M(n:Nat)(s:XSt)(ks:Nat):XV×XSt:=
 (.map n,add n (match ks with
  |0=>.mapI []
  |1=>.mapS []
  |2=>.mapT []
  |_=>.mapP []) s)
theorem B9D{n ks:Nat}{s:XSt}(ae:O4 n s)(hk:∀γ,Agr n β γ→O4 (n+1) (B7M n s ks).2→W (asn γ (B7M n s ks).2++L) (k (val γ (B7M n s ks).1)) Q):
  W (asn β s++L) (HM.bind (HM.new (.map #[] 0)) fun r=>k (.map (some r))) Q:=by
 have go:∀f:XF,A1S (n+1) f=true→(∀b h R,sat h (blk b (.map #[] 0)::R)→sat h (fact (β.aT n b) (n,f)::R))→
   (∀γ,Agr n β γ→O4 (n+1) (add n f s)→W (asn γ (add n f s)++L) (k (.map (some (γ.b n)))) Q)→W (asn β s++L) (HM.bind (HM.new (.map #[] 0)) fun r=>k (.map (some r))) Q:=by
  intro f hf qt hk h hs
  refine B14 hs fun b h' ah=>?_
  have ha:Agr n β (β.aT n b):=A27
  have hb:(β.aT n b).b n=b:=by simp[As.aT]
  have:=hk _ ha (ae.new hf)
  rw[hb] at this
  refine this h' ?_
  refine(A1v (β:=β.aT n b) (L:=L) ae f).s ?_
  rw[←A0X ha ae]
  exact qt b h' _ ah
 have hb:∀b,(β.aT n b).b n=b:=fun b=>by simp[As.aT]
 have mk:∀{K:Type} {ek:K→Value} {ev:XV→Value} {b:Nat} {h:Heap} {R:List Asn},sat h (blk b (.map #[] 0)::R)→sat h (mapA ek ev b []::R):=fun hs=>T7.2 ⟨#[],0,⟨rfl,Go.MapKept.stamped_empty 0⟩,hs⟩
 match ks,hk with
 |0,hk=>exact go (.mapI []) rfl (fun b h R hs=>by simp only[fact,hb];exact mk hs) hk
 |1,hk=>exact go (.mapS []) rfl (fun b h R hs=>by simp only[fact,hb];exact mk hs) hk
 |2,hk=>exact go (.mapT []) rfl (fun b h R hs=>by simp only[fact,hb];exact mk hs) hk
 |_+3,hk=>exact go (.mapP []) rfl (fun b h R hs=>by simp only[fact,hb];exact mk hs) hk
end
end
section
open Go.H
def B7B:XV→Bool
 |.agg _=>false
 |.aQ _=>false
 |_=>true
theorem B1v{β:As}{x:XV}(h:B7B x=true):(val β x).oneCell'=true:=by cases x<;>first|rfl|cases h
def A0t:List XV→Bool
 |[]=>true
 |x::xs=>match B7B x with
  |true=>A0t xs
  |false=>false
theorem A8i{β:As}:∀{l:List XV},A0t l=true→∀v∈vals β l,v.oneCell'=true
 |[],_,v,hv=>by cases hv
 |x::l,h,v,hv=>by
  simp only[A0t] at h
  split at h
  ·rename_i hx
   simp only[vals] at hv
   rcases B9.1 hv with rfl|hv
   ·exact B1v hx
   ·exact A8i h v hv
  ·cases h
theorem A2V{n:Nat}:∀{l:List XV},S9 n l=true↔∀x∈l,clo n x=true
 |[]=>by simp[S9]
 |x::l=>by
  simp only[S9]
  have:=A2V (n:=n) (l:=l)
  split
  ·rename_i h;simp[h,this]
  ·rename_i h
   constructor
   ·intro h2;cases h2
   ·intro h2;have:=h2 x (B7 ..);rw[h] at this;cases this
section
variable {ρ τ:Type} {L:List Asn} {Q:ρ→Heap→Prop} {k:Value→HM ρ} {P:Program} {β:As}
def A2m(old:List XV)(o:Nat)(cs:List XV):List XV:=old.take o++(cs++old.drop (o+cs.length))
theorem B6t(old:List XV)(o:Nat)(cs:List XV):vals β (A2m old o cs)=(vals β old).take o++(vals β cs++(vals β old).drop (o+(vals β cs).length)):=by
 simp only[A2m,R1,C7,H0,H2,C9]
theorem B0k{n:Nat}{old cs:List XV}{o:Nat}(h1:S9 n old=true)(h2:S9 n cs=true):S9 n (A2m old o cs)=true:=by
 rw[A2V] at*
 intro x hx
 simp only[A2m,J7] at hx
 rcases hx with hx|hx|hx
 ·exact h1 x (E6 hx)
 ·exact h2 x hx
 ·exact h1 x (J3 hx)
theorem A6G{n j o T:Nat}{s r:XSt}{old cs:List XV}{f:Unit→HM ρ}(hp:pick j s=some (.cells T old,r))(hl:o+cs.length≤old.length)(h1:A0t cs=true)
  (hk:W (asn β (back j (.cells T (A2m old o cs)) r)++L) (f ()) Q):W (asn β s++L) (HM.bind (A0f (A2Y (β.b j) o) (vals β cs)) f) Q:=by
 intro h hs
 have aa:=(P3 (β:=β) (L:=L) hp).s hs
 have cy:sat h (blk (β.b j) (.cells (vals β old).toArray T (0,0))::(asn β r++L)):=aa
 have jI:o+(vals β cs).length≤(vals β old).toArray.size:=by simp only[V6,I2];exact hl
 refine⟨A0l (T9.2 ⟨_,cy⟩) jI (A8i h1),?_⟩
 obtain⟨cs',e1,e2,ai⟩:=A9N (vals β cs) (vals β old).toArray o 0 cy (by omega)
 refine hk _ ?_
 refine(S3 (β:=β) (L:=L) hp _).s ?_
 show sat _ (blk (β.b j) (.cells (vals β (A2m old o cs)).toArray T (0,0))::(asn β r++L))
 have:cs'=(vals β (A2m old o cs)).toArray:=by
  apply D3.1
  rw[e2,B6t]
  simp
 rw[this] at ai
 exact ai
theorem B27{a:Addr}{v:Value}{f:Unit→HM ρ}(h:W L (HM.bind (A0f a [v]) f) Q):W L (HM.bind (A3d a v) f) Q:=by
 intro hp hs
 obtain⟨h1,h2⟩:=h hp hs
 obtain⟨a1,a2,a3⟩:=h1 0 v rfl
 rw[add_zero] at a1 a2
 refine⟨a1,a2,a3,?_⟩
 simp only[S8,add_zero] at h2
 exact h2
def B4u(P:Program)(t:TypeId)(n:Nat)(s:XSt)(a v:XV):Option XSt:=
 match kindOf P t with
 |some kd=>match A1s kd v with
  |some cs=>match Nat.beq cs.length (P.cellsOf t) with
   |true=>match A0t cs with
    |true=>match S9 n cs with
     |true=>match a with
      |.ptr j o=>match pick j s with
       |some (.cells T old,r)=>match Nat.ble (o+cs.length) old.length with
        |true=>some (back j (.cells T (A2m old o cs)) r)
        |false=>none
       |_=>none
      |_=>none
     |false=>none
    |false=>none
   |false=>none
  |none=>none
 |none=>none
theorem B6u{t:TypeId}{n:Nat}{s s':XSt}{a v:XV}(h:B4u P t n s a v=some s')(ae:O4 n s)(hk:O4 n s'→W (asn β s'++L) (k undef) Q):W (asn β s++L) (A0E P t (val β a) (val β v) k) Q:=by
 unfold B4u at h
 split at h
 ·rename_i kd bt
  split at h
  ·rename_i cs cJ
   split at h
   ·rename_i fb
    split at h
    ·rename_i h1
     split at h
     ·rename_i hc
      split at h
      ·rename_i j o
       split at h
       ·rename_i T old r hp
        split at h
        ·rename_i hle
         cases h
         have cg:O4 n (back j (.cells T (A2m old o cs)) r):=ae.put hp (B0k (ae _ _ (S5 hp).1).2 hc)
         have iD:Nat.beq (vals β cs).length (P.cellsOf t)=true:=by rw[V6];exact fb
         simp only[val,A0E,bt,A3e (β:=β) cJ,iD]
         cases kd with
         |one tg=>
          simp only[A1s] at cJ
          cases cJ
          refine B27 ?_
          exact A6G (n:=n) (cs:=[v]) hp (B1 hle) h1 (hk cg)
         |agg ts=>
          exact A6G (n:=n) hp (B1 hle) h1 (hk cg)
        ·cases h
       ·cases h
      ·cases h
     ·cases h
    ·cases h
   ·cases h
  ·cases h
 ·cases h
def B0o(s:XSt):XV→Bool
 |.ptr _ _=>true
 |.gptr _ _=>true
 |.eptr j o=>match look j s with
  |some (.own size es)=>Nat.blt (o / size) es.length
  |_=>false
 |_=>false
theorem A8p{s:XSt}{a b:XV}{n:Nat}{h:Heap}(h1:B0o s a=true)(h2:B9I a n=some b)(hs:sat h (asn β s++L)):∃ad,val β a=.pointer (some ad)∧val β b=.pointer (some (ad.add n)):=by
 cases a<;>simp only[B0o] at h1<;>try(cases h1;done)
 ·cases h2;exact⟨_,rfl,by simp only[val,A6x]⟩
 ·rename_i j o
  split at h1
  ·rename_i size es hl
   cases h2
   obtain⟨R,aa⟩:=P0 (L:=L) hl hs
   have af:o / size<es.length:=by simpa using h1
   obtain⟨-,-,-,ad,ha,-⟩:=A57 aa (B2 af)
   exact⟨ad.add o,by simp only[val,ha,F3],by simp only[val,ha,F3,A29]⟩
  ·cases h1
 ·cases h2;exact⟨_,rfl,by simp only[val,A6x]⟩
def A36(P:Program)(t:TypeId)(s:XSt)(a:XV)(f:Nat):Option XV:=
 match P.underlying t with
 |some (.struct fields)=>match fields.toList[f]? with
  |some fd=>match Nat.ble 1 (P.cellsOf fd.type) with
   |true=>match B0o s a with
    |true=>B9I a fd.offset
    |false=>none
   |false=>none
  |none=>none
 |_=>none
theorem A9Z{t:TypeId}{s:XSt}{a v:XV}{f:Nat}(h:A36 P t s a f=some v)(hk:W (asn β s++L) (k (val β v)) Q):W (asn β s++L) (m5 P t (val β a) f k) Q:=by
 intro hp hs
 unfold A36 at h
 split at h
 ·rename_i fields ht
  split at h
  ·rename_i fd hf
   split at h
   ·rename_i hc
    split at h
    ·rename_i h1
     obtain⟨ad,e1,e2⟩:=A8p (L:=L) h1 h hs
     have:=hk hp hs
     rw[e2] at this
     simp only[e1,m5,ht,hf,hc]
     exact this
    ·cases h
   ·cases h
  ·cases h
 ·cases h
def A5O(s:XSt)(a:XV):Option XV:=
 match a with
 |.func f first cap=>some (.func f first cap)
 |a=>chk (B0o s a) a
theorem B1D{s:XSt}{a v:XV}(h:A5O s a=some v)(hk:W (asn β s++L) (k (val β v)) Q):W (asn β s++L) (A2M (val β a) k) Q:=by
 intro hp hs
 unfold A5O at h
 split at h
 ·cases h;exact hk hp hs
 ·rename_i hn
  obtain⟨h1,rfl⟩:=A1T h
  obtain⟨b,hb⟩:∃b,B9I a 0=some b:=by
   cases a<;>simp only[B0o] at h1<;>first|(cases h1;done)|exact⟨_,rfl⟩
  obtain⟨ad,e1,-⟩:=A8p (L:=L) h1 hb hs
  have:=hk hp hs
  rw[e1] at this⊢
  exact⟨ad,rfl,this⟩
end
end
section
open Go.H
section
variable {ρ τ:Type} {L:List Asn} {Q:ρ→Heap→Prop} {k:Value→HM ρ} {P:Program} {β:As}
theorem own_len{j size:Nat}{es:List (List XV)}{R:List Asn}{h:Heap}(hs:sat h (A1B β j size es::R)):(β.s j).len=es.length:=by
 obtain⟨xs,⟨hx,h0⟩,hs⟩:=a8.1 hs
 rw[hs.own_len]
 have:=congrArg List.length hx
 simpa using this
theorem own_le{j size:Nat}{es:List (List XV)}{R:List Asn}{h:Heap}(hs:sat h (A1B β j size es::R)):(β.s j).len≤(β.s j).cap:=by
 obtain⟨xs,⟨hx,h0⟩,hs⟩:=a8.1 hs
 exact hs.own_le
def res:Nat→XSt→Nat→Option (Nat×Nat×Nat×List (List XV))
 |0,_,_=>none
 |f+1,s,j=>match look j s with
  |some x=>match x with
   |.own z es=>some (j,z,0,es)
   |.view i z lo hi mx=>match res f s i with
    |some (k,z2,off,rows)=>match Nat.beq z z2 with
     |true=>match Nat.ble hi rows.length with
      |true=>match Nat.ble lo hi with
       |true=>some (k,z,off+lo,(rows.take hi).drop lo)
       |false=>none
      |false=>none
     |false=>none
    |none=>none
   |_=>none
  |none=>none
structure B1r(β:As)(s:XSt)(j k z off:Nat)(rows:List (List XV)):Prop where
 own:∃es,look k s=some (.own z es)∧off+rows.length≤es.length∧rows=(es.drop off).take rows.length
 len:(β.s j).len=rows.length
 le:(β.s j).len≤(β.s j).cap
 addr:0<rows.length→(β.s j).a=(β.s k).a.map (·.add (off*z))
theorem add_add(a:Addr)(x y:Nat):(a.add x).add y=a.add (x+y):=by
 cases a
 by_cases hx:x=0<;>by_cases hy:y=0<;>simp[Addr.add,hx,hy,Nat.add_assoc]
theorem B82(a:Addr):a.add 0=a:=by
 cases a;simp[Addr.add]
theorem A5T:∀(f:Nat) {s:XSt} {j k z off:Nat} {rows:List (List XV)} {h:Heap},res f s j=some (k,z,off,rows)→sat h (asn β s++L)→B1r β s j k z off rows
 |0,_,_,_,_,_,_,_,hr,_=>by cases hr
 |f+1,s,j,k,z,off,rows,h,hr,hs=>by
  unfold res at hr
  split at hr
  ·rename_i x hl
   split at hr
   ·rename_i z' es
    cases hr
    obtain⟨R,aa⟩:=P0 (L:=L) hl hs
    refine⟨⟨_,hl,by omega,by simp⟩,own_len aa,own_le aa,fun _=>?_⟩
    rw[I1]
    simp only[B82,Option.map_id']
   ·rename_i i z' lo hi mx
    split at hr
    ·rename_i k' z2 off' rows' bf
     split at hr
     ·rename_i h1
      split at hr
      ·rename_i h2
       split at hr
       ·rename_i h3
        cases hr
        have dQ:=B0 h1
        subst dQ
        have eA:=B1 h2
        have dm:=B1 h3
        obtain⟨⟨es,o1,o2,o3⟩,cD,eR,gk⟩:=A5T f bf hs
        obtain⟨R,aa⟩:=P0 (L:=L) hl hs
        obtain⟨⟨p1,p2,p3,p4⟩,-⟩:=(sat.aN ..).1 (show sat h (pr (lo≤hi∧hi≤mx.getD (β.s i).cap∧mx.getD (β.s i).cap≤(β.s i).cap∧β.s j=P5 (β.s i) lo hi (mx.getD (β.s i).cap) z)::R) from aa)
        have hlen:((rows'.take hi).drop lo).length=hi-lo:=by simp;omega
        refine⟨⟨es,o1,by rw[hlen];omega,?_⟩,?_,?_,fun hp=>?_⟩
        ·rw[hlen]
         conv=>lhs;rw[o3]
         rw[List.take_take,Nat.min_eq_left eA,List.drop_take,List.drop_drop]
        ·rw[p4,hlen];rfl
        ·rw[p4];show hi-lo≤mx.getD (β.s i).cap-lo;omega
        ·rw[hlen] at hp
         rw[p4]
         simp only[P5]
         rw[if_neg (by omega),gk (by omega),Option.map_map]
         congr 1
         funext a
         simp only[Function.comp,add_add]
         rw[G0]
       ·cases hr
      ·cases hr
     ·cases hr
    ·cases hr
   ·cases hr
  ·cases hr
theorem A7Z{f:Nat}{s:XSt}{j k z off:Nat}{rows:List (List XV)}{h:Heap}(hr:res f s j=some (k,z,off,rows))(hs:sat h (asn β s++L)):
  ∃ys:List (VS z),ys.map (·.1)=rows.map (vals β)∧P6 (vsV (size:=z)) z h (β.s j) ys∧0<z:=by
 obtain⟨⟨es,hl,o2,o3⟩,hlen,hle,fI⟩:=A5T f hr hs
 obtain⟨R,aa⟩:=P0 (L:=L) hl hs
 obtain⟨xs,⟨hx,h0⟩,ai⟩:=a8.1 (show sat h (A1B β k z es::R) from aa)
 obtain⟨r1,r2,r3⟩:=ai.aI (fun x=>x.2.1)
 have fh:xs.length=es.length:=by have:=congrArg List.length hx;simpa using this
 refine⟨(xs.drop off).take rows.length,?_,⟨?_,hle,fun i x hi=>?_⟩,h0⟩
 ·rw[H0,H2,hx]
  conv=>rhs;rw[o3]
  rw[H0,H2]
 ·rw[hlen,E2,M3];omega
 ·have af:i<rows.length:=by
   have:=(C4.1 hi).1
   rw[E2] at this
   omega
  rw[G9,if_pos af,I9] at hi
  obtain⟨a,ha,hc⟩:=r3 _ x hi
  refine⟨a.add (off*z),by rw[fI (by omega),ha];rfl,fun m v hv=>?_⟩
  rw[add_add a,←G0]
  exact hc m v hv
end
end
section
open Go.H
section
variable {ρ τ:Type} {L:List Asn} {Q:ρ→Heap→Prop} {k:Value→HM ρ} {P:Program} {β:As}
def A35(P:Program)(t:TypeId)(s:XSt)(x i:XV):Option XV:=
 match i with
 |.int _ (.ofNat n)=>match P.underlying t with
  |some (.slice elem)=>match x with
   |.slc j=>match P.info? elem with
    |some inf=>match res 40 s j with
     |some (k,size,off,es)=>match Nat.beq size inf.size with
      |true=>match Nat.blt n es.length with
       |true=>some (.eptr k ((off+n)*inf.size))
       |false=>none
      |false=>none
     |none=>none
    |none=>none
   |_=>none
  |some (.array len elem)=>match P.info? elem with
   |some inf=>match Nat.blt n len with
    |true=>match B0o s x with
     |true=>B9I x (n*inf.size)
     |false=>none
    |false=>none
   |none=>none
  |_=>none
 |_=>none
theorem A9Y{t:TypeId}{s:XSt}{x i v:XV}(h:A35 P t s x i=some v)(hk:W (asn β s++L) (k (val β v)) Q):W (asn β s++L) (Z5 P t (val β x) (val β i) k) Q:=by
 intro hp hs
 unfold A35 at h
 split at h
 ·rename_i ki n
  split at h
  ·rename_i elem ht
   split at h
   ·rename_i j
    split at h
    ·rename_i inf hi
     split at h
     ·rename_i k' size off rows hr
      split at h
      ·rename_i hb
       split at h
       ·rename_i af
        cases h
        have dD:n<rows.length:=by simpa using af
        have gO:=B0 hb
        subst gO
        obtain⟨⟨es,hl,o2,o3⟩,hlen,-,fI⟩:=A5T (L:=L) 40 hr hs
        obtain⟨R,aa⟩:=P0 (L:=L) hl hs
        obtain⟨h0,-,-,ad,ha,-⟩:=A57 aa (B2 (show off+n<es.length by omega))
        have:=hk hp hs
        have ed:=fI (by omega)
        rw[ha,F3] at ed
        simp only[val,ha,F3,G0] at this
        rw[←add_add] at this
        simp only[val,Z5,ht,hi]
        exact⟨_,ed,G1 _,by rw[hlen];exact Int.ofNat_lt.2 dD,this⟩
       ·cases h
      ·cases h
     ·cases h
    ·cases h
   ·cases h
  ·rename_i len elem ht
   split at h
   ·rename_i inf hi
    split at h
    ·rename_i af
     split at h
     ·rename_i h1
      have dD:n<len:=by simpa using af
      obtain⟨ad,e1,e2⟩:=A8p (L:=L) h1 h hs
      have:=hk hp hs
      rw[e2] at this
      rw[e1]
      simp only[val,Z5,ht,hi]
      exact⟨ad,rfl,G1 _,Int.ofNat_lt.2 dD,this⟩
     ·cases h
    ·cases h
   ·cases h
  ·cases h
 ·cases h
def B4E(P:Program)(t:TypeId)(x i:XV):Option XV:=
 match i with
 |.int _ (.ofNat n)=>match P.underlying t with
  |some .string=>match x with
   |.str b=>match b[n]? with
    |some c=>some (.int .u8 (c.toNat:Int))
    |none=>none
   |_=>none
  |_=>none
 |_=>none
theorem B6z{t:TypeId}{x i v:XV}(h:B4E P t x i=some v)(hk:W L (k (val β v)) Q):W L (A2O P t (val β x) (val β i) k) Q:=by
 intro hp hs
 unfold B4E at h
 split at h
 ·rename_i ki n
  split at h
  ·rename_i ht
   split at h
   ·rename_i b
    split at h
    ·rename_i c hc
     cases h
     simp only[val,A2O,ht]
     exact⟨c,G1 _,hc,hk hp hs⟩
    ·cases h
   ·cases h
  ·cases h
 ·cases h
def A90(x:Option Int)(d:Nat):Option Nat:=
 match x with
 |none=>some d
 |some (.ofNat n)=>some n
 |some _=>none
theorem A0h{x:Option Int}{d m b:Nat}{p:Prop}(h:A90 x d=some m)(hb:m≤b)(hp:m=d→p):b6 x p m b:=by
 cases x with
 |none=>cases h;exact hp rfl
 |some i=>
  cases i with
  |ofNat n=>cases h;exact⟨rfl,hb⟩
  |negSucc n=>cases h
def B1x(b:B1q)(lo hi:Option Int):Option XV:=
 match A90 hi b.size with
 |some hh=>match A90 lo 0 with
  |some l=>match Nat.ble hh b.size with
   |true=>match Nat.ble l hh with
    |true=>some (.str (b.extract l hh))
    |false=>none
   |false=>none
  |none=>none
 |none=>none
theorem B4s{b:B1q}{lo hi:Option Int}{v:XV}{f:B1q→HM ρ}(h:B1x b lo hi=some v)(hk:∀r,v=.str r→W L (f r) Q):W L (HM.bind (r7 b lo hi) f) Q:=by
 intro hp hs
 unfold B1x at h
 split at h
 ·rename_i hh h1
  split at h
  ·rename_i l h2
   split at h
   ·rename_i h3
    split at h
    ·rename_i h4
     cases h
     exact⟨l,hh,A0h h1 (B1 h3) id,A0h h2 (B1 h4) id,hk _ rfl hp hs⟩
    ·cases h
   ·cases h
  ·cases h
 ·cases h
def C0P(P:Program)(ts:List TypeId)(s:XSt)(vs:List XV):Option XV:=
 match ts,vs with
 |[t],[x]=>match P.underlying t with
  |some .string=>match x with
   |.str b=>some (.int .i64 (b.size:Int))
   |_=>none
  |some (.slice _)=>match x with
   |.nslc=>some (.int .i64 0)
   |.slc j=>match look j s with
    |some (.own _ es)=>some (.int .i64 (es.length:Int))
    |some (.buf _ bs)=>some (.int .i64 (bs.length:Int))
    |some (.view _ _ lo hi _)=>some (.int .i64 ((hi-lo:Nat):Int))
    |_=>none
   |_=>none
  |some (.array n _)=>some (.int .i64 (n:Int))
  |some (.map _ _)=>match x with
   |.nmap=>some (.int .i64 0)
   |.map j=>match look j s with
    |some (.mapI es)=>some (.int .i64 (es.length:Int))
    |some (.mapS es)=>some (.int .i64 (es.length:Int))
    |some (.mapT es)=>some (.int .i64 (es.length:Int))
    |some (.walkI _ es _ _)=>some (.int .i64 (es.length:Int))
    |some (.walkS _ es _ _)=>some (.int .i64 (es.length:Int))
    |_=>none
   |_=>none
  |_=>none
 |_,_=>none
theorem B9E{ts:List TypeId}{s:XSt}{vs:List XV}{v:XV}(h:C0P P ts s vs=some v)(hk:W (asn β s++L) (k (val β v)) Q):W (asn β s++L) (Z8 P ts (vals β vs) k) Q:=by
 intro hp hs
 unfold C0P at h
 split at h
 ·rename_i t x
  simp only[vals]
  split at h
  ·rename_i ht
   split at h
   ·cases h;simp only[val,Z8,ht];exact hk hp hs
   ·cases h
  ·rename_i e ht
   split at h
   ·cases h;simp only[val,Z8,ht];exact hk hp hs
   ·rename_i j
    split at h
    ·rename_i size es hl
     cases h
     obtain⟨R,aa⟩:=P0 (L:=L) hl hs
     have:=own_len aa
     simp only[val,Z8,ht,this]
     exact hk hp hs
    ·rename_i T bs hl
     cases h
     obtain⟨R,aa⟩:=P0 (L:=L) hl hs
     have hlen:(β.s j).len=bs.length:=by
      rcases r6 (show sat hp (A6s T (β.s j) bs::R) from aa) with⟨h1,h2,-⟩|⟨g,cur,hf,-⟩
      ·rw[h1,h2];rfl
      ·exact hf.len
     simp only[val,Z8,ht,hlen]
     exact hk hp hs
    ·rename_i i z lo hi mx hl
     cases h
     obtain⟨R,aa⟩:=P0 (L:=L) hl hs
     obtain⟨⟨p1,p2,p3,p4⟩,-⟩:=(sat.aN ..).1 (show sat hp (pr (lo≤hi∧hi≤mx.getD (β.s i).cap∧mx.getD (β.s i).cap≤(β.s i).cap∧β.s j=P5 (β.s i) lo hi (mx.getD (β.s i).cap) z)::R) from aa)
     have hlen:(β.s j).len=hi-lo:=by rw[p4];rfl
     simp only[val,Z8,ht,hlen]
     exact hk hp hs
    ·cases h
   ·cases h
  ·rename_i n e ht
   cases h
   simp only[Z8,ht]
   exact hk hp hs
  ·rename_i a b ht
   split at h
   ·cases h
    simp only[val,Z8,ht]
    exact⟨[],0,⟨rfl,rfl⟩,hk hp hs⟩
   ·rename_i j
    split at h
    ·rename_i es hl
     cases h
     obtain⟨R,aa⟩:=P0 (L:=L) hl hs
     simp only[val,Z8,ht]
     exact A5a aa (hk hp hs)
    ·rename_i es hl
     cases h
     obtain⟨R,aa⟩:=P0 (L:=L) hl hs
     simp only[val,Z8,ht]
     exact A5a aa (hk hp hs)
    ·rename_i es hl
     cases h
     obtain⟨R,aa⟩:=P0 (L:=L) hl hs
     simp only[val,Z8,ht]
     exact A5a aa (hk hp hs)
    ·rename_i es _ _ hl
     cases h
     obtain⟨R,aa⟩:=P0 (L:=L) hl hs
     simp only[val,Z8,ht]
     exact A5a (A3t aa) (hk hp hs)
    ·rename_i es _ _ hl
     cases h
     obtain⟨R,aa⟩:=P0 (L:=L) hl hs
     simp only[val,Z8,ht]
     exact A5a (A3t aa) (hk hp hs)
    ·cases h
   ·cases h
  ·cases h
 ·cases h
def A7U(mx:Bool)(vs:List XV):Option XV:=
 match vs with
 |[.int ka a,.int kb b]=>match A1e ka kb with
  |true=>match mx with
   |true=>some (.int ka (if a<b then b else a))
   |false=>some (.int ka (if b<a then b else a))
  |false=>none
 |_=>none
theorem A8o{mx:Bool}{vs:List XV}{v:XV}(h:A7U mx vs=some v)(hk:W L (k (val β v)) Q):W L (A0r mx (vals β vs) k) Q:=by
 unfold A7U at h
 split at h
 ·rename_i ka a kb b
  split at h
  ·rename_i jL
   simp only[vals,val,A0r,jL]
   cases mx<;>(cases h;exact hk)
  ·cases h
 ·cases h
end
end
section
open Go.H
section
variable {ρ τ:Type} {L:List Asn} {Q:ρ→Heap→Prop} {k:Value→HM ρ} {P:Program} {β:As}
theorem y7{n:Nat}:∀{l:List (List XV)},e7 n l=true↔∀x∈l,S9 n x=true
 |[]=>by simp[e7]
 |x::l=>by
  simp only[e7]
  have:=y7 (n:=n) (l:=l)
  split
  ·rename_i h;simp[h,this]
  ·rename_i h
   constructor
   ·intro h2;cases h2
   ·intro h2;have:=h2 x (B7 ..);rw[h] at this;cases this
theorem A0p{n size:Nat}{r:XSt}{sl:Slc}{xs:List (VS size)}{es:List (List XV)}{h:Heap}(ae:O4 n r)(hx:xs.map (·.1)=es.map (vals β))(hc:e7 n es=true)(h0:0<size)
  (hs:sat h (N4 (vsV (size:=size)) size sl xs::(asn β r++L))):sat h (asn (β.aR n sl) (add n (.own size es) r)++L):=by
 have ha:Agr n β (β.aR n sl):=W5
 refine(A1v (β:=β.aR n sl) (L:=L) ae _).s ?_
 show sat h (A1B (β.aR n sl) n size es::(asn (β.aR n sl) r++L))
 rw[←A0X ha ae]
 have hb:(β.aR n sl).s n=sl:=by simp[As.aR]
 refine a8.2 ⟨xs,⟨?_,h0⟩,by rw[hb];exact hs⟩
 rw[hx]
 exact A9L ha hc
def B2K(size:Nat)(s:XSt)(x:XV):Option (List (List XV)×XSt):=
 match x with
 |.nslc=>some ([],s)
 |.slc j=>match pick j s with
  |some (.own sz es,r)=>match Nat.beq sz size with
   |true=>some (es,r)
   |false=>none
  |some (.view i z lo hi none,r)=>match pick i r with
   |some (.own sz es,r2)=>match Nat.beq sz size with
    |true=>match Nat.beq z size with
     |true=>match Nat.ble lo hi with
      |true=>match Nat.ble hi es.length with
       |true=>some ((es.take hi).drop lo,r2)
       |false=>none
      |false=>none
     |false=>none
    |false=>none
   |_=>none
  |_=>none
 |_=>none
theorem B8c{i size lo hi:Nat}{xs:List (VS size)}{h:Heap}{R:List Asn}(hs:sat h (N4 (vsV (size:=size)) size (β.s i) xs::R))(h1:lo≤hi)(h2:hi≤xs.length):
  sat h (N4 (vsV (size:=size)) size (P5 (β.s i) lo hi (β.s i).cap size) ((xs.take hi).drop lo)::R):=by
 have hle:=hs.own_len
 have dJ:=hs.own_le
 have:=B0B (lo:=lo) (hi:=hi) (mx:=none) (ol:=some (lo:Int)) (oh:=some (hi:Int)) (Q:=fun s' h'=>sat h' (N4 (vsV (size:=size)) size s' ((xs.take hi).drop lo)::R)) hs (fun x=>x.2.1) h1 h2 ⟨rfl,h1⟩ ⟨rfl,by omega⟩ fun _ bF=>bF
 obtain⟨l,hh,m,e1,⟨e2,-⟩,⟨e3,-⟩,hq⟩:=this
 have e1:m=(β.s i).cap:=e1
 have e2:hi=hh:=Int.ofNat.inj e2
 have e3:lo=l:=Int.ofNat.inj e3
 subst e1 e2 e3
 exact hq
theorem A8l{size n:Nat}{s r:XSt}{x:XV}{es:List (List XV)}{h:Heap}(hx:B2K size s x=some (es,r))(ae:O4 n s)(h0:0<size)(hs:sat h (asn β s++L)):
  O4 n r∧e7 n es=true∧∃(sl:Slc) (xs:List (VS size)),val β x=.slice sl.a sl.len sl.cap∧xs.map (·.1)=es.map (vals β)∧sat h (N4 (vsV (size:=size)) size sl xs::(asn β r++L)):=by
 unfold B2K at hx
 split at hx
 ·cases hx
  exact⟨ae,rfl,⟨none,0,0⟩,[],rfl,rfl,A0z hs⟩
 ·rename_i j
  split at hx
  ·rename_i sz es' r' hp
   split at hx
   ·rename_i hb
    cases hx
    have:=B0 hb
    subst this
    obtain⟨hm,hr⟩:=S5 hp
    refine⟨fun k f hk=>ae k f (hr _ _ hk),(ae _ _ hm).2,β.s j,?_⟩
    have aa:sat h (A1B β j sz es::(asn β r++L)):=(P3 (L:=L) hp).s hs
    obtain⟨xs,⟨hx,-⟩,ai⟩:=a8.1 aa
    exact⟨xs,rfl,hx,ai⟩
   ·cases hx
  ·rename_i i z lo hi r' hp
   split at hx
   ·rename_i sz es' r2 oE
    split at hx
    ·rename_i hb
     split at hx
     ·rename_i hz
      split at hx
      ·rename_i h1
       split at hx
       ·rename_i h2
        cases hx
        have:=B0 hb
        subst this
        have:=B0 hz
        subst this
        have dQ:=B1 h1
        have eA:=B1 h2
        obtain⟨hm,hr⟩:=S5 hp
        obtain⟨jH,kL⟩:=S5 oE
        refine⟨fun k f hk=>ae k f (hr _ _ (kL _ _ hk)),?_,β.s j,?_⟩
        ·have c2:e7 n es'=true:=(ae _ _ (hr _ _ jH)).2
         rw[y7] at c2⊢
         exact fun y hy=>c2 y (E6 (J3 hy))
        have aa:sat h (pr (lo≤hi∧hi≤(β.s i).cap∧(β.s i).cap≤(β.s i).cap∧β.s j=P5 (β.s i) lo hi (β.s i).cap z)::(asn β r'++L)):=(P3 (L:=L) hp).s hs
        obtain⟨⟨-,-,-,p4⟩,ai⟩:=(sat.aN ..).1 aa
        have aY:sat h (A1B β i z es'::(asn β r++L)):=(P3 (L:=L) oE).s ai
        obtain⟨xs,⟨hx,-⟩,bT⟩:=a8.1 aY
        have fh:xs.length=es'.length:=by have:=congrArg List.length hx;simpa using this
        refine⟨(xs.take hi).drop lo,rfl,?_,?_⟩
        ·rw[H2,H0,hx,H2,H0]
        ·rw[p4]
         exact B8c bT dQ (by omega)
       ·cases hx
      ·cases hx
     ·cases hx
    ·cases hx
   ·cases hx
  ·cases hx
 ·cases hx
def B4x(P:Program)(t:TypeId)(n:Nat)(s:XSt)(x:XV)(lo hi mx:Option Int):Option (XV×Nat×XSt):=
 match P.underlying t with
 |some .string=>match x with
  |.str b=>match mx with
   |none=>match B1x b lo hi with
    |some v=>some (v,n,s)
    |none=>none
   |some _=>none
  |_=>none
 |some (.slice elem)=>match P.info? elem with
  |some inf=>match mx with
   |none=>match B2K inf.size s x with
    |some (es,r)=>match A90 hi es.length with
     |some hh=>match A90 lo 0 with
      |some l=>match Nat.ble l hh with
       |true=>match Nat.ble hh es.length with
        |true=>match Nat.ble 1 inf.size with
         |true=>some (.slc n,n+1,add n (.own inf.size ((es.take hh).drop l)) r)
         |false=>none
        |false=>none
       |false=>none
      |none=>none
     |none=>none
    |none=>none
   |some _=>none
  |none=>none
 |_=>none
theorem B6v{t:TypeId}{n n':Nat}{s s':XSt}{x v:XV}{lo hi mx:Option Int}(h:B4x P t n s x lo hi mx=some (v,n',s'))(ae:O4 n s)
  (hk:∀γ,Agr n β γ→n≤n'→O4 n' s'→W (asn γ s'++L) (k (val γ v)) Q):W (asn β s++L) (U9 P t (val β x) lo hi mx k) Q:=by
 unfold B4x at h
 split at h
 ·rename_i ht
  split at h
  ·rename_i b
   split at h
   ·split at h
    ·rename_i u hu
     cases h
     simp only[val,U9,ht]
     refine B4s hu fun r hr=>?_
     subst hr
     exact hk β Agr.rfl (B5 _) ae
    ·cases h
   ·cases h
  ·cases h
 ·rename_i elem ht
  split at h
  ·rename_i inf da
   split at h
   ·split at h
    ·rename_i es r cO
     split at h
     ·rename_i hh h1
      split at h
      ·rename_i l h2
       split at h
       ·rename_i h3
        split at h
        ·rename_i h4
         split at h
         ·rename_i h5
          cases h
          intro hp hs
          have dm:=B1 h3
          have fJ:=B1 h4
          have iU:=B1 h5
          obtain⟨c1,c2,sl,xs,e1,e2,aa⟩:=A8l (L:=L) cO ae iU hs
          have fh:xs.length=es.length:=by have:=congrArg List.length e2;simpa using this
          have hle:=aa.own_len
          have dJ:=aa.own_le
          have fR:hh≤sl.cap:=by omega
          rw[e1]
          simp only[U9,ht,da]
          refine B0B (mx:=none) aa (fun x=>x.2.1) dm (by rw[fh];exact fJ) (A0h h2 dm id) (A0h h1 fR (fun e=>by rw[e,hle,fh])) fun s9 bF=>?_
          have fH:e7 n ((es.take hh).drop l)=true:=by
           rw[y7] at c2⊢
           exact fun y hy=>c2 y (E6 (J3 hy))
          have bo:=A0p (L:=L) c1 (xs:=(xs.take hh).drop l) (es:=(es.take hh).drop l) (by rw[H2,H0,e2,H2,H0]) fH iU bF
          have:=hk (β.aR n s9) W5 (E7 _) (c1.new (g:=.own inf.size ((es.take hh).drop l)) (q9 (E7 _) fH)) hp bo
          simp only[val,As.aR,if_true] at this
          exact this
         ·cases h
        ·cases h
       ·cases h
      ·cases h
     ·cases h
    ·cases h
   ·cases h
  ·cases h
 ·cases h
end
end
section
open Go.H
section
variable {ρ τ:Type} {L:List Asn} {Q:ρ→Heap→Prop} {k:Value→HM ρ} {P:Program} {β:As}
def A5B:List UInt8→List (List XV)
 |[]=>[]
 |b::r=>[.int .u8 (b.toNat:Int)]::A5B r
theorem B37:∀(l:List UInt8),(A5B l).map (vals β)=l.map fun b=>[Value.int .u8 (b.toNat:Int)]
 |[]=>rfl
 |b::r=>by simp only[A5B,B6];rw[B37 r];rfl
theorem B1n:∀(l:List UInt8),(A5B l).length=l.length
 |[]=>rfl
 |b::r=>by simp only[A5B,D8];rw[B1n r]
def B9v(P:Program)(u:TypeId)(size:Nat)(s:XSt)(y:XV):Option (List (List XV)):=
 match P.underlying u with
 |some (.slice _)=>match y with
  |.nslc=>some []
  |.slc j=>match res 40 s j with
   |some (_,sz,_,es)=>match Nat.beq sz size with
    |true=>some es
    |false=>none
   |none=>none
  |_=>none
 |some .string=>match y with
  |.str b=>match Nat.beq size 1 with
   |true=>some (A5B b.data.toList)
   |false=>none
  |_=>none
 |_=>none
theorem B1V{size:Nat}{es:List (List XV)}(h:∀l∈es,l.length=size∧∀v∈vals β l,v.oneCell'=true):∃xs:List (VS size),xs.map (·.1)=es.map (vals β):=by
 induction es with
 |nil=>exact⟨[],rfl⟩
 |cons l es ih=>
  obtain⟨xs,hx⟩:=ih fun l hl=>h l (B8 _ hl)
  obtain⟨h1,h2⟩:=h l (B7 ..)
  exact⟨⟨vals β l,by rw[V6];exact h1,h2⟩::xs,by simp only[B6];rw[hx]⟩
theorem A76{size:Nat}{xs:List (VS size)}{es:List (List XV)}(h:xs.map (·.1)=es.map (vals β)):xs.flatMap vsV=(es.map (vals β)).flatten:=by
 rw[←h];rfl
def B1H(P:Program)(ts:List TypeId)(n:Nat)(s:XSt)(vs:List XV):Option (XV×XSt):=
 match ts,vs with
 |[t,u],[x,y]=>match P.underlying t with
  |some (.slice elem)=>match P.info? elem with
   |some i=>match i.zero with
    |some z=>match Nat.beq z.cells.toList.length i.size with
     |true=>match Nat.ble 1 i.size with
      |true=>match Nat.ble 1 i.bytes with
       |true=>match B2K i.size s x with
        |some (es,r)=>match B9v P u i.size r y with
         |some rows=>match Nat.ble ((es.length+rows.length)*i.bytes) 140737488355328 with
          |true=>match e7 n rows with
           |true=>some (.slc n,add n (.own i.size (es++rows)) r)
           |false=>none
          |false=>none
         |none=>none
        |none=>none
       |false=>none
      |false=>none
     |false=>none
    |none=>none
   |none=>none
  |_=>none
 |_,_=>none
theorem B5N{u:TypeId}{size:Nat}{s:XSt}{y:XV}{rows:List (List XV)}{h:Heap}(hx:B9v P u size s y=some rows)(h0:0<size)(hs:sat h (asn β s++L)):
  ∃ys:List (VS size),ys.map (·.1)=rows.map (vals β)∧
   ((∃e b m d,P.underlying u=some (.slice e)∧val β y=.slice b m d∧m=rows.length∧P8 size ⟨b,m,d⟩ h (ys.flatMap vsV).toArray)∨
    (∃b,P.underlying u=some .string∧val β y=.string b∧b.size=rows.length∧A5S b h (ys.flatMap vsV).toArray)):=by
 unfold B9v at hx
 split at hx
 ·rename_i e hu
  split at hx
  ·cases hx
   refine⟨[],rfl,.inl ⟨e,none,0,0,hu,rfl,rfl,?_⟩⟩
   rfl
  ·rename_i j
   split at hx
   ·rename_i k' sz off es hl
    split at hx
    ·rename_i hb
     cases hx
     have:=B0 hb
     subst this
     obtain⟨xs,hx,av,-⟩:=A7Z (L:=L) hl hs
     have hlen:(β.s j).len=rows.length:=(A5T (L:=L) 40 hl hs).len
     refine⟨xs,hx,.inl ⟨e,_,_,_,hu,rfl,hlen,?_⟩⟩
     exact A3j (fun x=>x.2.1) av h0
    ·cases hx
   ·cases hx
  ·cases hx
 ·rename_i hu
  split at hx
  ·rename_i b
   split at hx
   ·rename_i hb
    cases hx
    have:=B0 hb
    subst this
    obtain⟨ys,hy⟩:=B1V (β:=β) (size:=1) (es:=A5B b.data.toList) (by
     intro l hl
     have:∀l0:List UInt8,∀l∈A5B l0,l.length=1∧∀v∈vals β l,v.oneCell'=true:=by
      intro l0
      induction l0 with
      |nil=>intro l hl;cases hl
      |cons c l0 ih=>
       intro l hl
       simp only[A5B] at hl
       rcases B9.1 hl with rfl|hl
       ·exact⟨rfl,fun v hv=>by simp only[vals,B4] at hv;subst hv;rfl⟩
       ·exact ih l hl
     exact this _ l hl)
    refine⟨ys,hy,.inr ⟨b,hu,rfl,by rw[B1n];rfl,?_⟩⟩
    unfold A5S
    rw[A76 hy,B37]
    apply D3.1
    have:∀l:List UInt8,(l.map fun b=>[Value.int .u8 (b.toNat:Int)]).flatten=l.map fun b=>Value.int .u8 (b.toNat:Int):=by
     intro l
     induction l with
     |nil=>rfl
     |cons c l ih=>simp only[B6,M1,ih];rfl
    rw[this]
    simp
   ·cases hx
  ·cases hx
 ·cases hx
theorem B4K{ts:List TypeId}{n:Nat}{s s':XSt}{vs:List XV}{v:XV}(h:B1H P ts n s vs=some (v,s'))(ae:O4 n s)
  (hk:∀γ,Agr n β γ→O4 (n+1) s'→W (asn γ s'++L) (k (val γ v)) Q):W (asn β s++L) (V9 P ts (vals β vs) k) Q:=by
 unfold B1H at h
 split at h
 ·rename_i t u x y
  split at h
  ·rename_i elem ht
   split at h
   ·rename_i i hi
    split at h
    ·rename_i z hz
     split at h
     ·rename_i mD
      split at h
      ·rename_i h1
       split at h
       ·rename_i h2
        split at h
        ·rename_i es r cO
         split at h
         ·rename_i rows fm
          split at h
          ·rename_i h3
           split at h
           ·rename_i bP
            cases h
            intro hp hs
            have dQ:=B1 h1
            have eA:=B1 h2
            have dm:=B1 h3
            have gT:z.cells.size=i.size:=by rw[←B0 mD];rfl
            obtain⟨c1,c2,sl,xs,e1,e2,aa⟩:=A8l (L:=L) cO ae dQ hs
            obtain⟨ys,ey,bW⟩:=B5N (β:=β) (L:=L) fm dQ aa.drop
            have fh:xs.length=es.length:=by have:=congrArg List.length e2;simpa using this
            have fW:ys.length=rows.length:=by have:=congrArg List.length ey;simpa using this
            have fin:∀s9 h9,sat h9 (N4 (vsV (size:=i.size)) i.size s9 (xs++ys)::(asn β r++L))→k (.slice s9.a s9.len s9.cap) h9 Q:=by
             intro s9 h9 bF
             have fH:e7 n (es++rows)=true:=by
              rw[y7] at c2 bP⊢
              intro l hl
              rcases J7.1 hl with hl|hl
              ·exact c2 l hl
              ·exact bP l hl
             have bo:=A0p (L:=L) c1 (xs:=xs++ys) (es:=es++rows) (by rw[C7,C7,e2,ey]) fH dQ bF
             have:=hk (β.aR n s9) W5 (c1.new (g:=.own i.size (es++rows)) (q9 (E7 _) fH)) h9 bo
             simp only[val,As.aR,if_true] at this
             exact this
            have fR:(xs.length+rows.length)*i.bytes≤140737488355328:=by rw[fh];exact dm
            simp only[vals]
            rw[e1]
            rcases bW with⟨e,b,m,d,hu,hv,hm,fm⟩|⟨b,hu,hv,hm,fm⟩
            ·rw[hv]
             subst hm
             simp only[V9,ht,hi,hz,hu]
             exact A1X (fun x=>x.2.1) (fun x=>x.2.2) gT aa fW fm dQ eA fR fin
            ·rw[hv]
             simp only[V9,ht,hi,hz,hu,hm]
             exact A1X (fun x=>x.2.1) (fun x=>x.2.2) gT aa fW fm dQ eA fR fin
           ·cases h
          ·cases h
         ·cases h
        ·cases h
       ·cases h
      ·cases h
     ·cases h
    ·cases h
   ·cases h
  ·cases h
 ·cases h
end
end
section
open Go.H
section
variable {ρ τ:Type} {L:List Asn} {Q:ρ→Heap→Prop} {k:Value→HM ρ} {P:Program} {β:As}
theorem A8C{n j z lo hi:Nat}{mx:Option Nat}{s:XSt}{h:Heap}(ae:O4 n s)(hj:j<n)(h1:lo≤hi)(h2:hi≤mx.getD (β.s j).cap)(h3:mx.getD (β.s j).cap≤(β.s j).cap)(hs:sat h (asn β s++L)):
  sat h (asn (β.aR n (P5 (β.s j) lo hi (mx.getD (β.s j).cap) z)) (add n (.view j z lo hi mx) s)++L):=by
 have ha:Agr n β (β.aR n (P5 (β.s j) lo hi (mx.getD (β.s j).cap) z)):=W5
 refine(A1v (β:=β.aR n (P5 (β.s j) lo hi (mx.getD (β.s j).cap) z)) (L:=L) ae _).s ?_
 rw[←A0X ha ae]
 have hb:(β.aR n (P5 (β.s j) lo hi (mx.getD (β.s j).cap) z)).s n=P5 (β.s j) lo hi (mx.getD (β.s j).cap) z:=by simp[As.aR]
 have qE:(β.aR n (P5 (β.s j) lo hi (mx.getD (β.s j).cap) z)).s j=β.s j:=(ha.s j hj).symm
 refine(sat.aN ..).2 ⟨?_,hs⟩
 rw[qE,hb]
 exact⟨h1,h2,h3,rfl⟩
def B1z(P:Program)(t:TypeId)(n:Nat)(s:XSt)(x:XV)(lo hi:Option Int):Option (XV×XSt):=
 match P.underlying t with
 |some (.slice elem)=>match P.info? elem with
  |some inf=>match x with
   |.slc j=>match res 40 s j with
    |some (_,_,_,rows)=>match Nat.blt j n with
     |true=>match A90 hi rows.length with
      |some hh=>match A90 lo 0 with
       |some l=>match Nat.ble l hh with
        |true=>match Nat.ble hh rows.length with
         |true=>some (.slc n,add n (.view j inf.size l hh none) s)
         |false=>none
        |false=>none
       |none=>none
      |none=>none
     |false=>none
    |none=>none
   |_=>none
  |none=>none
 |_=>none
theorem B4v{t:TypeId}{n:Nat}{s s':XSt}{x v:XV}{lo hi:Option Int}(h:B1z P t n s x lo hi=some (v,s'))(ae:O4 n s)
  (hk:∀γ,Agr n β γ→O4 (n+1) s'→W (asn γ s'++L) (k (val γ v)) Q):W (asn β s++L) (U9 P t (val β x) lo hi none k) Q:=by
 unfold B1z at h
 split at h
 ·rename_i elem ht
  split at h
  ·rename_i inf da
   split at h
   ·rename_i j
    split at h
    ·rename_i k' z off rows hr
     split at h
     ·rename_i h6
      split at h
      ·rename_i hh h1
       split at h
       ·rename_i l h2
        split at h
        ·rename_i h3
         split at h
         ·rename_i h4
          cases h
          intro hp hs
          have dm:=B1 h3
          have fJ:=B1 h4
          have hj:j<n:=by simpa using h6
          obtain⟨-,hlen,dJ,-⟩:=A5T (L:=L) 40 hr hs
          have fR:hh≤(β.s j).cap:=by omega
          have e1:b6 hi (hh=(β.s j).len) hh (β.s j).cap:=A0h h1 fR (fun e=>by rw[e,hlen])
          have e2:b6 lo (l=0) l hh:=A0h h2 dm id
          simp only[val,U9,ht,da]
          refine⟨l,hh,(β.s j).cap,rfl,?_,e2,?_⟩
          ·cases hi with
           |none=>exact⟨rfl,e1⟩
           |some x=>exact e1
          have bo:=A8C (L:=L) (mx:=none) (z:=inf.size) ae hj dm fR (B5 _) hs
          have:=hk (β.aR n (P5 (β.s j) l hh (β.s j).cap inf.size)) W5 (ae.new (g:=.view j inf.size l hh none) (by simp only[A1S,J5];omega)) hp bo
          simp only[val,As.aR,if_true] at this
          exact this
         ·cases h
        ·cases h
       ·cases h
      ·cases h
     ·cases h
    ·cases h
   ·cases h
  ·cases h
 ·cases h
def A8m(P:Program)(t:TypeId)(n:Nat)(s:XSt)(x:XV)(lo hi mx:Option Int):Option (XV×XSt):=
 match P.underlying t with
 |some (.slice elem)=>match P.info? elem with
  |some inf=>match mx with
   |some (.ofNat m)=>match x with
    |.slc j=>match res 40 s j with
     |some (_,_,_,rows)=>match Nat.blt j n with
      |true=>match hi with
       |some (.ofNat hh)=>match A90 lo 0 with
        |some l=>match Nat.ble l hh with
         |true=>match Nat.ble hh m with
          |true=>match Nat.ble m rows.length with
           |true=>some (.slc n,add n (.view j inf.size l hh (some m)) s)
           |false=>none
          |false=>none
         |false=>none
        |none=>none
       |_=>none
      |false=>none
     |none=>none
    |_=>none
   |_=>none
  |none=>none
 |_=>none
theorem B2M{t:TypeId}{n:Nat}{s s':XSt}{x v:XV}{lo hi mx:Option Int}(h:A8m P t n s x lo hi mx=some (v,s'))(ae:O4 n s)
  (hk:∀γ,Agr n β γ→O4 (n+1) s'→W (asn γ s'++L) (k (val γ v)) Q):W (asn β s++L) (U9 P t (val β x) lo hi mx k) Q:=by
 unfold A8m at h
 split at h
 ·rename_i elem ht
  split at h
  ·rename_i inf da
   split at h
   ·rename_i m
    split at h
    ·rename_i j
     split at h
     ·rename_i k' z off rows hr
      split at h
      ·rename_i h6
       split at h
       ·rename_i hh
        split at h
        ·rename_i l h2
         split at h
         ·rename_i h3
          split at h
          ·rename_i h4
           split at h
           ·rename_i h5
            cases h
            intro hp hs
            have dm:=B1 h3
            have fJ:=B1 h4
            have iU:=B1 h5
            have hj:j<n:=by simpa using h6
            obtain⟨-,hlen,dJ,-⟩:=A5T (L:=L) 40 hr hs
            have e2:b6 lo (l=0) l hh:=A0h h2 dm id
            simp only[val,U9,ht,da]
            refine⟨l,hh,m,⟨rfl,by show m≤(β.s j).cap;omega⟩,⟨rfl,fJ⟩,e2,?_⟩
            have bo:=A8C (L:=L) (mx:=some m) (z:=inf.size) ae hj dm fJ (by show m≤(β.s j).cap;omega) hs
            have:=hk (β.aR n (P5 (β.s j) l hh m inf.size)) W5 (ae.new (g:=.view j inf.size l hh (some m)) (by simp only[A1S,J5];omega)) hp bo
            simp only[val,As.aR,if_true] at this
            exact this
           ·cases h
          ·cases h
         ·cases h
        ·cases h
       ·cases h
      ·cases h
     ·cases h
    ·cases h
   ·cases h
  ·cases h
 ·cases h
def B4A(P:Program)(t:TypeId)(x:XV)(lo hi mx:Option Int):Option XV:=
 match x with
 |.nslc=>match P.underlying t with
  |some (.slice elem)=>match P.info? elem with
   |some inf=>match hi with
    |some (.ofNat hh)=>match mx with
     |some (.ofNat m)=>match A90 lo 0 with
      |some l=>match Nat.beq hh 0 with
       |true=>match Nat.beq m 0 with
        |true=>match Nat.beq l 0 with
         |true=>some .nslc
         |false=>none
        |false=>none
       |false=>none
      |none=>none
     |_=>none
    |_=>none
   |none=>none
  |_=>none
 |_=>none
theorem B6w{t:TypeId}{s:XSt}{x v:XV}{lo hi mx:Option Int}(h:B4A P t x lo hi mx=some v)(hk:W (asn β s++L) (k (val β v)) Q):W (asn β s++L) (U9 P t (val β x) lo hi mx k) Q:=by
 unfold B4A at h
 split at h
 ·split at h
  ·rename_i elem ht
   split at h
   ·rename_i inf da
    split at h
    ·rename_i hh
     split at h
     ·rename_i m
      split at h
      ·rename_i l h2
       split at h
       ·rename_i e1
        split at h
        ·rename_i e2
         split at h
         ·rename_i e3
          cases h
          have e1:=B0 e1
          have e2:=B0 e2
          have e3:=B0 e3
          subst e1 e2 e3
          intro hp hs
          simp only[val,U9,ht,da]
          exact⟨0,0,0,⟨rfl,B5 _⟩,⟨rfl,B5 _⟩,A0h h2 (B5 _) id,hk hp hs⟩
         ·cases h
        ·cases h
       ·cases h
      ·cases h
     ·cases h
    ·cases h
   ·cases h
  ·cases h
 ·cases h
def A8x(P:Program)(ts:List TypeId)(n:Nat)(s:XSt)(vs:List XV):Option (XV×XSt):=
 match ts,vs with
 |[t,u],[.slc j,y]=>match P.underlying t with
  |some (.slice elem)=>match P.info? elem with
   |some i=>match i.zero with
    |some z=>match look j s with
     |some (.view _ _ _ hi (some m))=>match Nat.beq m hi with
      |true=>match res 40 s j with
       |some (_,sz,_,es)=>match Nat.beq sz i.size with
        |true=>match Nat.beq z.cells.toList.length i.size with
         |true=>match Nat.ble 1 i.bytes with
          |true=>match B9v P u i.size s y with
           |some rows=>match Nat.ble 1 rows.length with
            |true=>match Nat.ble ((es.length+rows.length)*i.bytes) 140737488355328 with
             |true=>match e7 n es with
              |true=>match e7 n rows with
               |true=>some (.slc n,add n (.own i.size (es++rows)) s)
               |false=>none
              |false=>none
             |false=>none
            |false=>none
           |none=>none
          |false=>none
         |false=>none
        |false=>none
       |none=>none
      |false=>none
     |_=>none
    |none=>none
   |none=>none
  |_=>none
 |_,_=>none
theorem B2X{ts:List TypeId}{n:Nat}{s s':XSt}{vs:List XV}{v:XV}(h:A8x P ts n s vs=some (v,s'))(ae:O4 n s)
  (hk:∀γ,Agr n β γ→O4 (n+1) s'→W (asn γ s'++L) (k (val γ v)) Q):W (asn β s++L) (V9 P ts (vals β vs) k) Q:=by
 unfold A8x at h
 split at h
 ·rename_i t u j y
  split at h
  ·rename_i elem ht
   split at h
   ·rename_i i hi
    split at h
    ·rename_i z hz
     split at h
     ·rename_i j2 z2 lo gb m hl
      split at h
      ·rename_i hm
       split at h
       ·rename_i k' sz off es hr
        split at h
        ·rename_i ao
         split at h
         ·rename_i mD
          split at h
          ·rename_i h2
           split at h
           ·rename_i rows fm
            split at h
            ·rename_i h4
             split at h
             ·rename_i h3
              split at h
              ·rename_i cv
               split at h
               ·rename_i bP
                cases h
                intro hp hs
                have eA:=B1 h2
                have dm:=B1 h3
                have fJ:=B1 h4
                have mP:=B0 ao
                subst mP
                have iR:=B0 hm
                subst iR
                have gT:z.cells.size=i.size:=by rw[←B0 mD];rfl
                obtain⟨xs,e2,av,dQ⟩:=A7Z (L:=L) hr hs
                obtain⟨R,aa⟩:=P0 (L:=L) hl hs
                obtain⟨⟨p1,p2,p3,p4⟩,-⟩:=(sat.aN ..).1 (show sat hp (pr (lo≤m∧m≤(some m).getD (β.s j2).cap∧(some m).getD (β.s j2).cap≤(β.s j2).cap∧β.s j=P5 (β.s j2) lo m ((some m).getD (β.s j2).cap) z2)::R) from aa)
                have dJ:(β.s j).cap=(β.s j).len:=by rw[p4];rfl
                obtain⟨ys,ey,bW⟩:=B5N (β:=β) (L:=L) fm dQ hs
                have fh:xs.length=es.length:=by have:=congrArg List.length e2;simpa using this
                have fW:ys.length=rows.length:=by have:=congrArg List.length ey;simpa using this
                have fin:∀s9 h9,sat h9 (N4 (vsV (size:=i.size)) i.size s9 (xs++ys)::(asn β s++L))→k (.slice s9.a s9.len s9.cap) h9 Q:=by
                 intro s9 h9 bF
                 have fH:e7 n (es++rows)=true:=by
                  rw[y7] at cv bP⊢
                  intro l hl
                  rcases J7.1 hl with hl|hl
                  ·exact cv l hl
                  ·exact bP l hl
                 have bo:=A0p (L:=L) ae (xs:=xs++ys) (es:=es++rows) (by rw[C7,C7,e2,ey]) fH dQ bF
                 have:=hk (β.aR n s9) W5 (ae.new (g:=.own i.size (es++rows)) (q9 (E7 _) fH)) h9 bo
                 simp only[val,As.aR,if_true] at this
                 exact this
                have fR:(xs.length+rows.length)*i.bytes≤140737488355328:=by rw[fh];exact dm
                simp only[vals,val]
                rcases bW with⟨e,b,m2,d,hu,hv,jH,fm⟩|⟨b,hu,hv,jH,fm⟩
                ·rw[hv]
                 subst jH
                 simp only[V9,ht,hi,hz,hu]
                 exact A7j (fun x=>x.2.1) (fun x=>x.2.2) gT hs av dJ fW fm dQ eA fJ fR fin
                ·rw[hv]
                 simp only[V9,ht,hi,hz,hu,jH]
                 exact A7j (fun x=>x.2.1) (fun x=>x.2.2) gT hs av dJ fW fm dQ eA fJ fR fin
               ·cases h
              ·cases h
             ·cases h
            ·cases h
           ·cases h
          ·cases h
         ·cases h
        ·cases h
       ·cases h
      ·cases h
     ·cases h
    ·cases h
   ·cases h
  ·cases h
 ·cases h
end
end
section
open Go.H
section
variable {ρ τ:Type} {L:List Asn} {Q:ρ→Heap→Prop} {k:Value→HM ρ} {P:Program} {β:As}
theorem B51{j size i q:Nat}{es:List (List XV)}{row:List XV}{x:XV}{R:List Asn}{h:Heap}(hs:sat h (A1B β j size es::R))(hi:es[i]? =some row)(hq:q<size)(hx:B7B x=true):
  ∃a,(β.s j).a=some a∧(O5 h (a.add (i*size+q))).isSome=true∧V5 h (a.add (i*size+q))=false∧
   sat (U7 h (a.add (i*size+q)) (val β x)) (A1B β j size (es.set i (row.set q x))::R):=by
 obtain⟨h0,oC,hlen,-⟩:=A57 hs hi
 obtain⟨xs,⟨dc,-⟩,aa⟩:=a8.1 hs
 have af:i<xs.length:=by
  have:=congrArg List.length dc
  simp only[C9] at this
  rw[this]
  exact(C4.1 hi).1
 have jf:xs[i]? =some xs[i]:=B2 af
 have he:(xs[i]).1=vals β row:=by
  have e1:=congrArg (fun l:List (C3E)=>l[i]?) dc
  simp only[H6,jf,hi,F3,C3] at e1
  exact e1
 have bX:=B1v (β:=β) hx
 let x':VS size:=⟨(xs[i]).1.set q (val β x),by rw[List.length_set];exact(xs[i]).2.1,fun v hv=>by
  rcases List.mem_or_eq_of_mem_set hv with hv|rfl
  ·exact(xs[i]).2.2 v hv
  ·exact bX⟩
 obtain⟨a,ha,-,-,aM⟩:=B95 (enc:=vsV (size:=size)) (fun x=>x.2.1) aa jf (Q:=fun p h'=>h'=h∧∀(Q':Unit→Heap→Prop),(∀h',sat h' (N4 (vsV (size:=size)) size (β.s j) (xs.set i x')::R)→Q' () h')→A3d (p.add q) (val β x) h Q')
  (fun p _ aM=>⟨rfl,fun Q' fw=>aM q (val β x) x' Q' hq rfl bX fw⟩)
 obtain⟨-,aM⟩:=aM
 obtain⟨s1,s2,-,s4⟩:=aM (fun _ h'=>sat h' (A1B β j size (es.set i (row.set q x))::R)) (fun h' ah=>a8.2 ⟨xs.set i x',⟨by
  rw[List.map_set,dc,List.map_set]
  congr 1
  show(xs[i]).1.set q (val β x)=vals β (row.set q x)
  rw[he,R1,R1,List.map_set],h0⟩,ah⟩)
 rw[G8,A29] at s1 s2 s4
 exact⟨a,ha,s1,s2,s4⟩
theorem B3z{j size i:Nat}{a:Addr}(ha:(β.s j).a=some a):∀(cs:List XV) (r:Nat) (es:List (List XV)) (row:List XV) {R:List Asn} {h:Heap} (p:Addr) (m:Nat),(∀n,p.add (m+n)=a.add (i*size+(r+n)))→
  sat h (A1B β j size es::R)→es[i]? =some row→r+cs.length≤size→A0t cs=true→sat (S8 h p (vals β cs) m) (A1B β j size (es.set i (A2m row r cs))::R)
 |[],r,es,row,R,h,p,m,hp,hs,hi,hl,h1=>by
  simp only[vals,S8,A2m,L9,J8,G2,List.take_append_drop]
  obtain⟨af,rfl⟩:=C4.1 hi
  rw[List.set_getElem_self]
  exact hs
 |x::cs,r,es,row,R,h,p,m,hp,hs,hi,hl,h1=>by
  simp only[A0t] at h1
  split at h1
  ·rename_i hx
   simp only[D8] at hl
   obtain⟨h0,oC,-,-⟩:=A57 hs hi
   obtain⟨a',ed,-,-,aa⟩:=B51 hs hi (q:=r) (by omega) hx
   rw[ha] at ed
   cases ed
   simp only[vals,S8]
   have e0:=hp 0
   simp only[J8] at e0
   rw[←e0] at aa
   have af:=(C4.1 hi).1
   have:=B3z ha cs (r+1) (es.set i (row.set r x)) (row.set r x) p (m+1) (fun n=>by have:=hp (1+n);rw[show m+1+n=m+(1+n) by omega,this];congr 2;omega) aa (by rw[List.getElem?_set_self af]) (by omega) h1
   rw[List.set_set] at this
   have e:A2m (row.set r x) (r+1) cs=A2m row r (x::cs):=by
    have qo:r<(row.set r x).length:=by rw[List.length_set];omega
    have t1:(row.set r x).take (r+1)=row.take r++[x]:=by
     rw[E4 qo,List.getElem_set_self,List.take_set,List.set_eq_of_length_le (by simp;omega)]
    have t2:(row.set r x).drop (r+1+cs.length)=row.drop (r+(cs.length+1)):=by
     rw[List.drop_set,if_pos (by omega)]
     congr 1;omega
    simp only[A2m,D8]
    rw[t1,t2]
    simp
   rw[e] at this
   exact this
  ·cases h1
def B1y(P:Program)(t:TypeId)(n:Nat)(s:XSt)(a v:XV):Option XSt:=
 match a with
 |.eptr j o=>match kindOf P t with
  |some kd=>match A1s kd v with
   |some cs=>match Nat.beq cs.length (P.cellsOf t) with
    |true=>match A0t cs with
     |true=>match S9 n cs with
      |true=>match pick j s with
       |some (.own size es,r)=>match es[o / size]? with
        |some row=>match Nat.ble (o % size+cs.length) size with
         |true=>some (back j (.own size (es.set (o / size) (A2m row (o % size) cs))) r)
         |false=>none
        |none=>none
       |_=>none
      |false=>none
     |false=>none
    |false=>none
   |none=>none
  |none=>none
 |a=>B4u P t n s a v
theorem B0A{j o size:Nat}{s r:XSt}{es:List (List XV)}{row cs:List XV}{f:Unit→HM ρ}{h:Heap}(hs:sat h (asn β s++L))(hp:pick j s=some (.own size es,r))(hi:es[o / size]? =some row)(hl:o % size+cs.length≤size)(h1:A0t cs=true)
  (hk:W (asn β (back j (.own size (es.set (o / size) (A2m row (o % size) cs))) r)++L) (f ()) Q):∃ad,val β (.eptr j o)=.pointer (some ad)∧HM.bind (A0f ad (vals β cs)) f h Q:=by
 have aa:sat h (A1B β j size es::(asn β r++L)):=(P3 (β:=β) (L:=L) hp).s hs
 obtain⟨h0,oC,-,a,ha,-⟩:=A57 aa hi
 have e:o / size*size+o % size=o:=by rw[Nat.mul_comm];exact Nat.div_add_mod o size
 refine⟨a.add o,by simp only[val,ha,F3],fun i v hv=>?_,?_⟩
 ·have af:i<cs.length:=by have:=(C4.1 hv).1;rwa[V6] at this
  obtain⟨x,fi,oq⟩:∃x,val β x=v∧B7B x=true:=by
   rw[R1,H6] at hv
   have ak:∀(l:List XV),A0t l=true→∀x∈l,B7B x=true:=by
    intro l
    induction l with
    |nil=>intro _ x hx;cases hx
    |cons y l ih=>
     intro hl x hx
     simp only[A0t] at hl
     split at hl
     ·rename_i hy
      rcases B9.1 hx with rfl|hx
      ·exact hy
      ·exact ih hl x hx
     ·cases hl
   rw[B2 af] at hv
   exact⟨cs[i],by simpa using hv,ak cs h1 _ (I6 af)⟩
  obtain⟨a',ed,s1,s2,-⟩:=B51 aa hi (q:=o % size+i) (by omega) oq
  rw[ha] at ed
  cases ed
  rw[A29,show o+i=o / size*size+(o % size+i) by omega]
  exact⟨s1,s2,by rw[←fi];exact B1v oq⟩
 ·refine hk _ ((S3 (β:=β) (L:=L) hp _).s ?_)
  exact B3z ha cs (o % size) es row (a.add o) 0 (fun n=>by rw[A29];congr 1;omega) aa hi hl h1
theorem B4t{t:TypeId}{n:Nat}{s s':XSt}{a v:XV}(h:B1y P t n s a v=some s')(ae:O4 n s)(hk:O4 n s'→W (asn β s'++L) (k undef) Q):W (asn β s++L) (A0E P t (val β a) (val β v) k) Q:=by
 unfold B1y at h
 split at h
 ·rename_i j o
  split at h
  ·rename_i kd bt
   split at h
   ·rename_i cs cJ
    split at h
    ·rename_i fb
     split at h
     ·rename_i h1
      split at h
      ·rename_i hc
       split at h
       ·rename_i size es r hp
        split at h
        ·rename_i row hi
         split at h
         ·rename_i hle
          cases h
          have bP:=(ae _ _ (S5 hp).1).2
          have cg:O4 n (back j (.own size (es.set (o / size) (A2m row (o % size) cs))) r):=ae.put hp (by
           simp only[A1S] at bP⊢
           rw[y7] at bP⊢
           intro l hl
           rcases List.mem_or_eq_of_mem_set hl with hl|rfl
           ·exact bP l hl
           ·exact B0k (bP row (E5 hi)) hc)
          have iD:Nat.beq (vals β cs).length (P.cellsOf t)=true:=by rw[V6];exact fb
          intro cm hs
          obtain⟨ad,e1,e2⟩:=B0A (f:=fun _=>k undef) (Q:=Q) hs hp hi (B1 hle) h1 (hk cg)
          rw[e1]
          simp only[A0E,bt,A3e (β:=β) cJ,iD]
          cases kd with
          |one tg=>
           simp only[A1s] at cJ
           cases cJ
           exact B27 (L:=asn β s++L) (Q:=Q) (a:=ad) (v:=val β v) (f:=fun _=>k undef) (fun h9 bF=>by
            obtain⟨td,e3,e4⟩:=B0A (f:=fun _=>k undef) (Q:=Q) bF hp hi (B1 hle) h1 (hk cg)
            rw[e1] at e3
            cases e3
            exact e4) cm hs
          |agg ts=>exact e2
         ·cases h
        ·cases h
       ·cases h
      ·cases h
     ·cases h
    ·cases h
   ·cases h
  ·cases h
 ·exact B6u h ae hk
end
end
section
open Go.H
def A4z:Kind→XV→Bool
 |.one t,x=>B1u t x
 |.agg ts,.agg cs=>B2J ts cs
 |.agg _,_=>false
theorem u0{β:As}{kd:Kind}{x:XV}(h:A4z kd x=true):∃y,val β x=kd.val y:=by
 cases kd with
 |one t=>
  obtain⟨⟨y,hy⟩,-⟩:=A7R (β:=β) (show B1u t x=true from h)
  exact⟨y,Tag.aS hy⟩
 |agg ts=>
  cases x<;>simp only[A4z] at h<;>try(cases h;done)
  obtain⟨y,hy,hv⟩:=A8d (β:=β) h
  refine⟨y,?_⟩
  simp only[val,Kind.val]
  rw[←hv]
section
variable {ρ τ:Type} {L:List Asn} {Q:ρ→Heap→Prop} {k:Value→HM ρ} {P:Program} {β:As} {T2:TypeId→Nat}
section
variable {K V:Type} [DecidableEq K] {ek:K→Value}
theorem q6{kd:k4}(hk:KeyLaw kd ek){ev:V→Value}{kind:Kind}{zero:Value}{r:Nat}{l:List (K×V)}{k:K}{y:kind.ty}{R:List Asn}{h:Heap}{Q:kind.ty×Bool→Heap→Prop}
  (hs:sat h (mapA ek ev r l::R))(hv:∀v,A2j l k=some v→ev v=kind.val y)(hz:A2j l k=none→zero=kind.val y)(hq:Q (y,(A2j l k).isSome) h):HM.lookup kd zero kind (some r) (ek k) h Q:=by
 obtain⟨es,c,⟨he,aM⟩,hs⟩:=T7.1 hs
 rcases A41 hk k l es.toList 0 he with⟨h1,h2⟩|⟨v,j,e,h1,h2,-,-⟩
 ·refine⟨es.toList,c,none,y,by simpa[A2G] using hs.get,h2,hz h1,?_⟩
  rw[h1] at hq;exact hq
 ·refine⟨es.toList,c,some (0+j,ev v),y,by simpa[A2G] using hs.get,h2,hv v h1,?_⟩
  rw[h1] at hq;exact hq
end
def B7O(P:Program)(T2:TypeId→Nat)(kt:TypeId)(s:XSt)(x key:XV):Option (Option XV):=
 match x with
 |.map j=>match look j s with
  |some (.mapI es)=>match P.underlying kt with
   |some (.int .i64)=>match key with
    |.int .i64 a=>some (A2j es a)
    |_=>none
   |_=>none
  |some (.mapS es)=>match P.underlying kt with
   |some .string=>match key with
    |.str a=>some (A2j es a)
    |_=>none
   |_=>none
  |some (.mapT es)=>match T2 kt with
   |1=>match key with
    |.agg [.int .i64 a,.int .i64 b]=>some (A2j es (a,b))
    |_=>none
   |_=>none
  |some (.mapP es)=>match T2 kt with
   |2=>match key with
    |.agg [.int .i64 a,.str b]=>some (A2j es (a,b))
    |_=>none
   |_=>none
  |some (.walkI _ es _ _)=>match P.underlying kt with
   |some (.int .i64)=>match key with
    |.int .i64 a=>some (A2j es a)
    |_=>none
   |_=>none
  |some (.walkS _ es _ _)=>match P.underlying kt with
   |some .string=>match key with
    |.str a=>some (A2j es a)
    |_=>none
   |_=>none
  |_=>none
 |.nmap=>match P.underlying kt with
  |some (.int .i64)=>match key with
   |.int .i64 _=>some none
   |_=>none
  |some .string=>match key with
   |.str _=>some none
   |_=>none
  |_=>none
 |_=>none
def B1E(P:Program)(T2:TypeId→Nat)(t:TypeId)(s:XSt)(x key:XV)(ok:Bool):Option XV:=
 match P.underlying t with
 |some (.map kt et)=>match P.underlying kt with
  |some kd=>match P.info? et with
   |some i=>match i.zero with
    |some z=>match Kind.of z with
     |some ek=>match ofV 4 z with
      |some zx=>match B7O P T2 kt s x key with
       |some o=>match A4z ek (o.getD zx) with
        |true=>match ok with
         |true=>some (.aQ [o.getD zx,.bool o.isSome])
         |false=>some (o.getD zx)
        |false=>none
       |none=>none
      |none=>none
     |none=>none
    |none=>none
   |none=>none
  |none=>none
 |_=>none
structure A1Y(P:Program)(T2:TypeId→Nat):Prop where
 law:∀kt,T2 kt=1→(∃fs,P.underlying kt=some (.struct fs))∧KeyLaw (A3H P 8 kt) e2
 lawP:∀kt,T2 kt=2→(∃fs,P.underlying kt=some (.struct fs))∧KeyLaw (A3H P 8 kt) eP
theorem B7N(hT:A1Y P T2){kt:TypeId}{kd:TypeDesc}{s:XSt}{x key:XV}{o:Option XV}{zero:Value}{kind:Kind}{y:kind.ty}{h:Heap}{Q:kind.ty×Bool→Heap→Prop}(bt:P.underlying kt=some kd)(hx:B7O P T2 kt s x key=some o)(hs:sat h (asn β s++L))
  (hv:∀v,o=some v→val β v=kind.val y)(hz:o=none→zero=kind.val y)(hq:Q (y,o.isSome) h):
  ∃r,val β x=.map r∧HM.lookup (m1 P kt kd) zero kind r (val β key) h Q∧(∀{ρ:Type} {m:HM ρ} {h':Heap} {Q':ρ→Heap→Prop},m h' Q'→A0Y P kt kd (val β key) m h' Q'):=by
 unfold B7O at hx
 split at hx
 ·rename_i j
  split at hx
  ·rename_i es hl
   obtain⟨R,aa⟩:=P0 (L:=L) hl hs
   split at hx
   ·rename_i hu
    rw[bt] at hu
    cases hu
    split at hx
    ·rename_i a
     cases hx
     exact⟨_,rfl,q6 (A74 .i64) aa hv hz hq,fun hm=>hm⟩
    ·cases hx
   ·cases hx
  ·rename_i es hl
   obtain⟨R,aa⟩:=P0 (L:=L) hl hs
   split at hx
   ·rename_i hu
    rw[bt] at hu
    cases hu
    split at hx
    ·rename_i a
     cases hx
     exact⟨_,rfl,q6 A73 aa hv hz hq,fun hm=>hm⟩
    ·cases hx
   ·cases hx
  ·rename_i es hl
   obtain⟨R,aa⟩:=P0 (L:=L) hl hs
   split at hx
   ·rename_i hu
    obtain⟨⟨fs,hf⟩,ca⟩:=hT.law kt hu
    rw[bt] at hf
    cases hf
    split at hx
    ·rename_i a b
     cases hx
     refine⟨_,rfl,q6 (k:=(a,b)) ca aa hv hz hq,fun hm=>⟨?_,hm⟩⟩
     exact(ca.same (a,b) (a,b)).trans (by simp)
    ·cases hx
   ·cases hx
  ·rename_i es hl
   obtain⟨R,aa⟩:=P0 (L:=L) hl hs
   split at hx
   ·rename_i hu
    obtain⟨⟨fs,hf⟩,ca⟩:=hT.lawP kt hu
    rw[bt] at hf
    cases hf
    split at hx
    ·rename_i a b
     cases hx
     refine⟨_,rfl,q6 (k:=(a,b)) ca aa hv hz hq,fun hm=>⟨?_,hm⟩⟩
     exact(ca.same (a,b) (a,b)).trans (by simp)
    ·cases hx
   ·cases hx
  ·rename_i es _ _ hl
   obtain⟨R,aa⟩:=P0 (L:=L) hl hs
   split at hx
   ·rename_i hu
    rw[bt] at hu
    cases hu
    split at hx
    ·rename_i a
     cases hx
     exact⟨_,rfl,q6 (A74 .i64) (A3t aa) hv hz hq,fun hm=>hm⟩
    ·cases hx
   ·cases hx
  ·rename_i es _ _ hl
   obtain⟨R,aa⟩:=P0 (L:=L) hl hs
   split at hx
   ·rename_i hu
    rw[bt] at hu
    cases hu
    split at hx
    ·rename_i a
     cases hx
     exact⟨_,rfl,q6 A73 (A3t aa) hv hz hq,fun hm=>hm⟩
    ·cases hx
   ·cases hx
  ·cases hx
 ·split at hx
  ·rename_i hu
   rw[bt] at hu
   cases hu
   split at hx
   ·cases hx
    exact⟨none,rfl,⟨[],0,none,y,⟨rfl,rfl⟩,rfl,hz rfl,hq⟩,fun hm=>hm⟩
   ·cases hx
  ·rename_i hu
   rw[bt] at hu
   cases hu
   split at hx
   ·cases hx
    exact⟨none,rfl,⟨[],0,none,y,⟨rfl,rfl⟩,rfl,hz rfl,hq⟩,fun hm=>hm⟩
   ·cases hx
  ·cases hx
 ·cases hx
theorem B4D(hT:A1Y P T2){t:TypeId}{s:XSt}{x key v:XV}{ok:Bool}(h:B1E P T2 t s x key ok=some v)(hk:W (asn β s++L) (k (val β v)) Q):W (asn β s++L) (A1j P t (val β x) (val β key) ok k) Q:=by
 intro hp hs
 unfold B1E at h
 split at h
 ·rename_i kt et ht
  split at h
  ·rename_i kd bt
   split at h
   ·rename_i i hi
    split at h
    ·rename_i z hz
     split at h
     ·rename_i ek iw
      split at h
      ·rename_i zx pT
       split at h
       ·rename_i o ho
        split at h
        ·rename_i jJ
         obtain⟨y,hy⟩:=u0 (β:=β) jJ
         have pU:=(A1D (β:=β) 4 z zx pT).1
         have hh:(match ok with
           |true=>k (.tuple #[ek.val y,.bool o.isSome])
           |false=>k (ek.val y)) hp Q:=by
          cases ok with
          |true=>
           cases h
           have:=hk hp hs
           simp only[val,vals,hy] at this
           exact this
          |false=>
           cases h
           have:=hk hp hs
           rw[hy] at this
           exact this
         obtain⟨r,e1,e2,e3⟩:=B7N (L:=L) (zero:=z) (kind:=ek) (y:=y) (Q:=fun p h'=>(match ok with
           |true=>k (.tuple #[ek.val p.1,.bool p.2])
           |false=>k (ek.val p.1)) h' Q) hT bt ho hs
          (fun v hv=>by subst hv;exact hy) (fun hn=>by subst hn;rw[←pU];exact hy) hh
         rw[e1]
         simp only[A1j,ht,bt,hi,hz,iw]
         exact e3 e2
        ·cases h
       ·cases h
      ·cases h
     ·cases h
    ·cases h
   ·cases h
  ·cases h
 ·cases h
end
end
section
open Go.H
section
variable {ρ τ:Type} {L:List Asn} {Q:ρ→Heap→Prop} {k:Value→HM ρ} {P:Program} {β:As} {T2:TypeId→Nat}
theorem A2W{K:Type}[DecidableEq K]{n:Nat}{v:XV}(hv:clo n v=true):∀{es:List (K×XV)} {a:K},T8 n es=true→T8 n (A47 es a v)=true
 |[],a,_=>by simp only[A47,T8,hv]
 |(b,w)::es,a,h=>by
  simp only[T8] at h
  split at h
  ·rename_i hw
   simp only[A47]
   split
   ·simp only[T8,hv];exact h
   ·simp only[T8,hw];exact A2W hv h
  ·cases h
theorem A2X{K:Type}[DecidableEq K]{n:Nat}:∀{es:List (K×XV)} {a:K},T8 n es=true→T8 n (A6a es a)=true
 |[],a,_=>rfl
 |(b,w)::es,a,h=>by
  simp only[T8] at h
  split at h
  ·rename_i hw
   simp only[A6a]
   split
   ·exact h
   ·simp only[T8,hw];exact A2X h
  ·cases h
def B9t(P:Program)(T2:TypeId→Nat)(kt:TypeId)(s:XSt)(x key:XV)(v:Option XV):Option XSt:=
 match x with
 |.map j=>match pick j s with
  |some (.mapI es,r)=>match P.underlying kt with
   |some (.int .i64)=>match key with
    |.int .i64 a=>some (back j (.mapI (match v with|some v=>A47 es a v|none=>A6a es a)) r)
    |_=>none
   |_=>none
  |some (.mapS es,r)=>match P.underlying kt with
   |some .string=>match key with
    |.str a=>some (back j (.mapS (match v with|some v=>A47 es a v|none=>A6a es a)) r)
    |_=>none
   |_=>none
  |some (.mapT es,r)=>match T2 kt with
   |1=>match key with
    |.agg [.int .i64 a,.int .i64 b]=>some (back j (.mapT (match v with|some v=>A47 es (a,b) v|none=>A6a es (a,b))) r)
    |_=>none
   |_=>none
  |some (.mapP es,r)=>match T2 kt with
   |2=>match key with
    |.agg [.int .i64 a,.str b]=>some (back j (.mapP (match v with|some v=>A47 es (a,b) v|none=>A6a es (a,b))) r)
    |_=>none
   |_=>none
  |_=>none
 |_=>none
theorem B5M(hT:A1Y P T2){n:Nat}{kt:TypeId}{kd:TypeDesc}{s s':XSt}{x key:XV}{v:Option XV}{h:Heap}{Q:Unit→Heap→Prop}(bt:P.underlying kt=some kd)(hx:B9t P T2 kt s x key v=some s')(ae:O4 n s)(hc:∀u,v=some u→clo n u=true)(hs:sat h (asn β s++L))
  (hq:O4 n s'→∀h',sat h' (asn β s'++L)→Q () h'):
  ∃r,val β x=.map r∧(match v with|some u=>B6q (m1 P kt kd) r (val β key) (val β u)|none=>B6p (m1 P kt kd) r (val β key)) h Q∧(∀{ρ:Type} {m:HM ρ} {h':Heap} {Q':ρ→Heap→Prop},m h' Q'→A0Y P kt kd (val β key) m h' Q'):=by
 unfold B9t at hx
 split at hx
 ·rename_i j
  split at hx
  ·rename_i es r hp
   have bP:=(ae _ _ (S5 hp).1).2
   split at hx
   ·rename_i hu
    rw[bt] at hu
    cases hu
    split at hx
    ·rename_i a
     cases hx
     have aa:sat h (mapA (fun n:Int=>Value.int .i64 n) (val β) (β.b j) es::(asn β r++L)):=(P3 (β:=β) (L:=L) hp).s hs
     cases v with
     |some u=>exact⟨_,rfl,A7Y (A74 .i64) (fun a b h=>by cases h;rfl) aa fun h' ah=>hq (ae.put hp (A2W (hc u rfl) bP)) h' ((S3 (β:=β) (L:=L) hp _).s ah),fun hm=>hm⟩
     |none=>exact⟨_,rfl,A8a (A74 .i64) aa fun h' ah=>hq (ae.put hp (A2X bP)) h' ((S3 (β:=β) (L:=L) hp _).s ah),fun hm=>hm⟩
    ·cases hx
   ·cases hx
  ·rename_i es r hp
   have bP:=(ae _ _ (S5 hp).1).2
   split at hx
   ·rename_i hu
    rw[bt] at hu
    cases hu
    split at hx
    ·rename_i a
     cases hx
     have aa:sat h (mapA (fun s:B1q=>Value.string s) (val β) (β.b j) es::(asn β r++L)):=(P3 (β:=β) (L:=L) hp).s hs
     cases v with
     |some u=>exact⟨_,rfl,A7Y A73 (fun a b h=>by cases h;rfl) aa fun h' ah=>hq (ae.put hp (A2W (hc u rfl) bP)) h' ((S3 (β:=β) (L:=L) hp _).s ah),fun hm=>hm⟩
     |none=>exact⟨_,rfl,A8a A73 aa fun h' ah=>hq (ae.put hp (A2X bP)) h' ((S3 (β:=β) (L:=L) hp _).s ah),fun hm=>hm⟩
    ·cases hx
   ·cases hx
  ·rename_i es r hp
   have bP:=(ae _ _ (S5 hp).1).2
   split at hx
   ·rename_i hu
    obtain⟨⟨fs,hf⟩,ca⟩:=hT.law kt hu
    rw[bt] at hf
    cases hf
    split at hx
    ·rename_i a b
     cases hx
     have aa:sat h (mapA e2 (val β) (β.b j) es::(asn β r++L)):=(P3 (β:=β) (L:=L) hp).s hs
     have fv:∀{ρ:Type} {m:HM ρ} {h':Heap} {Q':ρ→Heap→Prop},m h' Q'→A0Y P kt (.struct fs) (val β (.agg [.int .i64 a,.int .i64 b])) m h' Q':=fun hm=>⟨(ca.same (a,b) (a,b)).trans (by simp),hm⟩
     cases v with
     |some u=>exact⟨_,rfl,A7Y (k:=(a,b)) ca C1m aa fun h' ah=>hq (ae.put hp (A2W (hc u rfl) bP)) h' ((S3 (β:=β) (L:=L) hp _).s ah),fv⟩
     |none=>exact⟨_,rfl,A8a (k:=(a,b)) ca aa fun h' ah=>hq (ae.put hp (A2X bP)) h' ((S3 (β:=β) (L:=L) hp _).s ah),fv⟩
    ·cases hx
   ·cases hx
  ·rename_i es r hp
   have bP:=(ae _ _ (S5 hp).1).2
   split at hx
   ·rename_i hu
    obtain⟨⟨fs,hf⟩,ca⟩:=hT.lawP kt hu
    rw[bt] at hf
    cases hf
    split at hx
    ·rename_i a b
     cases hx
     have aa:sat h (mapA eP (val β) (β.b j) es::(asn β r++L)):=(P3 (β:=β) (L:=L) hp).s hs
     have fv:∀{ρ:Type} {m:HM ρ} {h':Heap} {Q':ρ→Heap→Prop},m h' Q'→A0Y P kt (.struct fs) (val β (.agg [.int .i64 a,.str b])) m h' Q':=fun hm=>⟨(ca.same (a,b) (a,b)).trans (by simp),hm⟩
     cases v with
     |some u=>exact⟨_,rfl,A7Y (k:=(a,b)) ca C1l aa fun h' ah=>hq (ae.put hp (A2W (hc u rfl) bP)) h' ((S3 (β:=β) (L:=L) hp _).s ah),fv⟩
     |none=>exact⟨_,rfl,A8a (k:=(a,b)) ca aa fun h' ah=>hq (ae.put hp (A2X bP)) h' ((S3 (β:=β) (L:=L) hp _).s ah),fv⟩
    ·cases hx
   ·cases hx
  ·cases hx
 ·cases hx
def A4B(P:Program)(T2:TypeId→Nat)(t:TypeId)(n:Nat)(s:XSt)(x key v:XV):Option XSt:=
 match P.underlying t with
 |some (.map kt _)=>match P.underlying kt with
  |some _=>match clo n v with
   |true=>B9t P T2 kt s x key (some v)
   |false=>none
  |none=>none
 |_=>none
theorem A33(hT:A1Y P T2){t:TypeId}{n:Nat}{s s':XSt}{x key v:XV}(h:A4B P T2 t n s x key v=some s')(ae:O4 n s)(hk:O4 n s'→W (asn β s'++L) (k undef) Q):W (asn β s++L) (A0s P t (val β x) (val β key) (val β v) k) Q:=by
 intro hp hs
 unfold A4B at h
 split at h
 ·rename_i kt et ht
  split at h
  ·rename_i kd bt
   split at h
   ·rename_i hc
    obtain⟨r,e1,e2,e3⟩:=B5M (L:=L) (Q:=fun _ h'=>k undef h' Q) hT bt h ae (fun u hu=>by cases hu;exact hc) hs (fun dL h' ah=>hk dL h' ah)
    rw[e1]
    simp only[A0s,ht,bt]
    exact e3 e2
   ·cases h
  ·cases h
 ·cases h
def A7V(P:Program)(T2:TypeId→Nat)(ts:List TypeId)(s:XSt)(vs:List XV):Option XSt:=
 match ts,vs with
 |t::_,[x,key]=>match P.underlying t with
  |some (.map kt _)=>match P.underlying kt with
   |some _=>B9t P T2 kt s x key none
   |none=>none
  |_=>none
 |_,_=>none
theorem A8r(hT:A1Y P T2){ts:List TypeId}{n:Nat}{s s':XSt}{vs:List XV}(h:A7V P T2 ts s vs=some s')(ae:O4 n s)(hk:O4 n s'→W (asn β s'++L) (k (.tuple #[])) Q):W (asn β s++L) (A1l P ts (vals β vs) k) Q:=by
 intro hp hs
 unfold A7V at h
 split at h
 ·rename_i t ts x key
  split at h
  ·rename_i kt et ht
   split at h
   ·rename_i kd bt
    obtain⟨r,e1,e2,e3⟩:=B5M (L:=L) (Q:=fun _ h'=>k (.tuple #[]) h' Q) hT bt h ae (fun u hu=>by cases hu) hs (fun dL h' ah=>hk dL h' ah)
    simp only[vals]
    rw[e1]
    simp only[A1l,ht,bt]
    exact e3 e2
   ·cases h
  ·cases h
 ·cases h
end
end
section
open Go.H
abbrev T3:=Tri XV
abbrev C3f(e:T3)(t:Nat):Option XV:=e.get t
def EAg(β:As)(e:T3)(e0:Env):Prop:=∀t v,e.get t=some v→e0.get t=some (val β v)
def xev(e:T3):Operand→Option XV
 |.tmp t=>C3f e t
 |.const v=>ofV 4 v
 |.global g=>some (.gptr g 0)
 |.func f=>some (.func f [] [])
theorem O7{β:As}{e:T3}{e0:Env}(hE:EAg β e e0){x:Operand}{v:XV}(h:xev e x=some v):e0.ev x=some (val β v):=by
 cases x with
 |tmp t=>exact hE t v h
 |const c=>simp only[Env.ev];rw[(A1D (β:=β) 4 c v h).1]
 |global g=>cases h;rfl
 |func f=>cases h;rfl
def A8k(e:T3):List Operand→Option (List XV)
 |[]=>some []
 |x::xs=>match xev e x with
  |some v=>match A8k e xs with
   |some vs=>some (v::vs)
   |none=>none
  |none=>none
theorem l3{β:As}{e:T3}{e0:Env}(hE:EAg β e e0):∀{xs:List Operand} {vs:List XV},A8k e xs=some vs→e0.cH xs=some (vals β vs)
 |[],vs,h=>by cases h;rfl
 |x::xs,vs,h=>by
  simp only[A8k] at h
  split at h
  ·rename_i v hv
   split at h
   ·rename_i us dv
    cases h
    simp only[Env.cH,O7 hE hv,l3 hE dv,vals]
   ·cases h
  ·cases h
def A8g(e:T3):List (Nat×Operand)→Option (List (Nat×XV))
 |[]=>some []
 |(i,x)::xs=>match xev e x with
  |some v=>match A8g e xs with
   |some vs=>some ((i,v)::vs)
   |none=>none
  |none=>none
theorem A5J{β:As}{e:T3}{e0:Env}(hE:EAg β e e0):∀{xs:List (Nat×Operand)} {vs:List (Nat×XV)},A8g e xs=some vs→s6 e0 xs=some (A6X β vs)
 |[],vs,h=>by cases h;rfl
 |(i,x)::xs,vs,h=>by
  simp only[A8g] at h
  split at h
  ·rename_i v hv
   split at h
   ·rename_i us dv
    cases h
    simp only[s6,O7 hE hv,A5J hE dv,A6X,B6]
   ·cases h
  ·cases h
def s5(e:T3):Option Operand→Option (Option Int)
 |none=>some none
 |some x=>match xev e x with
  |some (.int _ n)=>some (some n)
  |_=>none
theorem S4{β:As}{e:T3}{e0:Env}(hE:EAg β e e0){x:Option Operand}{r:Option Int}(h:s5 e x=some r):A0A e0 x=some r:=by
 cases x with
 |none=>cases h;rfl
 |some x=>
  simp only[s5] at h
  split at h
  ·rename_i kd n hv
   cases h
   simp only[A0A,O7 hE hv,val]
  ·cases h
section
variable {ρ τ:Type} {L:List Asn} {Q:ρ→Heap→Prop} {k:Value→HM ρ} {P:Program} {β:As}
def B1G:List (List XV)→Option (List Int)
 |[]=>some []
 |[.int .u8 n]::r=>match B1G r with
  |some l=>some (n::l)
  |none=>none
 |_=>none
theorem B0q:∀{rows:List (List XV)} {ns:List Int},B1G rows=some ns→(rows.map (vals β)).flatten=ns.map (Value.int .u8)
 |[],_,h=>by cases h;rfl
 |row::r,ns,h=>by
  unfold B1G at h
  split at h
  ·rename_i heq
   cases heq
  ·rename_i n r' heq
   cases heq
   split at h
   ·rename_i l hl
    cases h
    simp only[B6,M1,B0q hl,vals,val]
    rfl
   ·cases h
  ·cases h
def A8s(P:Program)(src dst:TypeId)(s:XSt)(x:XV):Option XV:=
 match P.underlying src with
 |none=>none
 |some us=>match P.underlying dst with
  |some (.int kd)=>match x with
   |.int _ n=>some (.int kd (kd.wrap n))
   |_=>none
  |some .string=>match x with
   |.str b=>some (.str b)
   |.nslc=>match us with
    |.slice e=>match P.underlying e with
     |some (.int .u8)=>some (.str (P1 []))
     |_=>none
    |_=>none
   |.slc j=>match us with
    |.slice e=>match P.underlying e with
     |some (.int .u8)=>match look j s with
      |some (.own size es)=>match Nat.beq size 1 with
       |true=>match B1G es with
        |some ns=>some (.str (P1 ns))
        |none=>none
       |false=>none
      |_=>none
     |_=>none
    |_=>none
   |_=>none
  |_=>none
theorem B2V{src dst:TypeId}{s:XSt}{x v:XV}(h:A8s P src dst s x=some v)(hk:W (asn β s++L) (k (val β v)) Q):W (asn β s++L) (X0 P src dst (val β x) k) Q:=by
 intro hp hs
 unfold A8s at h
 unfold X0
 split at h
 ·cases h
 ·rename_i us dv
  rw[dv]
  split at h
  ·rename_i kd hd
   rw[hd]
   split at h
   ·cases h;exact hk hp hs
   ·cases h
  ·rename_i hd
   rw[hd]
   split at h
   ·cases h;exact hk hp hs
   ·split at h
    ·rename_i e
     split at h
     ·rename_i he
      cases h
      simp only[val,he]
      exact⟨[],rfl,hk hp hs⟩
     ·cases h
    ·cases h
   ·rename_i j
    split at h
    ·rename_i e
     split at h
     ·rename_i he
      split at h
      ·rename_i size es hl
       split at h
       ·rename_i hb
        split at h
        ·rename_i ns dZ
         cases h
         have:=B0 hb
         subst this
         obtain⟨R,aa⟩:=P0 (L:=L) hl hs
         obtain⟨xs,⟨hx,-⟩,ai⟩:=a8.1 (show sat hp (A1B β j 1 es::R) from aa)
         have hr:=A3j (fun x=>x.2.1) (ai.aI (fun x=>x.2.1)) Nat.one_pos
         rw[A76 hx,B0q dZ,M0] at hr
         simp only[val,he]
         exact⟨ns,hr,hk hp hs⟩
        ·cases h
       ·cases h
      ·cases h
     ·cases h
    ·cases h
   ·cases h
  ·cases h
end
end
section
open Go.H
abbrev XR:=XV×Nat×XSt
def same(n:Nat)(s:XSt):Option XV→Option XR
 |some v=>some (v,n,s)
 |none=>none
def unit(n:Nat):Option XSt→Option XR
 |some s=>some (.aQ [],n,s)
 |none=>none
def next(n:Nat):Option (XV×XSt)→Option XR
 |some (v,s)=>some (v,n+1,s)
 |none=>none
theorem U3{n n':Nat}{s s':XSt}{o:Option XV}{v:XV}(h:same n s o=some (v,n',s')):o=some v∧n'=n∧s'=s:=by
 cases o with
 |none=>cases h
 |some u=>cases h;exact⟨rfl,rfl,rfl⟩
theorem unit_eq{n n':Nat}{s':XSt}{o:Option XSt}{v:XV}(h:unit n o=some (v,n',s')):o=some s'∧n'=n∧v=.aQ []:=by
 cases o with
 |none=>cases h
 |some u=>cases h;exact⟨rfl,rfl,rfl⟩
theorem b9{n n':Nat}{s':XSt}{o:Option (XV×XSt)}{v:XV}(h:next n o=some (v,n',s')):o=some (v,s')∧n'=n+1:=by
 cases o with
 |none=>cases h
 |some u=>obtain⟨a,b⟩:=u;cases h;exact⟨rfl,rfl⟩
section
variable {ρ:Type} {L:List Asn} {Q:ρ→Heap→Prop} {k:Value→HM ρ} {P:Program} {β:As} {T2:TypeId→Nat} {C:List Nat}
def B9A(P:Program)(T2:TypeId→Nat)(e:T3)(n:Nat)(s:XSt)(o:Oper):Option XR:=
 match o.op with
 |.move x=>same n s (xev e x)
 |.assign x=>same n s (xev e x)
 |.alloc t=>next n (B4L P t n s)
 |.box t x=>match xev e x with
  |some v=>next n (C0R P t v n s)
  |none=>none
 |.build t ps=>match A8g e ps.toList with
  |some vs=>same n s (B4J P t vs)
  |none=>none
 |.load t x=>match xev e x with
  |some v=>same n s (B5R P t s v)
  |none=>none
 |.store t x y=>match xev e x with
  |some v=>match xev e y with
   |some u=>unit n (B1y P t n s v u)
   |none=>none
  |none=>none
 |.nilCheck x=>match xev e x with
  |some v=>same n s (A5O s v)
  |none=>none
 |.binOp op t x y _=>match xev e x with
  |some v=>match xev e y with
   |some u=>same n s (C0S P op t y v u)
   |none=>none
  |none=>none
 |.unOp op _ x=>match xev e x with
  |some v=>same n s (xUn op v)
  |none=>none
 |.convert a t x=>match xev e x with
  |some v=>same n s (A8s P a t s v)
  |none=>none
 |.slice t x lo hi mx=>match xev e x with
  |some v=>match s5 e lo with
   |some l=>match s5 e hi with
    |some hh=>match s5 e mx with
     |some m=>B4x P t n s v l hh m
     |none=>none
    |none=>none
   |none=>none
  |none=>none
 |.fieldAddr t x f=>match xev e x with
  |some v=>same n s (A36 P t s v f)
  |none=>none
 |.field t x f=>match xev e x with
  |some v=>same n s (B4F P t v f)
  |none=>none
 |.indexAddr t x i=>match xev e x with
  |some v=>match xev e i with
   |some u=>same n s (A35 P t s v u)
   |none=>none
  |none=>none
 |.index t x i=>match xev e x with
  |some v=>match xev e i with
   |some u=>same n s (B4E P t v u)
   |none=>none
  |none=>none
 |.lookup t x i ok=>match xev e x with
  |some v=>match xev e i with
   |some u=>same n s (B1E P T2 t s v u ok)
   |none=>none
  |none=>none
 |.mapUpdate t x i y=>match xev e x with
  |some v=>match xev e i with
   |some u=>match xev e y with
    |some z=>unit n (A4B P T2 t n s v u z)
    |none=>none
   |none=>none
  |none=>none
 |_=>none
theorem B9z(hT:A1Y P T2){e:T3}{e0:Env}(hE:EAg β e e0){d:Dec}{n n':Nat}{s s':XSt}{o:Oper}{v:XV}(h:B9A P T2 e n s o=some (v,n',s'))(ae:O4 n s)
  (hk:∀γ,Agr n β γ→n≤n'→O4 n' s'→W (asn γ s'++L) (k (val γ v)) Q):W (asn β s++L) (T4 P C e0 d o k) Q:=by
 have hs:n'=n→s'=s→W (asn β s++L) (k (val β v)) Q:=fun e1 e2=>by subst e1 e2;exact hk β Agr.rfl (B5 _) ae
 unfold B9A at h
 unfold T4
 split at h
 ·rename_i x ho;rw[ho];obtain⟨h1,h2,h3⟩:=U3 h;simp only[O7 hE h1];exact hs h2 h3
 ·rename_i x ho;rw[ho];obtain⟨h1,h2,h3⟩:=U3 h;simp only[O7 hE h1];exact hs h2 h3
 ·rename_i t ho;rw[ho];obtain⟨h1,rfl⟩:=b9 h;exact B6G h1 ae fun γ hγ hc=>hk γ hγ (E7 _) hc
 ·rename_i t x ho;rw[ho]
  split at h
  ·rename_i u hu;obtain⟨h1,rfl⟩:=b9 h;simp only[O7 hE hu];exact B9G h1 ae fun γ hγ hc=>hk γ hγ (E7 _) hc
  ·cases h
 ·rename_i t ps ho;rw[ho]
  split at h
  ·rename_i vs al;obtain⟨h1,h2,h3⟩:=U3 h;simp only[A5J hE al];exact B6F h1 (hs h2 h3)
  ·cases h
 ·rename_i t x ho;rw[ho]
  split at h
  ·rename_i u hu;obtain⟨h1,h2,h3⟩:=U3 h;simp only[O7 hE hu];exact B2T h1 (hs h2 h3)
  ·cases h
 ·rename_i t x y ho;rw[ho]
  split at h
  ·rename_i u hu
   split at h
   ·rename_i w hw;obtain⟨h1,rfl,rfl⟩:=unit_eq h;simp only[O7 hE hu,O7 hE hw];exact B4t h1 ae fun hc=>hk β Agr.rfl (B5 _) hc
   ·cases h
  ·cases h
 ·rename_i x ho;rw[ho]
  split at h
  ·rename_i u hu;obtain⟨h1,h2,h3⟩:=U3 h;simp only[O7 hE hu];exact B1D h1 (hs h2 h3)
  ·cases h
 ·rename_i op t x y q ho;rw[ho]
  split at h
  ·rename_i u hu
   split at h
   ·rename_i w hw;obtain⟨h1,h2,h3⟩:=U3 h;simp only[O7 hE hu,O7 hE hw];exact B9H h1 (hs h2 h3)
   ·cases h
  ·cases h
 ·rename_i op t x ho;rw[ho]
  split at h
  ·rename_i u hu;obtain⟨h1,h2,h3⟩:=U3 h;simp only[O7 hE hu];exact C0L h1 (hs h2 h3)
  ·cases h
 ·rename_i a t x ho;rw[ho]
  split at h
  ·rename_i u hu;obtain⟨h1,h2,h3⟩:=U3 h;simp only[O7 hE hu];exact B2V h1 (hs h2 h3)
  ·cases h
 ·rename_i t x lo hi mx ho;rw[ho]
  split at h
  ·rename_i u hu
   split at h
   ·rename_i l hl
    split at h
    ·rename_i hh iq
     split at h
     ·rename_i m hm
      simp only[O7 hE hu,S4 hE hl,S4 hE iq,S4 hE hm]
      exact B6v h ae hk
     ·cases h
    ·cases h
   ·cases h
  ·cases h
 ·rename_i t x f ho;rw[ho]
  split at h
  ·rename_i u hu;obtain⟨h1,h2,h3⟩:=U3 h;simp only[O7 hE hu];exact A9Z h1 (hs h2 h3)
  ·cases h
 ·rename_i t x f ho;rw[ho]
  split at h
  ·rename_i u hu;obtain⟨h1,h2,h3⟩:=U3 h;simp only[O7 hE hu];exact B6A h1 (hs h2 h3)
  ·cases h
 ·rename_i t x i ho;rw[ho]
  split at h
  ·rename_i u hu
   split at h
   ·rename_i w hw;obtain⟨h1,h2,h3⟩:=U3 h;simp only[O7 hE hu,O7 hE hw];exact A9Y h1 (hs h2 h3)
   ·cases h
  ·cases h
 ·rename_i t x i ho;rw[ho]
  split at h
  ·rename_i u hu
   split at h
   ·rename_i w hw;obtain⟨h1,h2,h3⟩:=U3 h;simp only[O7 hE hu,O7 hE hw];exact B6z h1 (hs h2 h3)
   ·cases h
  ·cases h
 ·rename_i t x i ok ho;rw[ho]
  split at h
  ·rename_i u hu
   split at h
   ·rename_i w hw;obtain⟨h1,h2,h3⟩:=U3 h;simp only[O7 hE hu,O7 hE hw];exact B4D hT h1 (hs h2 h3)
   ·cases h
  ·cases h
 ·rename_i t x i y ho;rw[ho]
  split at h
  ·rename_i u hu
   split at h
   ·rename_i w hw
    split at h
    ·rename_i z hz;obtain⟨h1,rfl,rfl⟩:=unit_eq h;simp only[O7 hE hu,O7 hE hw,O7 hE hz];exact A33 hT h1 ae fun hc=>hk β Agr.rfl (B5 _) hc
    ·cases h
   ·cases h
  ·cases h
 ·cases h
end
end
section
open Go.H
section
variable {ρ:Type} {L:List Asn} {Q:ρ→Heap→Prop} {k:Value→HM ρ} {P:Program} {β:As} {T2:TypeId→Nat} {C:List Nat}
theorem A8D{l:List XV}{i:Nat}{v:XV}(h:l[i]? =some v):(vals β l)[i]? =some (val β v):=by
 rw[R1,H6,h];rfl
def A8v(P:Program)(T2:TypeId→Nat)(b:Builtin)(ts:List TypeId)(n:Nat)(s:XSt)(vs:List XV):Option XR:=
 match b with
 |.len=>same n s (C0P P ts s vs)
 |.append=>next n (B1H P ts n s vs)
 |.min=>same n s (A7U false vs)
 |.max=>same n s (A7U true vs)
 |.delete=>unit n (A7V P T2 ts s vs)
 |_=>none
theorem B2W(hT:A1Y P T2){b:Builtin}{ts:List TypeId}{n n':Nat}{s s':XSt}{vs:List XV}{v:XV}(h:A8v P T2 b ts n s vs=some (v,n',s'))(ae:O4 n s)
  (hk:∀γ,Agr n β γ→n≤n'→O4 n' s'→W (asn γ s'++L) (k (val γ v)) Q):W (asn β s++L) (A1R P b ts (vals β vs) k) Q:=by
 have hs:n'=n→s'=s→W (asn β s++L) (k (val β v)) Q:=fun e1 e2=>by subst e1 e2;exact hk β Agr.rfl (B5 _) ae
 unfold A8v at h
 split at h
 ·obtain⟨h1,h2,h3⟩:=U3 h;exact B9E h1 (hs h2 h3)
 ·obtain⟨h1,rfl⟩:=b9 h;exact B4K h1 ae fun γ hγ hc=>hk γ hγ (E7 _) hc
 ·obtain⟨h1,h2,h3⟩:=U3 h;exact A8o h1 (hs h2 h3)
 ·obtain⟨h1,h2,h3⟩:=U3 h;exact A8o h1 (hs h2 h3)
 ·obtain⟨h1,rfl,rfl⟩:=unit_eq h;exact A8r hT h1 ae fun hc=>hk β Agr.rfl (B5 _) hc
 ·cases h
def y9(P:Program)(call:Nat→List XV→Nat→XSt→Option XR):Prop:=
 ∀f args n s v n' s',call f args n s=some (v,n',s')→O4 n s→∀(β:As) (L:List Asn) (Q:Value→Heap→Prop),
  (∀γ,Agr n β γ→n≤n'→O4 n' s'→At (asn γ s'++L) (Q (val γ v)))→FW P f (vals β args).toArray (asn β s++L) Q
def B1w:List Kind→List XV→Bool
 |[],[]=>true
 |t::ts,x::xs=>match A4z t x with
  |true=>B1w ts xs
  |false=>false
 |_,_=>false
theorem A5K{β:As}:∀{ts:List Kind} {xs:List XV},B1w ts xs=true→∃y,R0.vals ts y=vals β xs
 |[],[],_=>⟨(),rfl⟩
 |[],_::_,h=>by cases h
 |_::_,[],h=>by cases h
 |t::ts,x::xs,h=>by
  simp only[B1w] at h
  split at h
  ·rename_i ht
   obtain⟨y,hy⟩:=u0 (β:=β) ht
   obtain⟨ys,iM⟩:=A5K (β:=β) h
   refine⟨(y,ys),?_⟩
   show t.val y::R0.vals ts ys=val β x::vals β xs
   rw[iM,hy]
  ·cases h
def B0l(P:Program)(t:TypeId)(v:XV):Bool:=
 match B3o P t with
 |some (.one kd)=>A4z kd v
 |some (.many ks)=>match v with
  |.aQ vs=>B1w ks vs
  |_=>false
 |none=>false
theorem B7R{call:Nat→List XV→Nat→XSt→Option XR}(hC:y9 P call){t:TypeId}{f n n':Nat}{s s':XSt}{first cap vs:List XV}{v:XV}(hf:X2 f C=true)(h:call f (first++(vs++cap)) n s=some (v,n',s'))(bA:B0l P t v=true)(ae:O4 n s)
  (hk:∀γ,Agr n β γ→n≤n'→O4 n' s'→W (asn γ s'++L) (k (val γ v)) Q):W (asn β s++L) (A5z P C t (val β (.func f first cap)) (vals β vs) k) Q:=by
 intro hp hs
 have dK:=fun Q'=>hC f _ n s v n' s' h ae β L Q'
 have ea:(vals β (first++(vs++cap))).toArray=((vals β first).toArray.toList++(vals β vs++(vals β cap).toArray.toList)).toArray:=by
  simp only[R1,C7]
 simp only[val,A5z,hf]
 unfold B0l at bA
 split at bA
 ·rename_i kd hr
  rw[hr]
  have:=dK (fun v' h'=>∃x,v'=kd.val x∧k (kd.val x) h' Q) (fun γ hγ hle hc h' ah=>by
   obtain⟨y,hy⟩:=u0 (β:=γ) bA
   refine⟨y,hy,?_⟩
   have:=hk γ hγ hle hc h' ah
   rwa[hy] at this) hp hs
  rw[ea] at this
  exact this
 ·rename_i ks hr
  rw[hr]
  split at bA
  ·rename_i us
   have:=dK (fun v' h'=>∃x,v'=.tuple (R0.vals ks x).toArray∧k (.tuple (R0.vals ks x).toArray) h' Q) (fun γ hγ hle hc h' ah=>by
    obtain⟨y,hy⟩:=A5K (β:=γ) bA
    refine⟨y,by simp only[val];rw[hy],?_⟩
    have:=hk γ hγ hle hc h' ah
    simp only[val] at this
    rw[←hy] at this
    exact this) hp hs
   rw[ea] at this
   exact this
  ·cases bA
 ·cases bA
end
end
section
open Go.H
section
variable {ρ:Type} {L:List Asn} {Q:ρ→Heap→Prop} {k:Value→HM ρ} {P:Program} {β:As} {T2:TypeId→Nat} {C:List Nat}
def C0x(P:Program)(T2:TypeId→Nat)(t:TypeId):Nat:=
 match P.underlying t with
 |some (.map kt _)=>match P.underlying kt with
  |some .string=>1
  |some (.struct _)=>match T2 kt with
   |2=>3
   |_=>2
  |_=>0
 |_=>0
def B98(P:Program)(t:TypeId):Option XR→Option XR
 |some (v,n,s)=>match B0l P t v with
  |true=>some (v,n,s)
  |false=>none
 |none=>none
theorem B6b{t:TypeId}{o:Option XR}{r:XR}(h:B98 P t o=some r):o=some r∧B0l P t r.1=true:=by
 cases o with
 |none=>cases h
 |some u=>
  obtain⟨v,n,s⟩:=u
  simp only[B98] at h
  split at h
  ·rename_i hf;cases h;exact⟨rfl,hf⟩
  ·cases h
def xOp(P:Program)(T2:TypeId→Nat)(C:List Nat)(call:Nat→List XV→Nat→XSt→Option XR)(e:T3)(n:Nat)(s:XSt)(o:Oper):Option XR:=
 match o.op with
 |.extract x i=>match xev e x with
  |some (.aQ vs)=>same n s (vs[i]?)
  |_=>none
 |.makeInterface t x=>match xev e x with
  |some v=>match P.underlying t with
   |some (.interface _)=>none
   |some _=>some (.iface t v,n,s)
   |none=>none
  |none=>none
 |.makeFunc (.func f) first cap=>match A8k e first.toList with
  |some vs=>match A8k e cap.toList with
   |some us=>some (.func f vs us,n,s)
   |none=>none
  |none=>none
 |.makeMap t none=>some ((B7M n s (C0x P T2 t)).1,n+1,(B7M n s (C0x P T2 t)).2)
 |.call c=>match A8k e c.args.toList with
  |some vs=>match c.callee with
   |.builtin b=>A8v P T2 b c.argTypes.toList n s vs
   |.value (.func f)=>match X2 f C with
    |true=>B98 P o.type (call f vs n s)
    |false=>none
   |_=>none
  |none=>none
 |_=>B9A P T2 e n s o
theorem A5N(hT:A1Y P T2){call:Nat→List XV→Nat→XSt→Option XR}(hC:y9 P call){e:T3}{e0:Env}(hE:EAg β e e0){d:Dec}{n n':Nat}{s s':XSt}{o:Oper}{v:XV}(h:xOp P T2 C call e n s o=some (v,n',s'))(ae:O4 n s)
  (hk:∀γ,Agr n β γ→n≤n'→O4 n' s'→W (asn γ s'++L) (k (val γ v)) Q):W (asn β s++L) (T4 P C e0 d o k) Q:=by
 have hs:n'=n→s'=s→W (asn β s++L) (k (val β v)) Q:=fun e1 e2=>by subst e1 e2;exact hk β Agr.rfl (B5 _) ae
 unfold xOp at h
 split at h
 ·rename_i x i ho
  split at h
  ·rename_i vs al
   obtain⟨h1,h2,h3⟩:=U3 h
   unfold T4
   rw[ho]
   simp only[O7 hE al,val,A8D (β:=β) h1]
   exact hs h2 h3
  ·cases h
 ·rename_i t x ho
  split at h
  ·rename_i u hu
   split at h
   ·cases h
   ·rename_i dd bh hd
    cases h
    unfold T4
    rw[ho]
    simp only[O7 hE hu]
    rw[hd]
    have:=hs rfl rfl
    simp only[val] at this
    cases dd<;>first|exact this|exact absurd rfl (bh _)
   ·cases h
  ·cases h
 ·rename_i f first cap ho
  split at h
  ·rename_i vs al
   split at h
   ·rename_i us dv
    cases h
    unfold T4
    rw[ho]
    simp only[l3 hE al,l3 hE dv]
    exact hs rfl rfl
   ·cases h
  ·cases h
 ·rename_i t ho
  cases h
  unfold T4
  rw[ho]
  exact B9D ae fun γ hγ hc=>hk γ hγ (E7 _) hc
 ·rename_i c ho
  split at h
  ·rename_i vs al
   split at h
   ·rename_i b hb
    unfold T4
    rw[ho]
    simp only[l3 hE al,hb]
    exact B2W hT h ae hk
   ·rename_i f hf
    split at h
    ·rename_i hm
     obtain⟨h1,h2⟩:=B6b h
     unfold T4
     rw[ho]
     simp only[l3 hE al,hf]
     exact B7R (first:=[]) (cap:=[]) hC hm (by simpa using h1) h2 ae hk
    ·cases h
   ·cases h
  ·cases h
 ·exact B9z hT hE h ae hk
end
end
end Go.X