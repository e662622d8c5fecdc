/-
  Our texts, packed by program.
-/
import Derived.Test.YtmpgankhnfpoaaaGreatDoorQNodeRefuses10
set_option linter.unusedSimpArgs false
set_option linter.unusedVariables false
set_option maxHeartbeats 16000000
set_option maxRecDepth 100000
namespace Go.Proofs.YtmpgankhnfpoaaaGreatDoor
open Go.H
open Go.Proofs.Tryz
open Go.ChangeShapes Go.WideShapes Go.ChangeAt Go.RowKit Go.Proofs Go.Lib Go.H
theorem lm2(os:Os)(args:C3D):(DataW.laidRun prog (lw os args) 8 (A5e.map (·.1))).map (fun x=>decide x.2.Nodup&&laidRowsB prog (lw os args) x.2)=some true:=by
 have ha:=C3q os args
 have hb:=C3p os args
 generalize DataW.laidRun prog (lw os args) 8 (A5e.map (·.1))=r at ha hb
 cases r with
 |none=>cases ha
 |some x=>
  simp only[F3,C3] at ha hb⊢
  rw[ha,hb]
  rfl
theorem B8s(os:Os)(args:C3D):laidMetH prog z7 ((A3s os).forCall (fun _ _=>0) ⟨#[],args,[]⟩).memory:=
 laidMetH_of_parts3 (fuel:=8) (laidMet_of_run' 8 (lm1 os args) (lm2 os args)) (lm3 os args) (lm4 os args)
theorem C1o:(z7.filter fun x=>x.2.handleName?.isSome)=[("errors.errorType",Rows.laid_errors_errorType)]:=by kernel_rfl
theorem B5Z{W:World}(h:laidMetH prog z7 W):laidMet prog A5e W∧handlesMet prog [("errors.errorType",Rows.laid_errors_errorType)] W:=by
 unfold laidMetH at h
 rw[C1o] at h
 exact h
theorem B7Y:U8Extra prog A37 where
 n3:=by kernel_rfl
 n4:=by kernel_rfl
 y3:=by kernel_rfl
 y4:=by kernel_rfl
 c5:=by kernel_rfl
 c119:=by kernel_rfl
 c138:=by kernel_rfl
theorem B7u:(Rows.laid_unicode_utf8_acceptRanges:DataW Unit)=acceptData:=by kernel_rfl
theorem B8E:(Rows.laid_unicode_utf8_first:DataW Unit)=firstData:=Pinned.utf8First_eq
theorem B4R{W:World}(h:laidMetH prog z7 W):U8 W.heap:=by
 have h':=B5Z h
 have h4:=laidMet.reads h'.1 (n:= "unicode/utf8.acceptRanges") (d:=Rows.laid_unicode_utf8_acceptRanges) (List.mem_filter.2 ⟨by rw[B08];exact B8 _ (B7 ..),by kernel_rfl⟩)
 have h3:=laidMet.reads h'.1 (n:= "unicode/utf8.first") (d:=Rows.laid_unicode_utf8_first) (List.mem_filter.2 ⟨by rw[B08];exact B7 ..,by kernel_rfl⟩)
 rw[B7u] at h4
 rw[B8E] at h3
 have ht:=utf8Tabs_of_readsT (L:={u8 with}) B7Y h3 h4
 exact⟨fun c hc=>ht.1 c hc,fun i hi=>ht.2 i hi⟩
theorem C3s:prog.globalNamed "errors.errorType" =some 0:=by kernel_rfl
theorem C3m:(prog.cutTypes.find? (·.1== "internal/reflectlite.rtype")).map (·.2)=some 385:=by kernel_rfl
theorem C2u:((List.range 673).filter fun t=>prog.rowNamed t [101,114,114,111,114])=[46]:=by kernel_rfl
theorem C01:prog.types.size=673:=by kernel_rfl
theorem B8B:typeHandle prog 46=.pointer (some ⟨9,46,none⟩):=by kernel_rfl
theorem B3V{W:World}(h:laidMetH prog z7 W):B0j W.heap:=by
 have h':=B5Z h
 obtain⟨name,u,ty,e1,e2,e3,e4,e5⟩:=h'.2 ("errors.errorType",Rows.laid_errors_errorType) (B4.2 rfl)
 have en:name=[101,114,114,111,114]:=(L7 e1).symm
 subst en
 obtain rfl:=L7 (C3m.symm.trans e2)
 have hm:ty∈(List.range 673).filter fun t=>prog.rowNamed t [101,114,114,111,114]:=List.mem_filter.2 ⟨List.mem_range.2 (by rw[←C01];exact e3),e4⟩
 rw[C2u] at hm
 obtain rfl:=B4.1 hm
 rw[B8B] at e5
 have h5:=World.var?_cell C3s e5 0
 have h6:W.cell? ⟨0,0,none⟩=some (.iface 385 (.agg #[.pointer (some ⟨9,46,none⟩)])):=by simpa using h5
 exact h6
structure B9f(h:Heap):Prop where
 tp:TP h
 er:B0j h
theorem B61{W:World}(h:laidMetH prog z7 W)(gE:W.ShapedOpen prog):B9f W.heap:=
 ⟨⟨B4R h,cell_of_shapedOpen_int (t:=3) (zero:=#[.int .i64 0]) gE (of_decide_eq_true (by kernel_rfl)) (by kernel_rfl) rfl (by kernel_rfl) (by kernel_rfl) underlying3⟩,B3V h⟩
def okB{H:Type}(t:TypeId)(d:DataW H):Prop:=Rows.uptoBulk d≤1048576
theorem A5C{H:Type}:∀{l:List (DataW H)} {d:DataW H},d∈l→Rows.uptoBulk d≤Rows.uptoBulkAll l
 |x::l,d,h=>by
  simp only[Rows.uptoBulkAll]
  rcases B9.1 h with rfl|h
  ·omega
  ·have:=A5C h
   omega
theorem B8V{H:Type}(d:DataW H):1≤Rows.uptoBulk d:=by
 cases d with
 |lit l=>cases l<;>simp[Rows.uptoBulk]
 |_=>simp[Rows.uptoBulk]
theorem B38{H:Type}:∀(l:List (DataW H)),l.length≤Rows.uptoBulkAll l
 |[]=>E9 _
 |d::l=>by
  have:=B38 l
  have:=B8V d
  simp only[D8,Rows.uptoBulkAll]
  omega
theorem B53{H:Type}:Go.R.OkLaw (H:=H) prog okB 1048576 (fun _=>1) where
 str h:=by simp only[okB,Rows.uptoBulk] at h;omega
 elem _ h hd:=by simp only[okB,Rows.uptoBulk] at h⊢;have:=A5C hd;omega
 cnt {t e elems rest} _ h:=by simp only[okB,Rows.uptoBulk] at h;have:=B38 elems;omega
 field _ h _ hd:=by simp only[okB,Rows.uptoBulk] at h⊢;have:=A5C (E5 hd);omega
 arr _ h hd:=by simp only[okB,Rows.uptoBulk] at h⊢;have:=A5C hd;omega
section
variable {H:Type} {ec:TypeId×Value→H} {w:World} {base:Nat} {sp:Nat→Bool} {held:Bool} {ok:TypeId→DataW H→Prop} {top:Nat} {wt:TypeId→Nat}
theorem B0U(hk:Go.R.OkLaw prog ok top wt):Go.R.RdG ec prog w base sp held ok 88 Q6 (fun x:X3=>(Lit.int .i64 x.1).wf=true∧(Lit.int .i64 x.2.1).wf=true∧x.2.2.1.size≤top∧x.2.2.2.size≤top):=
 Go.R.rg_map (fun x:X3=>x) (Go.R.rg_struct hk underlying88 (n:=4) (by kernel_rfl) (Go.R.rf_cons (c:=1) (by kernel_rfl) (by rfl) (Go.R.rg_int underlying3)
  (Go.R.rf_cons (c:=1) (by kernel_rfl) (by rfl) (Go.R.rg_int underlying3)
  (Go.R.rf_cons (c:=1) (by kernel_rfl) (by rfl) (Go.R.rg_str hk underlying9)
  (Go.R.rf_one (c:=1) (by kernel_rfl) (by rfl) (by decide) (Go.R.rg_str hk underlying9)))))) (fun _=>rfl) (fun _ h=>h)
theorem B77(hk:Go.R.OkLaw prog ok top wt):Go.R.RdG ec prog w base sp held ok 150 Y2 (fun x:A5I=>x.1.size≤top∧(Lit.int .i64 x.2.1).wf=true∧True∧True∧(Lit.int .i64 x.2.2.2.2).wf=true):=
 Go.R.rg_map (fun x:A5I=>x) (Go.R.rg_struct hk underlying150 (n:=5) (by kernel_rfl) (Go.R.rf_cons (c:=1) (by kernel_rfl) (by rfl) (Go.R.rg_str hk underlying9)
  (Go.R.rf_cons (c:=1) (by kernel_rfl) (by rfl) (Go.R.rg_int underlying3)
  (Go.R.rf_cons (c:=1) (by kernel_rfl) (by rfl) (Go.R.rg_bool underlying4)
  (Go.R.rf_cons (c:=1) (by kernel_rfl) (by rfl) (Go.R.rg_bool underlying4)
  (Go.R.rf_one (c:=1) (by kernel_rfl) (by rfl) (by decide) (Go.R.rg_int underlying3))))))) (fun _=>rfl) (fun _ h=>h)
abbrev B85:=B1q×B1q×Int×Bool×(Slc×List X3)
theorem B6P(hk:Go.R.OkLaw prog ok top wt):Go.R.RdG ec prog w base sp held ok 83 (fun x:B85=>[.string x.1,.string x.2.1,.int .i64 x.2.2.1,.bool x.2.2.2.1,.slice x.2.2.2.2.1.a x.2.2.2.2.1.len x.2.2.2.2.1.cap]) (fun x=>x.1.size≤top∧P6 Q6 4 w.heap x.2.2.2.2.1 x.2.2.2.2.2∧∀p∈x.2.2.2.2.2,p.2.2.1.size≤top∧p.2.2.2.size≤top):=
 Go.R.rg_map (fun x:B85=>x) (Go.R.rg_struct hk underlying83 (n:=5) (by kernel_rfl) (Go.R.rf_cons (c:=1) (by kernel_rfl) (by rfl) (Go.R.rg_str hk underlying9)
  (Go.R.rf_cons (c:=1) (by kernel_rfl) (by rfl) (Go.R.rg_str hk underlying9)
  (Go.R.rf_cons (c:=1) (by kernel_rfl) (by rfl) (Go.R.rg_int underlying3)
  (Go.R.rf_cons (c:=1) (by kernel_rfl) (by rfl) (Go.R.rg_bool underlying4)
  (Go.R.rf_one (c:=1) (by kernel_rfl) (by rfl) (by decide) (Go.R.rg_slice hk underlying81 (by kernel_rfl) rfl (B0U hk)))))))) (fun _=>rfl) (fun _ h=>⟨h.1,h.2.2.2.2.row,fun p hp=>(h.2.2.2.2.bB p hp).2.2⟩)
abbrev C2X:=Int×Bool×Bool×Int×Int×B1q×B1q×Int×(Slc×List Int)×(Slc×List X3)×B1q×Bool×Int×Bool×B85×Bool×Bool×B1q×B1q×Bool×(Slc×List A5I)×(Slc×List B1q)
def C2c:C2X→PkQ|(vk,vd,vr,vq,vi,vt,vp,vc,(s8,cl),(s9,pl),aK,aG,aF,ax,(aZ,bd,aL,ba,au,wl),ay,aA,vu,aE,aD,(ar,sl),(aq,fl))=>⟨(vk,vd,vr,vq,vi,vt,vp,vc,s8,s9,aK,aG,aF,ax,aZ,bd,aL,ba,au,ay,aA,vu,aE,aD,ar,aq,()),cl,pl,wl,sl,fl⟩
theorem B3s(hk:Go.R.OkLaw prog ok top wt):Go.R.RdG ec prog w base sp held ok 86 (fun x:PkQ=>A2H .u8 x.pk) (PkG top w.heap):=
 Go.R.rg_map C2c (Go.R.rg_struct hk underlying86 (n:=26) (by kernel_rfl) (Go.R.rf_cons (c:=1) (by kernel_rfl) (by rfl) (Go.R.rg_int underlying3)
  (Go.R.rf_cons (c:=1) (by kernel_rfl) (by rfl) (Go.R.rg_bool underlying4)
  (Go.R.rf_cons (c:=1) (by kernel_rfl) (by rfl) (Go.R.rg_bool underlying4)
  (Go.R.rf_cons (c:=1) (by kernel_rfl) (by rfl) (Go.R.rg_int underlying3)
  (Go.R.rf_cons (c:=1) (by kernel_rfl) (by rfl) (Go.R.rg_int underlying3)
  (Go.R.rf_cons (c:=1) (by kernel_rfl) (by rfl) (Go.R.rg_str hk underlying9)
  (Go.R.rf_cons (c:=1) (by kernel_rfl) (by rfl) (Go.R.rg_str hk underlying9)
  (Go.R.rf_cons (c:=1) (by kernel_rfl) (by rfl) (Go.R.rg_int underlying5)
  (Go.R.rf_cons (c:=1) (by kernel_rfl) (by rfl) (Go.R.rg_slice hk underlying80 (by kernel_rfl) rfl (Go.R.rg_int underlying5))
  (Go.R.rf_cons (c:=1) (by kernel_rfl) (by rfl) (Go.R.rg_slice hk underlying81 (by kernel_rfl) rfl (B0U hk))
  (Go.R.rf_cons (c:=1) (by kernel_rfl) (by rfl) (Go.R.rg_str hk underlying9)
  (Go.R.rf_cons (c:=1) (by kernel_rfl) (by rfl) (Go.R.rg_bool underlying4)
  (Go.R.rf_cons (c:=1) (by kernel_rfl) (by rfl) (Go.R.rg_int underlying3)
  (Go.R.rf_cons (c:=1) (by kernel_rfl) (by rfl) (Go.R.rg_bool underlying4)
  (Go.R.rf_cons (c:=5) (by kernel_rfl) (by rfl) (B6P hk)
  (Go.R.rf_cons (c:=1) (by kernel_rfl) (by rfl) (Go.R.rg_bool underlying4)
  (Go.R.rf_cons (c:=1) (by kernel_rfl) (by rfl) (Go.R.rg_bool underlying4)
  (Go.R.rf_cons (c:=1) (by kernel_rfl) (by rfl) (Go.R.rg_str hk underlying9)
  (Go.R.rf_cons (c:=1) (by kernel_rfl) (by rfl) (Go.R.rg_str hk underlying9)
  (Go.R.rf_cons (c:=1) (by kernel_rfl) (by rfl) (Go.R.rg_bool underlying4)
  (Go.R.rf_cons (c:=1) (by kernel_rfl) (by rfl) (Go.R.rg_slice hk underlying84 (by kernel_rfl) rfl (B77 hk))
  (Go.R.rf_one (c:=1) (by kernel_rfl) (by rfl) (by decide) (Go.R.rg_slice hk underlying26 (by kernel_rfl) rfl (Go.R.rg_str hk underlying9)))))))))))))))))))))))))
  (fun(vk,vd,vr,vq,vi,vt,vp,vc,(s8,cl),(s9,pl),aK,aG,aF,ax,(aZ,bd,aL,ba,au,wl),ay,aA,vu,aE,aD,(ar,sl),(aq,fl))=>rfl) (fun(vk,vd,vr,vq,vi,vt,vp,vc,(s8,cl),(s9,pl),aK,aG,aF,ax,(aZ,bd,aL,ba,au,wl),ay,aA,vu,aE,aD,(ar,sl),(aq,fl)) ⟨_,_,_,_,_,g5,g6,g7,g8,g9,g10,_,_,_,g14,_,_,g17,_,_,g20,g21⟩=>⟨⟨g9.row,g14.2.1,g8.row,g20.row,g21.row⟩,g5,g6,g10,g14.1,g17,fun p hp=>(g9.bB p hp).2.2,g14.2.2,fun s hs=>(g20.bB s hs).1,fun f hf=>g21.bB f hf⟩)
theorem B45(hk:Go.R.OkLaw prog ok top wt):Go.R.RdG ec prog w base sp held ok 28 C2O (EvG top w.heap):=
 Go.R.rg_map (fun(a,b,(s,ps),(t,bs),r)=>(⟨a,b,s,ps,t,bs,r⟩:EvQ)) (Go.R.rg_struct hk underlying28 (n:=5) (by kernel_rfl) (Go.R.rf_cons (c:=1) (by kernel_rfl) (by rfl) (Go.R.rg_int underlying3)
  (Go.R.rf_cons (c:=1) (by kernel_rfl) (by rfl) (Go.R.rg_int underlying3)
  (Go.R.rf_cons (c:=1) (by kernel_rfl) (by rfl) (Go.R.rg_slice hk underlying25 (by kernel_rfl) rfl (B3s hk))
  (Go.R.rf_cons (c:=1) (by kernel_rfl) (by rfl) (Go.R.rg_slice hk underlying26 (by kernel_rfl) rfl (Go.R.rg_str hk underlying9))
  (Go.R.rf_one (c:=1) (by kernel_rfl) (by rfl) (by decide) (Go.R.rg_str hk underlying9)))))))
  (fun(a,b,(s,ps),(t,bs),r)=>rfl) (fun(a,b,(s,ps),(t,bs),r) ⟨_,_,g2,g3,g4⟩=>⟨g2.row,fun p hp=>g2.bB p hp,g3.row,fun f hf=>g3.bB f hf,g4⟩)
abbrev C0G:=B1q×Int×Int×B1q×B1q
theorem B6Q(hk:Go.R.OkLaw prog ok top wt):Go.R.RdG ec prog w base sp held ok 67 (fun x:C0G=>[.string x.1,.int .i64 x.2.1,.int .i64 x.2.2.1,.string x.2.2.2.1,.string x.2.2.2.2]) (fun x=>x.1.size≤top∧x.2.2.2.1.size≤top∧x.2.2.2.2.size≤top):=
 Go.R.rg_map (fun x:C0G=>x) (Go.R.rg_struct hk underlying67 (n:=5) (by kernel_rfl) (Go.R.rf_cons (c:=1) (by kernel_rfl) (by rfl) (Go.R.rg_str hk underlying9)
  (Go.R.rf_cons (c:=1) (by kernel_rfl) (by rfl) (Go.R.rg_int underlying3)
  (Go.R.rf_cons (c:=1) (by kernel_rfl) (by rfl) (Go.R.rg_int underlying3)
  (Go.R.rf_cons (c:=1) (by kernel_rfl) (by rfl) (Go.R.rg_str hk underlying9)
  (Go.R.rf_one (c:=1) (by kernel_rfl) (by rfl) (by decide) (Go.R.rg_str hk underlying9))))))) (fun _=>rfl) (fun _ h=>⟨h.1,h.2.2.2.1,h.2.2.2.2⟩)
theorem B6R(hk:Go.R.OkLaw prog ok top wt):Go.R.RdG ec prog w base sp held ok 69 S0 (fun l:Z6=>l.2.1.size≤top∧l.2.2.2.2.1.size≤top∧l.2.2.2.2.2.1.size≤top):=
 Go.R.rg_map (fun(a,p,d,q,l,r)=>((a,p,d,q,l,r,()):Z6)) (Go.R.rg_struct hk underlying69 (n:=6) (by kernel_rfl) (Go.R.rf_cons (c:=1) (by kernel_rfl) (by rfl) (Go.R.rg_int underlying3) (Go.R.rf_one (c:=5) (by kernel_rfl) (by rfl) (by decide) (B6Q hk)))) (fun(a,p,d,q,l,r)=>rfl) (fun(a,p,d,q,l,r) h=>h.2)
theorem B6S(hk:Go.R.OkLaw prog ok top wt):Go.R.RdG ec prog w base sp held ok 24 C2P (CfG top w.heap):=
 Go.R.rg_map (fun(a,(s,ls),b,c)=>(⟨a,s,ls,b,c⟩:CfQ)) (Go.R.rg_struct hk underlying24 (n:=4) (by kernel_rfl) (Go.R.rf_cons (c:=1) (by kernel_rfl) (by rfl) (Go.R.rg_int underlying3)
  (Go.R.rf_cons (c:=1) (by kernel_rfl) (by rfl) (Go.R.rg_slice hk underlying22 (by kernel_rfl) rfl (B6R hk))
  (Go.R.rf_cons (c:=1) (by kernel_rfl) (by rfl) (Go.R.rg_int underlying3)
  (Go.R.rf_one (c:=1) (by kernel_rfl) (by rfl) (by decide) (Go.R.rg_int underlying3))))))
  (fun(a,(s,ls),b,c)=>rfl) (fun(a,(s,ls),b,c) ⟨_,g1,_,_⟩=>⟨g1.row,fun l hl=>g1.bB l hl⟩)
end
end Go.Proofs.YtmpgankhnfpoaaaGreatDoor