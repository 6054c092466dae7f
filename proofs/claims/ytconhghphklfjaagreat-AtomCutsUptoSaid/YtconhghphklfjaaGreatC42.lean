/- AtomCuts: with all clean and a checkpoint from time to time any number of groups goes through a small log; conditions: the statement's. -/
import Derived.Test.YtconhghphklfjaaGreatC41
import Derived.Test.YtconhghphklfjaaGreatC35
import Derived.Test.YtconhghphklfjaaGreatRows
import Derived.WalkKit
import Derived.ProofKit
import Derived.OpenShut
import Derived.JoinedCond
import Derived.ChangeBook
import Derived.ChangeStays
namespace Go.Proofs.YtconhghphklfjaaGreat.Am
open Go Go.ChangeShapes Go.WideShapes Go.ChangeAt Go.RowKit
noncomputable def vH (P:Program)(t:TypeId): Array Field:=match P.underlying t with
 | some (.struct I)=>I
 | _ => #[]
def FI (I:Array Field)(i:Nat): Option (TypeId×Nat):=(I[i]?).map fun f=>(f.type,f.offset)
theorem Yn : Tryz.prog.underlying 134=some (.struct (vH Tryz.prog 134)):=by kernel_rfl
theorem Yo : Tryz.prog.underlying 62=some (.struct (vH Tryz.prog 62)):=by kernel_rfl
theorem SV : Tryz.prog.cellsOf 134=2:=by kernel_rfl
theorem SW : Tryz.prog.cellsOf 62=4:=by kernel_rfl
theorem IJ : Tryz.prog.cellsOf 3=1:=by kernel_rfl
theorem SX : Tryz.prog.cellsOf 32=1:=by kernel_rfl
theorem Yp : Tryz.prog.cellsOf 60=1:=by kernel_rfl
theorem Yq : (vH Tryz.prog 134).size=2:=by kernel_rfl
theorem Yr : (vH Tryz.prog 62).size=4:=by kernel_rfl
theorem Ys : FI (vH Tryz.prog 134) 0=some (3,0):=by kernel_rfl
theorem Yt : FI (vH Tryz.prog 134) 1=some (32,1):=by kernel_rfl
theorem Yu : FI (vH Tryz.prog 62) 0=some (3,0):=by kernel_rfl
theorem Yv : FI (vH Tryz.prog 62) 1=some (3,1):=by kernel_rfl
theorem Yw : FI (vH Tryz.prog 62) 2=some (60,2):=by kernel_rfl
theorem Yx : FI (vH Tryz.prog 62) 3=some (32,3):=by kernel_rfl
theorem wG {J:Array Field}{i:Nat}{t:TypeId}{o:Nat}(h:FI J i=some (t,o)): ∃f,J[i]?=some f∧f.type=t∧f.offset=o:=by
 unfold FI at h
 obtain ⟨f,U,I⟩:=Option.map_eq_some_iff.1 h
 simp only [aP] at I
 exact ⟨f,U,I.1,I.2⟩
def Pk (vs:List V)(x:Int×List Nat): ax:=.xs fun u:V=>.an (.pu (vs=[.int .i64 x.1,u])) (.cm u x.2)
theorem aE.Pk (vs:List V)(x:Int×List Nat): aE (Am.Pk vs x):=aE.xs fun _=>aE.an (aE.pu _) (aE.cm _ _)
def Pm (vs:List V)(D:jb): ax:=.xs fun w:V=>.xs fun d:V=>.an (.pu (vs=[.int .i64 D.act,.int .i64 D.cG,w,d])) (oa w d D)
theorem aE.Pm (vs:List V)(D:jb): aE (Am.Pm vs D):=aE.xs fun _=>aE.xs fun _=>aE.an (aE.pu _) (aE.oa _ _ _)
theorem SY {α:Type}{l:List α}(h:l.length=2): ∃a b,l=[a,b]:=by
 rcases l with _ | ⟨a,_ | ⟨b,_ | ⟨c,l⟩⟩⟩ <;> simp at h
 exact ⟨a,b,rfl⟩
theorem SZ {α:Type}{l:List α}(h:l.length=4): ∃a b c d,l=[a,b,c,d]:=by
 rcases l with _ | ⟨a,_ | ⟨b,_ | ⟨c,_ | ⟨d,_ | ⟨e,l⟩⟩⟩⟩⟩ <;> simp at h
 exact ⟨a,b,c,d,rfl⟩
theorem wH {α β:Type}{f:α→β}{l:List α}{b:β}(h:l.map f=[b]): ∃a,l=[a]∧f a=b:=by
 rcases l with _ | ⟨a,_ | ⟨c,l⟩⟩
 ·cases h
 ·simp at h; exact ⟨a,rfl,h⟩
 ·simp at h
section
variable {H':Type} {enc:TypeId×Value→H'} {W:World} {fuel B:Nat} {cs:List Value} {x:DataW H'×List MemPlace}
theorem Uy (h:DataW.trod enc Tryz.prog W 0 (fun _=>true) true fuel 134 cs=some x)(hB:Rows.uptoBulk x.1≤B): nH W cs Pk (fun y=>y.2.length≤B):=by
 obtain ⟨xs,n,rfl,rfl,hl,hx,hf⟩:=DataW.trod_struct Yn h
 rw [SV] at hl
 rw [Yq] at hx
 obtain ⟨f0,a0,b0,c0⟩:=wG Ys
 obtain ⟨f1,a1,b1,c1⟩:=wG Yt
 have J:=hf 0 f0 a0
 have U:=hf 1 f1 a1
 rw [b0,c0,IJ] at J
 rw [b1,c1,SX] at U
 obtain ⟨v0,v1,rfl⟩:=SY hl
 obtain ⟨y0,I,rfl⟩:=SY hx
 have J:DataW.trod enc Tryz.prog W 0 (fun _=>true) true n 3 [v0]=some y0:=J
 have U:DataW.trod enc Tryz.prog W 0 (fun _=>true) true n 32 [v1]=some I:=U
 obtain ⟨m,hm,_,_⟩:=DataW.trod_int bF J
 injection hm with hm _
 subst hm
 have KP:Rows.uptoBulk I.1≤B:=by
  rw [II] at hB
  have:=p_ (l:=[y0.1,I.1]) (d:=I.1) (by simp)
  have e:([y0,I].map (·.1))=[y0.1,I.1]:=rfl
  rw [e] at hB
  omega
 intro c σ S hr
 obtain ⟨c',iE,vs,l,r1,r2,r3,r4,r5⟩:=EJ U KP c σ S hr
 obtain ⟨u,rfl,hu⟩:=wH r3
 refine ⟨c',iE,[.int .i64 m,u],(m,l),r1.sat fun h s=>s.fP fun a b k => ?_,r2,by simp [conc,hu],fun v hv => ?_,r5⟩
 ·obtain ⟨u',e,k⟩:=k
  injection e with e _
  subst e
  exact ⟨u,rfl,k⟩
 ·rcases List.mem_cons.1 hv with rfl | hv
  ·exact ⟨aa,rfl⟩
  ·exact r4 v hv
theorem RA (h:DataW.trod enc Tryz.prog W 0 (fun _=>true) true fuel 60 cs=some x)(I:Rows.uptoBulk x.1≤B): nH W cs (Du 2 nF) (fun xs=>xs.length≤B∧∀y∈xs,y.2.length≤B) :=
 FH (E:=Pk) Di SV (by decide) aE.Pk (fun l m=>aE.nF m l) (fun _ _=>trivial) (fun vs x l m a b J U=>by
  obtain ⟨u,e,k⟩:=J
  have e:vs=[.int .i64 x.1,u]:=e
  subst e
  exact ⟨⟨rfl,k⟩,U⟩) (fun n cs y hy hb=>Uy hy hb) h I
theorem Uz (h:DataW.trod enc Tryz.prog W 0 (fun _=>true) true fuel 62 cs=some x)(hB:Rows.uptoBulk x.1≤B): nH W cs Pm (fun D=>D.data.length≤B∧D.w.length≤B∧∀y∈D.w,y.2.length≤B):=by
 obtain ⟨xs,n,rfl,rfl,hl,hx,hf⟩:=DataW.trod_struct Yo h
 rw [SW] at hl
 rw [Yr] at hx
 obtain ⟨f0,a0,b0,c0⟩:=wG Yu
 obtain ⟨f1,a1,b1,c1⟩:=wG Yv
 obtain ⟨f2,a2,b2,c2⟩:=wG Yw
 obtain ⟨f3,a3,b3,c3⟩:=wG Yx
 have h0:=hf 0 f0 a0
 have h1:=hf 1 f1 a1
 have h2:=hf 2 f2 a2
 have h3:=hf 3 f3 a3
 rw [b0,c0,IJ] at h0
 rw [b1,c1,IJ] at h1
 rw [b2,c2,Yp] at h2
 rw [b3,c3,SX] at h3
 obtain ⟨v0,v1,v2,v3,rfl⟩:=SZ hl
 obtain ⟨y0,y1,I,J,rfl⟩:=SZ hx
 have h0:DataW.trod enc Tryz.prog W 0 (fun _=>true) true n 3 [v0]=some y0:=h0
 have h1:DataW.trod enc Tryz.prog W 0 (fun _=>true) true n 3 [v1]=some y1:=h1
 have h2:DataW.trod enc Tryz.prog W 0 (fun _=>true) true n 60 [v2]=some I:=h2
 have h3:DataW.trod enc Tryz.prog W 0 (fun _=>true) true n 32 [v3]=some J:=h3
 obtain ⟨m0,U,_,_⟩:=DataW.trod_int bF h0
 injection U with U _
 subst U
 obtain ⟨m1,ya,_,_⟩:=DataW.trod_int bF h1
 injection ya with ya _
 subst ya
 rw [II] at hB
 have e:([y0,y1,I,J].map (·.1))=[y0.1,y1.1,I.1,J.1]:=rfl
 rw [e] at hB
 have Xf:Rows.uptoBulk I.1≤B:=by
  have:=p_ (l:=[y0.1,y1.1,I.1,J.1]) (d:=I.1) (by simp)
  omega
 have hB3:Rows.uptoBulk J.1≤B:=by
  have:=p_ (l:=[y0.1,y1.1,I.1,J.1]) (d:=J.1) (by simp)
  omega
 intro c σ S hr
 obtain ⟨c1,Ry,ZO,l,r1,r2,r3,r4,r5⟩:=EJ h3 hB3 c σ S hr
 obtain ⟨d,rfl,hd⟩:=wH r3
 obtain ⟨c2,σ2,vs2,ws,t1,t2,t3,t4,t5⟩:=RA h2 Xf c1 Ry _ r1
 obtain ⟨w,rfl,hw⟩:=wH t3
 obtain ⟨q1,q2⟩:=cz t2 d (r4 d (by simp)).1
 refine ⟨c2,σ2,[.int .i64 m0,.int .i64 m1,w,d],⟨m0,m1,ws,l⟩,t1.sat fun h s=>s.two (aE.Du (fun l m=>aE.nF m l) _ _) (aE.SS _ _) fun a b k1 k2 => ?_,r2.trans t2,by simp [conc,hw,q1,hd],fun v hv => ?_,r5,t5⟩
 ·obtain ⟨w',cs,e1,k1⟩:=k1
  obtain ⟨d',e2,k2⟩:=k2
  have e1:[w]=[w']:=e1
  have e2:[d]=[d']:=e2
  injection e1 with e1 _
  injection e2 with e2 _
  subst e1
  subst e2
  exact ⟨w,d,rfl,⟨cs,k1⟩,k2⟩
 ·simp only [fb,lV,qY] at hv
  rcases hv with rfl | rfl | rfl | rfl
  ·exact ⟨aa,rfl⟩
  ·exact ⟨aa,rfl⟩
  ·exact t4 _ (by simp)
  ·exact ⟨q2,(r4 _ (by simp)).2⟩
theorem RB (h:DataW.trod enc Tryz.prog W 0 (fun _=>true) true fuel 56 cs=some x)(I:Rows.uptoBulk x.1≤B): nH W cs (Du 4 jc) (fun xs=>xs.length≤B∧∀D∈xs,D.data.length≤B∧D.w.length≤B∧∀y∈D.w,y.2.length≤B) :=
 FH (E:=Pm) zZ SW (by decide) aE.Pm (fun l m=>aE.jc m l) (fun _ _=>trivial) (fun vs x l m a b J U=>by
  obtain ⟨w,d,e,k⟩:=J
  have e:vs=[.int .i64 x.act,.int .i64 x.cG,w,d]:=e
  subst e
  exact ⟨⟨⟨rfl,rfl⟩,k⟩,U⟩) (fun n cs y hy hb=>Uz hy hb) h I
end
end Go.Proofs.YtconhghphklfjaaGreat.Am
namespace Go.Proofs.YtconhghphklfjaaGreat.Am
open Go Go.ChangeShapes Go.WideShapes Go.ChangeAt Go.RowKit
noncomputable def Gd (f:Nat): Option (List V→H→Option (V×H)) :=
 cond (Nat.beq f 101) (some (nA Tryz.prog 101 Ga)) (Dt f)
noncomputable abbrev CE : dx:=⟨Tryz.prog,Gd⟩
theorem RC : W4 Gd:=by
 refine ⟨⟨⟨⟨fun f I => ?_,rfl,rfl⟩,rfl,rfl⟩,toldAw,rfl,fun _=>rfl⟩,rfl⟩
 have J:f≠101:=fun e=>by subst e; revert I; decide
 simp only [Gd,cS J,az]
 exact Rw.w.w.free f I
theorem IK : gZ CE:=by
 intro f g I
 simp only [CE,Gd] at I ⊢
 by_cases J:f=101
 ·subst J
  rw [gX rfl,ag] at I
  simp only [au] at I
  subst I
  exact zB ⟨_,Ia,rfl,by decide⟩
 ·rw [cS J,az] at I
  exact Rx f g I
theorem g6.okE {f:FuncId}{args:List V}{h h':H}{v:V}(J:g6 CE f args h v h'){c:Ctx}{w:World}(I:Rel c h w)(hw:∀x∈args,wf c x): fT Tryz.prog f args c w v h':=by
 obtain ⟨N,U⟩:=J
 exact (wQ (C:=CE) (FZ g_ IK N).1 IK U I hw).1
end Go.Proofs.YtconhghphklfjaaGreat.Am
namespace Go.Proofs.YtconhghphklfjaaGreat.Am
open Go Go.ChangeShapes Go.WideShapes Go.ChangeAt Go.RowKit
theorem Pn {H':Type}{enc:TypeId×Value→H'}{W:World}{I J:Nat}{x1 x2:DataW H'×List MemPlace}{v0 v1:Value}{n0:Int}(h1:DataW.trod enc Tryz.prog W 0 (fun _=>true) true I 56 [v0]=some x1)(KP:Rows.uptoBulk x1.1≤1048576)
 (h2:DataW.trod enc Tryz.prog W 0 (fun _=>true) true J 32 [v1]=some x2)(Xf:Rows.uptoBulk x2.1≤1048576):
  Calls Tryz.prog 8 #[v0,.int .i64 n0,v1] W fun e w'=>e=.returned (.bool true)∧W.keptBut w' (fun _=>False)∧W.heap.size≤w'.heap.size∧∀b,b<W.heap.size→w'.heap[b]?=W.heap[b]?:=by
 obtain ⟨c0,σ0,h0⟩:=z_.zero W
 obtain ⟨c1,Ry,ZO,L,uS,_,ya,aa7,hL,hD⟩:=RB h1 KP c0 σ0 [] h0
 obtain ⟨lv,rfl,hlv⟩:=wH ya
 obtain ⟨c,σ,vs2,ch,hr,BA,MO,aa8,U⟩:=EJ h2 Xf c1 Ry _ uS
 obtain ⟨cv,rfl,MK⟩:=wH MO
 have MV:=cz BA lv (aa7 lv (by simp)).1
 obtain ⟨cv',s⟩:=gw.1 hr.2.2
 have s0:=s
 obtain ⟨_,_,_,_,hk⟩:=s0.at (k:=0) rfl
 have e:[cv]=[cv']:=hk.1
 injection e with e _
 subst e
 have s:=s.fP (B:=.cm cv ch) fun _ _ k=>k.2
 obtain ⟨lv',s⟩:=gw.1 (s.ae [1])
 obtain ⟨cs,s⟩:=gw.1 s
 have s0:=s
 obtain ⟨_,_,_,_,hk⟩:=s0.at (k:=0) rfl
 have e:[lv]=[lv']:=hk.1
 injection e with e _
 subst e
 have s1:=((s.fP (B:=.an (ja 4 lv cs) (jc cs L)) fun _ _ k=>k.2).dup (aE.an (aE.ja _ _ _) (aE.jc _ _))).fP (B:=ja 4 lv cs) (fun _ _ k=>k.1) |>.ae [1] |>.fP (B:=jc cs L) (fun _ _ k=>k.2) |>.ae [1]
 obtain ⟨v',h',Cq,rfl⟩:=Ux RC (D0:=ch) (By:=cv) (n0:=n0) hD hL U (s1.ae [0,0,0])
 have lB:=Cq.okE hr.1 (fun x hx=>by
  rcases List.mem_cons.1 hx with rfl | hx
  ·exact MV.2
  ·rcases List.mem_cons.1 hx with rfl | hx
   ·exact aa
   ·rw [List.mem_singleton.1 hx]; exact (aa8 cv (by simp)).1)
 unfold fT at lB
 have ea:(([lv,.int .i64 n0,cv].map (conc c)).toArray) = #[v0,.int .i64 n0,v1]:=by simp [conc,MV.1,hlv,MK]
 rw [ea] at lB
 refine Calls.mono lB ?_
 rintro e w' ⟨c',rfl,_,_,hs⟩
 obtain ⟨k1,k2,k3⟩:=JI hr.2.1 hs
 exact ⟨by simp [conc],k1,k2,k3⟩
end Go.Proofs.YtconhghphklfjaaGreat.Am
namespace Go.Proofs.YtconhghphklfjaaGreat.AtomCuts
open Go.ChangeShapes Go.WideShapes Go.ChangeAt Go.RowKit
theorem own : ownKnob Tryz.prog.godebug=none:=by kernel_rfl
theorem laid : laidOutB Tryz.prog=true:=by kernel_rfl
theorem Mj : Tryz.prog.readableRec 56=true:=by kernel_rfl
theorem row : (56:TypeId)<Tryz.prog.types.size:=of_decide_eq_true (by kernel_rfl)
theorem S0 : Tryz.prog.readableRec 32=true:=by kernel_rfl
theorem aa9 : (32:TypeId)<Tryz.prog.types.size:=of_decide_eq_true (by kernel_rfl)
set_option maxRecDepth 100000 in
theorem RD (H:Type)(enc:TypeId×Value→H)(W:World)(base:Nat)(args:Array Value)(ds gs:List (DataW H))(before:List MemPlace)
 (I:∀(j:Nat) t v,Tryz.f8.params[j]?=some t→args[j]?=some v→Value.okWide Tryz.prog W .any base t v)
 (hW:DataW.Whole enc Tryz.prog Tryz.f8.params.toList Rows.atomCutsSpec.vars false W args.toList ds gs before)(hk:Rows.uptoBulkAll (ds++gs)≤1048576):
  Calls Tryz.prog 8 args W fun e W'=>∃v,e=.returned v∧Rows.atomCutsSpec.post enc Tryz.prog Tryz.f8 false true false false W args v W':=by
 have Xg:=hW
 obtain ⟨p,q,hA0,hV,rfl,v7,nc⟩:=hW
 have hA:DataW.TrodAll enc Tryz.prog W 0 (fun _=>true) true Tryz.f8.params.toList args.toList ds p:=hA0
 rw [Tryz.params8] at hA I
 obtain ⟨v0,vs0,d0,ds0,p0,q0,Si,rfl,rfl,h0,r0⟩:=trodAll_cons hA
 obtain ⟨vi,vsi,di,dsi,pi,qi,rfl,rfl,rfl,hi,ri⟩:=trodAll_cons r0
 obtain ⟨v1,ZO,d1,ds1,p1,q1,rfl,rfl,rfl,h1,r1⟩:=trodAll_cons ri
 obtain ⟨rfl,rfl,rfl⟩:=trodAll_nil r1
 obtain rfl:args = #[v0,vi,v1]:=by cases args; simp_all
 obtain ⟨rfl,rfl⟩:=trodVars_none hV
 obtain ⟨a0,rfl,rfl,rfl,w0⟩:=open_int Tryz.underlying3 (I 1 3 vi rfl rfl) hi
 obtain ⟨J,h0⟩:=h0
 obtain ⟨fuel,h1⟩:=h1
 have Xh:v0.cells.toList=[v0]:=by
  have:=I 0 56 v0 rfl rfl
  simp only [Value.okWide,Tryz.underlying56,Cell.okWide,Cell.ok] at this
  split at this <;> first | rfl | exact this.elim
 have Ay:v1.cells.toList=[v1]:=by
  have:=I 2 32 v1 rfl rfl
  simp only [Value.okWide,Tryz.underlying32,Cell.okWide,Cell.ok] at this
  split at this <;> first | rfl | exact this.elim
 have h0':=h0
 rw [Xh] at h0
 have Oy:=h1
 rw [Ay] at h1
 have AY:Rows.uptoBulk d0≤1048576:=by
  have:=Am.p_ (l:=([d0,DataW.lit (Lit.int .i64 a0),d1]++([]:List (DataW H)))) (d:=d0) (by simp)
  exact Nat.le_trans this hk
 have hb:Rows.uptoBulk d1≤1048576:=by
  have:=Am.p_ (l:=([d0,DataW.lit (Lit.int .i64 a0),d1]++([]:List (DataW H)))) (d:=d1) (by simp)
  exact Nat.le_trans this hk
 refine (Am.Pn (n0:=a0) h0 AY h1 hb).mono fun e W' ⟨he,hg,hs,U⟩ => ?_
 subst he
 have bS:∀x∈p1,x.block<W.heap.size:=fun x hx=>Xg.lt x (by simp [hx])
 have Xi:∀x∈p0,x.block<W.heap.size:=fun x hx=>Xg.lt x (by simp [hx])
 have cG:∀ {p:List MemPlace},(∀x∈p,x.block<W.heap.size)→∀x∈p,match x with | .cell b off=>W'.cell? ⟨b,off,none⟩=W.cell? ⟨b,off,none⟩ | .map b=>W'.heap[b]?=W.heap[b]?:=fun hp x hx=>by
  have hl:=hp x hx
  cases x with
  | cell b off =>
   show W'.cell? ⟨b,off,none⟩=W.cell? ⟨b,off,none⟩
   unfold World.cell?
   rw [U b hl]
  | map b=>exact U b hl
 have Xj:DataW.trod enc Tryz.prog W' 0 (fun b=>decide (b<W.heap.size)) true J 56 v0.cells.toList=some (d0,p0) :=
  DataW.trod_stays (kids_book laid Mj) (book_sized Mj) (fun h=>by cases h) ⟨row,book_self _⟩ h0' (cG Xi) (fun x hx=>by simpa using Xi x hx)
 have Yy:DataW.trod enc Tryz.prog W' 0 (fun b=>decide (b<W.heap.size)) true fuel 32 v1.cells.toList=some (d1,p1) :=
  DataW.trod_stays (kids_book laid S0) (book_sized S0) (fun h=>by cases h) ⟨aa9,book_self _⟩ Oy (cG bS) (fun x hx=>by simpa using bS x hx)
 exact ⟨_,rfl,⟨_,[],_,[],_,[],Xg,trodAll_cons_mk (shut_bool Tryz.underlying4 _) trodAll_mk0,trodAll_cons_mk ⟨J,Xj⟩ (trodAll_cons_mk (shut_int Tryz.underlying3 w0) (trodAll_cons_mk ⟨fuel,Yy⟩ trodAll_mk0)),rfl,World.keptBut_mono (fun _ f=>f.elim) hg,fun h=>by cases h⟩⟩
set_option maxRecDepth 100000 in
theorem lifted (os:Os)(started:os.Started)(H:Type)(enc:TypeId×Value→H)(F:Stop.Interp):
  ReturnsInHanded {} Tryz.checked os 8 .any ((Rows.OpenSpec.upto Rows.atomCutsSpec).pre6 enc Tryz.prog Tryz.f8 Rows.atomCutsUptoRow.domain false) (((Rows.OpenSpec.upto Rows.atomCutsSpec).at F).post enc Tryz.prog Tryz.f8 false true false false):=by
 refine returnsInHanded_of_cond (C:=Tryz.checked) (s:=Rows.OpenSpec.upto Rows.atomCutsSpec) (k:=Rows.uptoSmall) rfl own started (by kernel_rfl) Tryz.func8
  (OpenSpec.witness (enc:=enc) (C:=Tryz.checked) (s:=Rows.OpenSpec.upto Rows.atomCutsSpec) (k:=Rows.uptoSmall) rfl false ⟨#[], #[.slice none 0 0,.int .i64 0,.slice none 0 0],[]⟩ 8 (by kernel_rfl) (by kernel_rfl) (by kernel_rfl)
   (x:=([.nil,.lit (.int .i64 0),.nil],[],[])) (by kernel_rfl) rfl (by kernel_rfl)) ?_
 intro W base args ds gs before I J _ U _
 exact RD H enc W base args ds gs before I J (of_decide_eq_true U)
theorem b_ : Rows.atomCutsUptoRow.holds Tryz.pinned (Rows.OpenSpec.upto Rows.atomCutsSpec) :=
 OpenClaim.holds_of_cond 8 Tryz.f8 rfl rfl rfl rfl rfl rfl rfl ⟨rfl,rfl,rfl,rfl,rfl⟩ rfl rfl rfl rfl rfl (by kernel_rfl) Tryz.func8 (by kernel_rfl)
  (of_decide_eq_true (by kernel_rfl)) (by unfold Func.isWrapper; first | (rw [if_pos (by decide +kernel)]; kernel_rfl) | (rw [if_neg (by decide +kernel)]; exact ⟨rfl,rfl⟩))
  (fun os started H enc _ F=>lifted os started H enc F)
theorem proved : Rows.AtomCutsUptoSaid :=
 b_
#print axioms proved
end Go.Proofs.YtconhghphklfjaaGreat.AtomCuts
