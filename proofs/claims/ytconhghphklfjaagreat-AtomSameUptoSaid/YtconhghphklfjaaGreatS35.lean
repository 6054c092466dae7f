/- AtomSame: a part of its proof; conditions: its statement's. -/
import Derived.Test.YtconhghphklfjaaGreatS34
import Derived.Test.YtconhghphklfjaaGreatS32
namespace Go.Proofs.YtconhghphklfjaaGreat.Am
open Go
theorem xp : dI (List.replicate 512 0)=0:=by rw [dI,aj rfl]
theorem Oz : jO (List.replicate 512 0)=[]:=by rw [jO,aj (.inr rfl)]
def fresh (n m f:Nat): aM:=(Pl.fresh f,(Lg.fresh,Dk.fresh n m))
theorem BB {n m:Nat}(k:Int): (Dk.fresh n m).at k=List.replicate 512 0:=by
 rw [Dk.at,show lookL k (Dk.fresh n m).now=none from rfl]
 simp only [Dk.fresh]
 cases I:(List.replicate n (none:Option (List Nat)))[k.toNat]? with
 | none=>rfl
 | some o =>
  have:=qC (bq I)
  subst this
  rfl
theorem Fb {n m f:Nat}(k:Int): pgA (fresh n m f) k=List.replicate 512 0:=by
 rw [mI (by rfl)]
 exact BB k
theorem qt {f i:Nat}{x:Fm}(h:(Pl.fresh f).ak[i]?=some x): x=eT:=qC (bq h)
theorem EI.fresh {n m f:Nat}(hn:n≤65536)(hm:m≤16777216)(hf:1≤f)(Kr:f≤1024): EI n 1 (fresh n m f):=by
 have J:∀x∈(Pl.fresh f).ak,x=eT:=fun x I=>qC I
 have hlen:(Pl.fresh f).ak.length=f:=ff
 refine ⟨⟨⟨⟨(show 0<(Pl.fresh f).ak.length by rw [hlen]; omega),(show (Pl.fresh f).ak.length≤1024 by rw [hlen]; exact Kr),fun e he=>(by cases he),fun x I=>by rw [J x I]; decide,fun x I=>by rw [J x I]; decide⟩,Lg.HA,?_⟩,fun x I=>by rw [J x I]; rfl,⟨ki,fun k i U=>(by cases U)⟩⟩,⟨?_,ki,fun k i U=>(by cases U),fun i x I=>.inl (by rw [qt I]; decide),fun k U=>(by cases U),ki⟩,⟨rfl,aL _,(show (1:Nat)+0≤1*1048600 by decide)⟩,?_⟩
 ·exact ⟨(show (-1:Int)<4294967296 by decide),fh _,hm,fun e he=>(by cases he),fun i b hb=>(by have h1:some b=none:=qC (bq hb); cases h1),aL _,(show (List.replicate n (none:Option (List Nat))).length≤65536 by rw [ff]; exact hn)⟩
 ·exact ⟨rfl,(show (-1:Int)<0 by decide),ff,fun k U=>(by cases U),ki,fun k h0 h1=>by show dI ((Dk.fresh n m).at k)=0; rw [BB]; exact xp⟩
 ·have e:gF (Pl.fresh f).ak=0:=by
   rw [gF,List.count_eq_zero]
   intro hh
   obtain ⟨x,I,hc⟩:=List.mem_map.1 hh
   rw [J x I] at hc
   cases hc
  show ([]:List Wr).length+gF (Pl.fresh f).ak≤_
  rw [e]; decide
theorem kK.fresh {n m f:Nat}: kK (Am.fresh n m f) (List.replicate n []):=fun k w hw=>by
 rw [Fb,Oz]
 exact (qC (bq hw)).symm
structure W3 (told:dF): Prop where
 w:W2 told
 aw:∃g,told 11=some g∧∀h,g [] h=some (.bool true,h)
theorem TP {h:H}{S:List ax}{cs:List V}{m:List iC}{i:Nat}{x:iC}(s:Sat h (jW cs m::S))(U:m[i]?=some x):
  ∃w d,(cs.drop (i*4)).take 4=[.int .i64 x.act,.int .i64 x.cS,w,d]∧Sat h (nX w d x::jW cs m::S):=by
 obtain ⟨a,b,q1,q2,q3⟩:=s.at (k:=0) rfl
 obtain ⟨u,v,e1,e2⟩:=CX q3 U
 refine ⟨u,v,e1,(s.dup (aE.jW _ _)).ga (B:=nX u v x) fun a b h => ?_⟩
 obtain ⟨u',v',I,J⟩:=CX h U
 rw [e1] at I
 injection I with _ I
 injection I with _ I
 injection I with hu I
 injection I with hv _
 subst hu
 subst hv
 exact J
theorem zD {h:H}{S:List ax}{cs:List V}{m:List iC}{k:Nat}(s:Sat h S)(I:getA S k=some (jW cs m)): cs.length=m.length*4:=by
 obtain ⟨a,b,U,q2,J⟩:=s.at I
 exact LU J
section
variable {told:dF} {h:H} {S:List ax} {X:ax} {r k q p a g aD N B:Nat} {op v x pv nv wv dv lv:V} {l data:List Nat} {ε:aM} {ps nx:List (List Nat)} {L:List iC} {cs:List V}
theorem QF (I:W3 told)(s:Sat h S): Call ⟨Tryz.prog,told⟩ 11 [] h fun v h'=>v=.bool true∧h'=h:=by
 obtain ⟨g,J,U⟩:=I.aw
 exact ⟨_,_,gU.told J Tryz.func11 rfl (U h),rfl,rfl⟩
end
structure W4 (told:dF): Prop where
 w:W3 told
 pr:told 101=some (nq Tryz.prog 101 FR)
theorem W4.wr {told:dF}(h:W4 told): WR told:=⟨h.w.w.w,h.pr⟩
section
variable {told:dF} {h:H} {S:List ax} {X:ax} {dv:V} {data:List Nat}
end
theorem XB {h:H}{S:List ax}{cs:List V}{m:List Wr}{i:Nat}{x:Wr}{wt:V}{j1:Nat}(s:Sat h (ug cs m::S))(h1:getA (ug cs m::S) j1=some (.arr 2 wt cs))(I:m[i]?=some x):
  ∃id off u,indexAddrV Tryz.prog 120 wt (.int .i64 (i:Int))=some (.ptr id off)∧loadV Tryz.prog h 125 (.ptr id off)=some (.agg [.int .i64 (x.1:Int),u])∧u≠.bA∧Sat h (.ct u x.2::ug cs m::S):=by
 obtain ⟨a,b,q1,q2,q3⟩:=s.at (k:=0) rfl
 have hl:=Av q3
 have Cq:=(List.getElem?_eq_some_iff.1 I).1
 have key:∀ {m:List Wr} {cs:List V} {i:Nat} {x:Wr} {a b:PM},(ug cs m).p a b→m[i]?=some x→∃u,(cs.drop (i*2)).take 2=[.int .i64 (x.1:Int),u]∧u≠.bA∧(ax.ct u x.2).p a b:=by
  intro m
  induction m with
  | nil=>intro cs i x a b _ h; simp at h
  | cons y m ih =>
   intro cs i x a b h I
   rcases cs with _ | ⟨p,_ | ⟨v,cs⟩⟩ <;> first | exact h.elim | skip
   obtain ⟨⟨⟨J,e2⟩,e3⟩,e4⟩:=h
   cases i with
   | zero=>simp at I; subst I; exact ⟨v,by rw [J]; rfl,e2,e3⟩
   | succ i =>
    simp at I
    obtain ⟨u,f1,f2⟩:=ih e4 I
    refine ⟨u,?_,f2⟩
    rw [←f1,show (i+1)*2=i*2+2 by omega]
    rfl
 obtain ⟨u,J,e2,e3⟩:=key q3 I
 obtain ⟨id,off,g1,U⟩:=GM (P:=Tryz.prog) (i:=i) s h1 (by omega) (by decide) yK Ci
 have U:=U RE
 rw [J] at U
 refine ⟨id,off,u,g1,U,e2,?_⟩
 have s1:=(s.dup (aE.wr _ _)).ga (B:=.ct u x.2) fun a b h=>by
  obtain ⟨u',f1,_,f3⟩:=key h I
  rw [J] at f1
  injection f1 with _ f1
  injection f1 with f1 _
  subst f1
  exact f3
 exact s1
def layW (c:List Nat): Nat→List Wr→List (Option (List Nat))→List (Option (List Nat))
 | _,[],P=>P
 | i,w::l,P=>layW c (i+1) l (if c.getD i 0%2=0 then P.set w.1 (some w.2) else P)
def tornP (c:List Nat)(k:Nat)(P:List (Option (List Nat))): Option Wr→List (Option (List Nat))
 | none=>P
 | some w=>P.set w.1 (some (cZ (cZ (List.replicate 512 0) 0 ((P.getD w.1 none).getD [])) 0 (w.2.take (c.getD k 0/2%5*128))))
def kI (δ:Dk)(c:List Nat): Nat:=(c.getD 0 0+256*c.getD 1 0)%((δ.log.drop δ.aR++δ.tail).length+1)
def rW (δ:Dk)(c:List Nat): List Nat:=δ.log.take δ.aR++(δ.log.drop δ.aR++δ.tail).take (kI δ c)
def fA (δ:Dk)(c:List Nat): Dk :=
 { room:=δ.room,aq:=tornP c δ.waiting.length (layW c 0 δ.waiting δ.aq) δ.eH,waiting:=[],now:=[],log:=rW δ c,aR:=(rW δ c).length,mark:=δ.mark,aI := -1,dead:=false,eH:=none,tail:=[] }
theorem aac {P:Program}{h:H}{t:TypeId}{x y:Operand}{n:Nat}(U:n<256): binV P h .and t x y (.int .i64 (n:Int)) (.int .i64 1)=some (.int .i64 ((n%2:Nat):Int)):=by
 have I:((n:Int)%(2^(IntKind.i64).bits:Int)).toNat=n:=by simp only [IntKind.bits]; omega
 have J:((1:Int)%(2^(IntKind.i64).bits:Int)).toNat=1:=by simp only [IntKind.bits]; omega
 simp only [binV,ikBeq,ah,intV,bitsV,I,J]
 rw [show Nat.land n 1=n%2 from Nat.and_one_is_mod n,wrap_i64 (by omega)]
section
variable {told:dF} {h:H} {S:List ax} {X:ax} {v w cv wt:V} {l c:List Nat} {k p q nk N:Nat} {δ:Dk}
theorem uY (hT:W told){i:Nat}(s:Sat h S)(hk:getA S k=some X)(hX:cR X (cV v c)): Call ⟨Tryz.prog,told⟩ 64 [v,.int .i64 (i:Int)] h fun r h'=>r=.int .i64 ((c.getD i 0:Nat):Int)∧h'=h:=by
 have J:=s.aG hk hX
 refine Call.of_wp (hT.free _ rfl) Tryz.func64 rfl rfl (zK 9 rfl (zo rfl (a_ rfl rfl rfl (bh Tryz.underlying117 J)) ?_))
 by_cases hi:i<c.length
 ·skip
  have I:c[i]?=some (c[i]'hi):=bg _
  have U:c.getD i 0=c[i]'hi:=by rw [ke,I]; rfl
  rw [U]
  generalize (c[i]'hi)=b at I
  have xF:b<256:=J.1 b (bq I)
  obtain ⟨id,off,e1,e2⟩:=g_ J I
  have e3:indexAddrV Tryz.prog 117 v (.int .i64 (i:Int))=some (.ptr id off):=by
   rw [←e1]
   simp only [indexAddrV,Tryz.underlying117,aS]
  refine zt rfl (ag rfl rfl bx) (by simp; omega) ?_
  refine zk 6 rfl (zo rfl (dG (r:=.ptr id off) rfl rfl e3) (zl rfl e2 (zo rfl (b8 rfl (by exact jx Tryz.underlying5 bE (aT (by omega) (by omega)))) ?_)))
  exact zk 2 rfl (WP.ret ⟨aa,_,rfl,rfl,rfl⟩)
 ·skip
  have U:c.getD i 0=0:=by rw [ke,oS (by omega)]; rfl
  rw [U]
  refine zh rfl (ag rfl rfl bx) (by simp; omega) ?_
  exact zk 7 rfl (WP.ret ⟨aa,_,rfl,rfl,rfl⟩)
noncomputable def crL : Code:=cJ [1,1,1,1,0,1,0,0] ((Tryz.f22.body).getD .skip)
theorem LW (hT:W told){pv:V}{qc:List V}{N:Nat}{W:List Wr}{cs:List V}(tN:qc.length=12)(xL:nth qc 1=some (.sl nk 0 N (.exact N)))(hW:∀w∈W,w.1<N)(hn:W.length≤268435456)(hX:cR X (cV cv c))(hN:N≤65536): ∀(j i:Nat) (I:List V) (P:List (Option (List Nat))) (h:H) (E:List (Nat×V)) (Q:Ex→List (Nat×V)→H→Prop),
  i+j=W.length→I.length=N→P.length=N→Sat h (ug cs W::pt q (.cells 12 qc false)::pt nk (.cells N I false)::each k_ I P::.arr 2 wt cs::X::S) →
  Has E [(0,pv),(5,cv),(6,.ptr q 0),(36,wt),(37,.int .i64 W.length),(38,.int .i64 i)] →
  (∀E' h' I U,Has E' [(0,pv),(5,cv),(6,.ptr q 0)]→U=layW c i (W.drop i) P→I.length=N→U.length=N→Sat h' (ug cs W::pt q (.cells 12 qc false)::pt nk (.cells N I false)::each k_ I U::.arr 2 wt cs::X::S)→Q (.exit 0) E' h') →
  WP ⟨Tryz.prog,told⟩ 172 (.loop crL) E h Q:=by
 intro j
 induction j with
 | zero =>
  intro i I P h E Q hi hl hp s hE hq
  refine WP.loop (WP.has hE (zg rfl (zh rfl (ag rfl rfl bx) (by simp; omega) ?_)))
  exact zk 3 rfl (WP.exit (hq _ _ _ _ ⟨rfl,rfl,rfl,aa⟩ (by rw [sK (by omega)]; rfl) hl hp s))
 | succ j ih =>
  intro i I P h E Q hi hl hp s hE hq
  have hx:W[i]?=some (W[i]'(by omega)):=bg _
  generalize (W[i]'(by omega))=x at hx
  have hxn:=hW x (bq hx)
  have J:W.drop i=x::W.drop (i+1):=by
   obtain ⟨h1,rfl⟩:=List.getElem?_eq_some_iff.1 hx
   exact kM h1
  obtain ⟨id,off,u,g1,g2,hu,s1⟩:=XB s (j1:=4) rfl hx
  have Sb:=s1.aG (k:=0) rfl (cL _ _)
  have Wf:=Sb.cells
  have EO:=cY Sb
  have s:=s1.ae [2,2,2,0,0,0,0]
  dsimp only [bringA,getA,aU] at s
  refine WP.loop (WP.has hE (zg rfl (zt rfl (ag rfl rfl bx) (by simp; omega) ?_)))
  refine zk 5 rfl (WP.block (zK 3 rfl (zo rfl (dG (r:=.ptr id off) rfl rfl g1) (zl rfl g2 ?_))))
  refine aB.cO s rfl rfl rfl (cH FK) (fun p8 h s => ?_)
  dsimp only [V.cells,List.length_cons,List.length_nil,Nat.reduceAdd] at s
  refine za rfl (zS rfl (s.gX (j:=0) rfl Ci rfl (by simp only [iZ,jH,Wf.2]; rfl)) ?_)
  rintro h s
  dsimp only [setA] at s
  refine zk 5 rfl (zc rfl (uY hT s (k:=7) rfl hX) ?_)
  rintro r h' ⟨rfl,rfl⟩
  have bX:c.getD i 0<256:=by
   rw [ke]
   cases hc:c[i]? with
   | none=>decide
   | some b=>exact (s.aG (k:=7) rfl hX).1 b (bq hc)
  refine zb rfl (aac bX) ?_
  by_cases mM:c.getD i 0%2=0
  ·skip
   have Sc:indexAddrV Tryz.prog 119 (.sl nk 0 N (.exact N)) (.int .i64 (x.1:Int))=some (.ptr nk x.1):=by
    simp only [indexAddrV,ue,jy]
    rw [show (decide ((0:Int)≤(x.1:Int))&&decide ((x.1:Int)<(N:Int)))=true by simp; omega]
    simp
   refine zt rfl (ag rfl rfl bR) (by rw [mM]; rfl) ?_
   refine zk 2 rfl ?_
   have s0:=s
   refine WP.drawn [ai,ai,ai,ai,ai,ai,ai,ai,ai,ai] rfl (by kernel_rfl) (by kernel_rfl) ?_
   refine zM rfl (zN rfl (zF rfl (mV _ _) (zL rfl (s.ld (k:=1) rfl rE xL) (zF rfl (DQ _ _) (zL rfl (s.ld (k:=0) rfl c7 rfl) (zF rfl (DR _ _) (zL rfl (s.ld (k:=0) rfl bL rfl) (zO rfl (dG (r:=.ptr nk x.1) rfl rfl Sc) (aA.gV rfl rfl rfl (OpR.eU rfl rfl rfl (s.dZ (k:=2) rfl jy hl hxn Wf.1 Wf.2)) ?_)))))))))
   rintro v h ⟨rfl,s⟩
   dsimp only [setA] at s
   refine aA.nil ⟨⟨aa,aa,aa,aa,aa,aa,aa,aa,aa,aa,aa⟩,?_⟩
   refine zr rfl (zb rfl (by exact bO (aT (by omega) (by omega))) ?_)
   refine zm rfl (zv ?_)
   have s3:Sat _ (each k_ I P::.ct u x.2::_):=s.ae [3,3]
   have s4:=s3.two (C:=each k_ (I.set x.1 u) (P.set x.1 (some x.2))) (aE.each aE.k_ _ _) (aE.ct _ _) fun a b q1 q2=>Br q1 ⟨hu,q2⟩
   dsimp only [bringA,getA,aU] at s4
   refine ih (i+1) _ (P.set x.1 (some x.2)) _ _ Q (by omega) (by rw [dn]; exact hl) (by rw [dn]; exact hp) ((s4.ae [4,2,2,0,1,1]).del 6) ⟨rfl,rfl,rfl,rfl,rfl,rfl,aa⟩ (fun E' h' I U gq hP h1 h2 s'=>hq E' h' I U gq ?_ h1 h2 s')
   rw [hP,J,layW,aj mM]
  ·skip
   refine zh rfl (ag rfl rfl bR) (by simp only [decide_eq_false_iff_not]; omega) ?_
   refine zv (zj rfl (WP.skip (zr rfl (zb rfl (by exact bO (aT (by omega) (by omega))) ?_))))
   refine zm rfl (zv ?_)
   refine ih (i+1) _ P _ _ Q (by omega) hl hp (((s.ae [5,1,1,1,2,2]).del 6).del 6) ⟨rfl,rfl,rfl,rfl,rfl,rfl,aa⟩ (fun E' h' I U gq hP h1 h2 s'=>hq E' h' I U gq ?_ h1 h2 s')
   rw [hP,J,layW,af mM]
theorem Jj {n i j:Nat}{cs ds:List V}(s:Sat h (pt i (.cells n cs false)::pt j (.cells n ds false)::S))(J:cs.length=n)(I:ds.length=n):
  ∃h',copyV Tryz.prog h 119 (.sl i 0 n (.exact n)) (.sl j 0 n (.exact n))=some (.int .i64 (n:Int),h')∧Sat h' (pt i (.cells n ds false)::pt j (.cells n ds false)::S):=by
 refine ⟨h.put i (some (.cells n ds false)),?_,s.put (k:=0) rfl⟩
 have r1:=s.row (k:=0) rfl
 have r2:=s.row (k:=1) rfl
 simp only [copyV,ue,jy,rdN,wrN,r1,r2,dO]
 rw [show Nat.min n n=n from Nat.min_self n]
 simp only [dU]
 rw [aO.2 (aL n),ah,show (Nat.beq 0 0&&Nat.beq n n)=true by rw [gR rfl,gR rfl]; rfl,ah]
 simp only [I,aO.2 (aL n),ah]
 rw [show (Nat.beq 0 0&&Nat.beq n n)=true by rw [gR rfl,gR rfl]; rfl,ah]
theorem OpR.TQ {C:dw}{E:List (Nat×V)}{o:Oper}{cl:Go.Call}{n i j:Nat}{cs ds:List V}(hP:C.P=Tryz.prog)(s:Sat h (pt i (.cells n cs false)::pt j (.cells n ds false)::S))(I:cs.length=n)(J:ds.length=n)(U:o.op=.call cl)(hc:cl.callee=.builtin .copy)
 (hty:cl.argTypes = #[119,119])(ha:lookArgs E cl.args.toList=some [.sl i 0 n (.exact n),.sl j 0 n (.exact n)]): OpR C E h o fun _ h₁=>Sat h₁ (pt i (.cells n ds false)::pt j (.cells n ds false)::S):=by
 obtain ⟨h₁,e1,e2⟩:=Jj s I J
 refine OpR.builtin U hc ha ⟨.int .i64 (n:Int),h₁,?_,e2⟩
 simp only [builtinV,hP,hty,e1]
theorem aad {P:Program}{h:H}{t:TypeId}{x y:Operand}{a b:Nat}(J:0<b)(hw:a<9223372036854775808): binV P h .quo t x y (.int .i64 (a:Int)) (.int .i64 (b:Int))=some (.int .i64 ((a/b:Nat):Int)):=by
 simp only [binV,ikBeq,ah,intV]
 have:intBeq (b:Int) 0=false:=by rw [nP]; simp; omega
 have I:a/b≤a:=Nat.div_le_self a b
 rw [this,az,Jw (by omega),←Int.natCast_ediv]
 generalize a/b=q at I ⊢
 rw [aT (by omega) (by omega)]
theorem QG (I:jJ h v l)(J:1≤l.length): slR v 0 l.length=v:=by
 rcases I.2 with ⟨_,rfl⟩ | ⟨id,cs,c,rfl,_,U⟩ | ⟨id,rfl,_,_⟩
 ·simp at J
 ·simp only [slR]
  rw [cN (by omega),az]
  rfl
 ·rfl
theorem LX {m:List Nat}{a:Nat}(s:Sat h (bG v l::X::S))(hX:cR X (cV w m))(hl:1≤l.length)(hm:a+m.length≤l.length):
  ∃(n:Nat) (h':H),copyV Tryz.prog h 32 (slR v a l.length) w=some (.int .i64 (n:Int),h')∧Sat h' (bG v (cZ l a m)::X::S):=by
 by_cases hz:m=[]
 ·subst hz
  have hv:=s.aG (k:=1) rfl hX
  have J:=(s.buf (k:=0) rfl).1
  rw [show cZ l a []=l by simp [cZ]]
  obtain ⟨id,c,cap,rest,rfl,s1,hc,hf⟩:=s.ku hl
  have U:∃o' c',slR (.sl id 0 l.length cap) a l.length=.sl id o' (l.length-a) c'∧o'≤l.length:=by
   cases cap with
   | exact c=>exact ⟨_,_,rfl,by cases Nat.beq c a <;> simp at hm ⊢; omega⟩
   | rest e alt=>exact ⟨_,_,rfl,by simp at hm ⊢; omega⟩
  obtain ⟨o',c',U,ho⟩:=U
  rw [U]
  rcases hv.2 with ⟨rfl | ⟨a,rfl⟩,_⟩ | ⟨nk,I,abl,n2,JV,Yg,rfl,_⟩
  ·exact ⟨0,h,by simp only [copyV,aS,fK]; rfl,s⟩
  ·exact ⟨0,h,by simp only [copyV,aS,fK]; rfl,s⟩
  ·have hr:rdN h nk I 0=some []:=hv.rdN.2
   have ER:Nat.min 0 (l.length-a)=0:=Nat.zero_min _
   refine ⟨0,h.put id (some (.cells c (ofBytes l++rest) false)),?_,hf _ _ rfl J (s1.put (k:=0) rfl)⟩
   simp only [copyV,aS,fK,bY,ER,vA,hr,wrN,s1.row (k:=0) rfl]
   rw [aO.2 (by omega),ah,show Nat.beq 0 c=false from cN (by omega),lV,az,iO,cU,De]
 ·have h1:1≤m.length:=by
   rcases m with _ | ⟨a,m⟩
   ·exact absurd rfl hz
   ·simp
  obtain ⟨h',e1,e2⟩:=GK s hX (a:=a) (b:=l.length) (by omega) (by omega) h1
  rw [fI (by omega)] at e2
  exact ⟨_,h',e1,e2⟩
theorem OpR.OA {C:dw}{E:List (Nat×V)}{o:Oper}{cl:Go.Call}{m:List Nat}{a:Nat}{d:V}(U:C.P=Tryz.prog)(s:Sat h (bG v l::X::S))(hX:cR X (cV w m))(hl:1≤l.length)(hm:a+m.length≤l.length)
 (I:o.op=.call cl)(hc:cl.callee=.builtin .copy)(J:cl.argTypes = #[32,32])(ha:lookArgs E cl.args.toList=some [d,w])(hd:d=slR v a l.length): OpR C E h o fun _ h₁=>Sat h₁ (bG v (cZ l a m)::X::S):=by
 subst hd
 obtain ⟨n,h₁,e1,e2⟩:=LX s hX hl hm
 refine OpR.builtin I hc ha ⟨.int .i64 (n:Int),h₁,?_,e2⟩
 simp only [builtinV,U,J,e1]
theorem OpR.Sd {C:dw}{E:List (Nat×V)}{o:Oper}{cl:Go.Call}{m:List Nat}(hP:C.P=Tryz.prog)(s:Sat h (bG v l::X::S))(hX:cR X (cV w m))(U:1≤l.length)(hm:m.length≤l.length)
 (I:o.op=.call cl)(hc:cl.callee=.builtin .copy)(J:cl.argTypes = #[32,32])(ha:lookArgs E cl.args.toList=some [v,w]): OpR C E h o fun _ h₁=>Sat h₁ (bG v (cZ l 0 m)::X::S) :=
 OpR.OA hP s hX U (by omega) I hc J ha (QG (s.buf (k:=0) rfl) U).symm
theorem Wg {o:Option (List Nat)}: cR (k_ v o) (cV v (o.getD [])):=by
 cases o with
 | none=>exact fun m r h=>.inl ⟨by simp,.inl ⟨.inl h,rfl⟩⟩
 | some b=>exact fun m r h=>.inr h.2
noncomputable def crT : Code:=cJ [1,1,1,1,1,0,1,0] ((Tryz.f22.body).getD .skip)
theorem LY (hT:W told){I:Dk}{w:Wr}(s:Sat h (aC q I::aC p δ::X::S))(hX:cR X (cV cv c))(hn:δ.waiting.length≤268435456)(ht:δ.eH=some w)(hw:w.1<I.aq.length)(Bb:w.2.length=512)(hN:I.aq.length≤65536)
 (mC:∀(i:Nat) (b:List Nat),I.aq[i]?=some (some b)→b.length=512)
 {E:List (Nat×V)}{Q:Ex→List (Nat×V)→H→Prop}(hE:Has E [(0,.ptr p 0),(5,cv),(6,.ptr q 0)])
 (hq:∀E' h',Has E' [(0,.ptr p 0),(5,cv),(6,.ptr q 0)]→Sat h' (aC q { I with aq:=tornP c δ.waiting.length I.aq (some w) }::aC p δ::X::S)→Q .normal E' h'): WP ⟨Tryz.prog,told⟩ 172 crT E h Q:=by
 obtain ⟨pg,wt,nw,lg,mk,tn,tl,ops,s⟩:=br.1 (s.ae [1])
 rw [ht] at s
 obtain ⟨tid,s⟩:=gW.1 (s.ae [6])
 obtain ⟨u,s⟩:=gW.1 s
 have s:=dY.1 s
 dsimp only [List.cons_append,List.nil_append] at s
 obtain ⟨rfl,s⟩:=eE.1 s
 obtain ⟨YQ,YR,YS,YT,YU,YV,YW,Wh,s⟩:=br.1 (s.ae [9])
 obtain ⟨nk,J,rfl,s⟩:=fV.1 (s.ae [1])
 obtain ⟨Wi,s⟩:=mz.1 (s.ae [13])
 have s:=s.ae [4,12,10,2,2,8,0]
 have HD:Wi.length=δ.waiting.length*2:=by
  obtain ⟨a,b,q1,q2,q3⟩:=s.at (k:=7) rfl
  exact Av q3
 have hb:c.getD δ.waiting.length 0<256:=by
  rw [ke]
  cases hc:c[δ.waiting.length]? with
  | none=>decide
  | some b=>exact (s.aG (k:=19) rfl hX).1 b (bq hc)
 have lH:J.length=I.aq.length:=by
  obtain ⟨a,b,q1,q2,q3⟩:=s.at (k:=4) rfl
  exact uf q3
 have uk:J[w.1]?=some (J[w.1]'(by omega)):=bg _
 have U:I.aq[w.1]?=some (I.aq[w.1]'hw):=bg _
 generalize (J[w.1]'(by omega))=v1 at uk
 generalize hxx:(I.aq[w.1]'hw)=x at U
 have uj:I.aq.getD w.1 none=x:=by rw [ke,U]; rfl
 have hxl:(x.getD []).length≤512:=by
  cases x with
  | none=>simp
  | some b=>exact Nat.le_of_eq (mC _ _ U)
 refine WP.has hE (zK 5 rfl (zf rfl (tA _ _) (zl rfl (s.ld (k:=1) rfl Ch rfl) (zo rfl (a_ rfl rfl rfl (s.iH (n:=δ.waiting.length) (j:=6) rfl HD (by decide) yK)) ?_))))
 refine zc rfl (uY hT (i:=δ.waiting.length) s (k:=19) rfl hX) ?_
 rintro r h' ⟨rfl,rfl⟩
 refine zb rfl (aad (a:=c.getD δ.waiting.length 0) (b:=2) (by decide) (by omega)) ?_
 refine zb rfl (PW (a:=c.getD δ.waiting.length 0/2) (b:=5) (by decide)) ?_
 refine zo rfl (ag (r:=.int .i64 ((c.getD δ.waiting.length 0/2%5*128:Nat):Int)) rfl rfl (by simp only [binV,ikBeq,ah,intV]; rw [show ((c.getD δ.waiting.length 0/2%5:Nat):Int)*128=((c.getD δ.waiting.length 0/2%5*128:Nat):Int) by push_cast; rfl,wrap_i64 (by omega)])) ?_
 refine zk 4 rfl (aB.any rfl rfl rfl (OpR.FN (c:=512) rfl s rfl rfl rfl rfl (by decide)) ?_)
 intro z h s
 refine zk 3 rfl ?_
 have s1:=((s.ae [5]).dup (aE.each aE.k_ _ _)).ga (B:=k_ v1 x) fun a b q=>GU q uk U
 have s:=s1.ae [2,0,1,1,1,1]
 have m5:nth J w.1=some v1:=by rw [fM]; exact uk
 have Sc:indexAddrV Tryz.prog 119 (.sl nk 0 I.aq.length (.exact I.aq.length)) (.int .i64 (w.1:Int))=some (.ptr nk w.1):=by
  simp only [indexAddrV,ue,jy]
  rw [show (decide ((0:Int)≤(w.1:Int))&&decide ((w.1:Int)<(I.aq.length:Int)))=true by simp; omega]
  simp
 have s0:=s
 refine WP.drawn [ai,ai,ai,ai,ai,ai,ai,ai,ai,ai,ai,ai,ai,ai,ai] rfl (by kernel_rfl) (by kernel_rfl) ?_
 refine zM rfl (zM rfl (zN rfl (zF rfl (mV _ _) (zL rfl (s.ld (k:=2) rfl rE rfl) (zM rfl (zN rfl (zF rfl (ua _ _) (zL rfl (s.ld (k:=3) rfl FJ rfl) (zN rfl (zF rfl (DQ _ _) (zL rfl (s.ld (k:=4) rfl c7 rfl) (zO rfl (dG (r:=.ptr nk w.1) rfl rfl Sc) (zL rfl (s.ld (k:=5) rfl bL m5) (aA.any rfl rfl rfl rfl (OpR.Sd rfl s Wg (by rw [ff]; decide) (by rw [ff]; exact hxl) rfl rfl rfl rfl) ?_))))))))))))))
 intro r h s
 refine aA.nil ⟨⟨aa,aa,aa,aa,aa,aa,aa,aa,aa,aa,aa,aa,aa,aa,aa,aa⟩,?_⟩
 have hl3:(cZ (List.replicate 512 0) 0 (x.getD [])).length=512:=by rw [iG (by rw [ff]; omega),ff]
 have Sb:=s.aG (k:=7) rfl (cL _ _)
 have Wj:c.getD δ.waiting.length 0/2%5*128≤w.2.length:=by omega
 refine zK 5 rfl (zf rfl (ua _ _) (zl rfl (s.ld (k:=3) rfl FJ rfl) (zn rfl (zf rfl (DR _ _) (zl rfl (s.ld (k:=4) rfl bL rfl) (zm rfl (zo rfl (cC (p:=none) (q:=some (.int .i64 ((c.getD δ.waiting.length 0/2%5*128:Nat):Int))) (m:=none) (p':=none) (q':=some (c.getD δ.waiting.length 0/2%5*128)) (m':=none) rfl rfl rfl rfl rfl (by rw [fG (by omega),cQ]) rfl (ia Sb (b:=c.getD δ.waiting.length 0/2%5*128) Wj).1) ?_)))))))
 refine aB.any rfl rfl rfl (OpR.Sd rfl (s.ae [0,6]) (wN (cL _ _) (b:=c.getD δ.waiting.length 0/2%5*128) Wj) (by omega) (by rw [dJ]; omega) rfl rfl rfl rfl) ?_
 intro r h s
 have s:=s.fF
 have Mv:=s.aG (k:=0) rfl (cL _ _)
 have hl4:(cZ (cZ (List.replicate 512 0) 0 (x.getD [])) 0 (w.2.take (c.getD δ.waiting.length 0/2%5*128))).length=512:=by rw [iG (by rw [dJ]; omega),hl3]
 refine zv (WP.drawn [ai,ai,ai,ai,ai,ai,ai,ai,ai,ai,ai,ai,ai,ai] rfl (by kernel_rfl) (by kernel_rfl) ?_)
 refine zM rfl (zN rfl (zF rfl (mV _ _) (zL rfl (s.ld (k:=3) rfl rE rfl) (zM rfl (zN rfl (zF rfl (ua _ _) (zL rfl (s.ld (k:=4) rfl FJ rfl) (zN rfl (zF rfl (DQ _ _) (zL rfl (s.ld (k:=5) rfl c7 rfl) (zM rfl (zO rfl (dG (r:=.ptr nk w.1) rfl rfl Sc) (aA.gV rfl rfl rfl (OpR.eU rfl rfl rfl (s.dZ (k:=6) rfl jy lH hw Mv.cells.1 Mv.cells.2)) ?_)))))))))))))
 rintro r h ⟨rfl,s⟩
 refine aA.nil ⟨⟨aa,aa,aa,aa,aa,aa,aa,aa,aa,aa,aa,aa,aa,aa,aa⟩,?_⟩
 have xW:z≠.bA:=fun e=>by
  subst e
  obtain ⟨_,_,_,e⟩:=kx Mv (by omega)
  cases e
 have t1:=(s.ae [7,0]).two (C:=each k_ (J.set w.1 z) (tornP c δ.waiting.length I.aq (some w))) (aE.each aE.k_ _ _) (aE.ct _ _) fun a b q1 q2=>by
  rw [tornP,uj]
  exact Br q1 ⟨xW,q2⟩
 dsimp only [uN,aU,bringA,getA,setA] at t1
 have Et:(tornP c δ.waiting.length I.aq (some w)).length=I.aq.length:=by rw [tornP,dn]
 have t2:=fV.2 ⟨nk,J.set w.1 z,rfl,by rw [Et]; exact t1.ae [6,0]⟩
 rw [Et] at t2
 dsimp only [aU,bringA] at t2
 have t3:=br (δ:={ I with aq:=tornP c δ.waiting.length I.aq (some w) }).2 ⟨_,_,_,_,_,_,_,_,t2.ae [3,0,6,6,6,6,6,6]⟩
 dsimp only [aU,bringA] at t3
 have t4:=mz.2 ⟨_,t3.ae [5,5]⟩
 dsimp only [aU,bringA] at t4
 have t5:Sat h (Ax (.ptr tid 0) (some w)::_):=gW.2 ⟨tid,gW.2 ⟨u,dY.2 (eE.2 ⟨rfl,t4.ae [5,2]⟩)⟩⟩
 dsimp only [aU] at t5
 have t6:=br.2 ⟨_,_,_,_,_,_,_,_,by rw [ht]; exact (t5.del 3).ae [3,3,1,2,2,2,0,1,0,0]⟩
 dsimp only [aU,bringA,getA] at t6
 exact hq _ _ ⟨rfl,rfl,rfl,aa⟩ (t6.ae [1])
end
section
variable {told:dF} {h:H} {S:List ax} {X:ax} {v w cv wt:V} {l c:List Nat} {k p q nk N:Nat} {δ:Dk}
noncomputable def crE : Code:=cJ [1,1,1,1,1,1] ((Tryz.f22.body).getD .skip)
theorem Fc (U:W told){I:Dk}(s:Sat h (aC q I::aC p δ::X::S))(hX:cR X (cV cv c))(sI:δ.Ok)(Se:δ.tail.length≤16777216)(OB:δ.mark.length≤64)
 {E:List (Nat×V)}{Q:Ex→List (Nat×V)→H→Prop}(hE:Has E [(0,.ptr p 0),(5,cv),(6,.ptr q 0)])
 (hq:∀E' h',look E' 4=some (.ptr q 0)→Sat h' (aC q { I with log:=rW δ c,aR:=(rW δ c).length,mark:=δ.mark }::aC p δ::X::S)→Q .ret E' h'): WP ⟨Tryz.prog,told⟩ 172 crE E h Q:=by
 have hlen:=sI.len
 have abm:=sI.aR
 obtain ⟨pg,wt,nw,lg,mk,tn,tl,ops,s⟩:=br.1 (s.ae [1])
 have YX:=cY (s.aG (k:=7) rfl (cL _ _))
 refine WP.has hE (zw ?_)
 have s0:=s
 refine WP.drawn [ai,ai,ai,ai,ai,ai,ai,ai,ai,ai,some (0,2),some (0,2),some (0,2),some (0,2),none,none] rfl (by kernel_rfl) (by kernel_rfl) ?_
 refine zM rfl (zN rfl (zF rfl (jd _ _) (zL rfl (by exact s.ld (k:=0) rfl bL rfl) ?_)))
 refine zM rfl (zN rfl (zF rfl (nM _ _) (zL rfl (by exact s.ld (k:=0) rfl c7 rfl) ?_)))
 refine zO rfl (cC (p:=some (.int .i64 (δ.aR:Int))) (q:=none) (m:=none) (p':=some δ.aR) (q':=none) (m':=none) rfl rfl rfl rfl (by simp [gQ,bndV]) rfl rfl (ej (s.buf (k:=4) rfl).view (a:=δ.aR) (by omega)).1) ?_
 refine aA.any rfl rfl rfl rfl (OpR.call rfl rfl rfl rfl (gC U (s.ae [4]) (nO (bI _ _) (a:=δ.aR) (by omega)) (by simp; omega))) ?_
 intro u h s
 dsimp only [uN,aU,bringA] at s
 have s1:=s
 refine zM rfl (zN rfl (zF rfl (Bo _ _) (zL rfl (by exact s.ld (k:=2) rfl bL rfl) ?_)))
 refine aA.any rfl rfl rfl rfl (OpR.oG rfl (s.ae [0,7]) (cL _ _) rfl rfl rfl rfl (by simp; omega)) ?_
 intro r h s
 dsimp only [aU,bringA] at s
 have s2:=s
 refine zA rfl ?_
 refine aA.nil ⟨⟨aa,aa,aa,aa,aa,aa,aa,aa,aa,aa,fun _ _=>.inr ⟨rfl,⟨_,bk rfl⟩,aW _ rfl⟩,fun _ _=>.inr ⟨rfl,⟨_,jZ rfl⟩,aW _ rfl⟩,fun _ _=>.inr ⟨rfl,⟨_,jv rfl (Bo _ _)⟩,aW _ rfl⟩,dP (.inr ⟨rfl,⟨_,aV rfl (by exact s0.ld (k:=0) rfl bL rfl)⟩,YX⟩) (.inr ⟨rfl,⟨_,aV rfl (by exact s1.ld (k:=2) rfl bL rfl)⟩,YX⟩),aa,aa,aa⟩,?_⟩
 have EW:(δ.log.drop δ.aR++δ.tail).length=δ.log.length-δ.aR+δ.tail.length:=by simp
 have J:=(s.buf (k:=0) rfl).view
 refine zg rfl (zm rfl (aB.call rfl rfl rfl rfl rfl rfl rfl (uY U (i:=0) s (k:=10) rfl hX) ?_))
 rintro v h' ⟨rfl,rfl⟩
 refine zm rfl (aB.call rfl rfl rfl rfl rfl rfl rfl (uY U (i:=1) s (k:=10) rfl hX) ?_)
 rintro v h' ⟨rfl,rfl⟩
 have hb:∀i,c.getD i 0<256:=fun i=>by
  rw [ke]
  cases hc:c[i]? with
  | none=>decide
  | some b=>exact (s.aG (k:=10) rfl hX).1 b (bq hc)
 have AM:=hb 0
 have xz:=hb 1
 refine zb rfl (by exact Bk (aT (by omega) (by omega))) ?_
 refine zb rfl (by exact bO (aT (by omega) (by omega))) ?_
 refine zm rfl (zo rfl (a_ rfl rfl rfl (bh aS J)) (zb rfl (by exact bO (aT (by omega) (by omega))) ?_))
 refine zb rfl (PW (a:=c.getD 0 0+256*c.getD 1 0) (b:=(δ.log.drop δ.aR++δ.tail).length+1) (by omega)) ?_
 refine za rfl (zv (zw ?_))
 have hk:kI δ c≤(δ.log.drop δ.aR++δ.tail).length:=Nat.le_of_lt_succ (vC _ (by omega))
 obtain ⟨YQ,YR,YS,YT,YU,YV,YW,Wh,s⟩:=br.1 (s.ae [9])
 have s:=s.ae [0,10,3,8,6,3,9]
 dsimp only [uN,aU,bringA,getA] at s
 have s0:=s
 have Hy:=cY J
 have A4:=cY (ia J (b:=kI δ c) hk).2.1
 refine WP.drawn [some (0,3),ai,ai,ai,ai,ai,ai,ai,ai,ai,ai,some (0,2),some (0,2),some (0,2),ai,ai,ai,ai] rfl (by kernel_rfl) (by kernel_rfl) ?_
 refine zM rfl (zM rfl (zN rfl (zF rfl (jd _ _) (zL rfl (by exact s.ld (k:=1) rfl bL rfl) ?_))))
 refine zM rfl (zN rfl (zF rfl (nM _ _) (zL rfl (by exact s.ld (k:=1) rfl c7 rfl) ?_)))
 refine zO rfl (cC (p:=none) (q:=some (.int .i64 (δ.aR:Int))) (m:=none) (p':=none) (q':=some δ.aR) (m':=none) rfl rfl rfl rfl rfl (by simp [gQ,bndV]) rfl (ia (s.buf (k:=3) rfl).view (b:=δ.aR) (by omega)).1) ?_
 refine aA.any rfl rfl rfl rfl (OpR.call rfl rfl rfl rfl (gC U (s.ae [3]) (wN (bI _ _) (b:=δ.aR) (by omega)) (by simp; omega))) ?_
 intro u h s
 dsimp only [aU,bringA] at s
 have s1:=s
 refine zM rfl (zM rfl (zO rfl (cC (p:=none) (q:=some (.int .i64 (kI δ c:Int))) (m:=none) (p':=none) (q':=some (kI δ c)) (m':=none) rfl rfl rfl rfl rfl (by simp [gQ,bndV]) rfl (by exact (ia (s.buf (k:=5) rfl).view (b:=kI δ c) hk).1)) ?_))
 refine aA.any rfl rfl rfl rfl (OpR.oG rfl (s.ae [0,4]) (wN (bI _ _) (b:=kI δ c) hk) rfl rfl rfl rfl (by simp only [dJ]; omega)) ?_
 intro w h s
 dsimp only [aU,bringA] at s
 have s2:=s
 have hv:=(s.buf (k:=0) rfl).view.cells
 refine zN rfl (zF rfl (jd _ _) (aA.gV rfl rfl rfl (OpR.eU rfl rfl rfl (s.dZ (k:=3) rfl jy rfl (by decide) hv.1 hv.2)) ?_))
 rintro v h ⟨rfl,s⟩
 dsimp only [Nat.reduceAdd,List.set,setA] at s
 refine aA.nil ⟨⟨fun _ _=>.inr ⟨rfl,⟨_,bk rfl⟩,aW _ rfl⟩,aa,aa,aa,aa,aa,aa,aa,aa,aa,aa,fun _ _=>.inr ⟨rfl,⟨_,bk rfl⟩,Hy⟩,fun _ _=>.inr ⟨rfl,⟨_,bk rfl⟩,aW _ rfl⟩,dP (.inr ⟨rfl,⟨_,cC (p:=none) (q:=some (.int .i64 (kI δ c:Int))) (m:=none) (p':=none) (q':=some (kI δ c)) (m':=none) rfl rfl rfl rfl rfl (by simp [gQ,bndV]) rfl (by exact (ia (s0.buf (k:=4) rfl).view (b:=kI δ c) hk).1)⟩,A4⟩) (.inr ⟨rfl,⟨_,cC (p:=none) (q:=some (.int .i64 (kI δ c:Int))) (m:=none) (p':=none) (q':=some (kI δ c)) (m':=none) rfl rfl rfl rfl rfl (by simp [gQ,bndV]) rfl (by exact (ia (s1.buf (k:=5) rfl).view (b:=kI δ c) hk).1)⟩,A4⟩),aa,aa,aa,aa,aa⟩,?_⟩
 refine zg rfl (zm rfl (zm rfl (zn rfl (zf rfl (jd _ _) (zl rfl (by exact s.ld (k:=3) rfl bL rfl) ?_)))))
 refine zo rfl (a_ rfl rfl rfl (by exact bh aS (s.aG (k:=0) rfl (bI _ _)))) ?_
 refine zn rfl (zf rfl (nM _ _) ?_)
 refine aB.eU rfl rfl rfl rfl rfl (by exact s.dZ (k:=3) rfl jK rfl (by decide) rfl rfl) (fun h s => ?_)
 dsimp only [Nat.reduceAdd,List.set,setA] at s
 refine zv (zg rfl (zm rfl (zm rfl (zn rfl (zf rfl (vO _ _) (zl rfl (by exact s.ld (k:=4) rfl bL rfl) ?_))))))
 refine aB.call rfl rfl rfl rfl rfl rfl rfl (gC U (s.ae [7]) (cL _ _) (by omega)) ?_
 intro m h s
 have s:=s.fF
 dsimp only [aU,bringA] at s
 have hv:=(s.aG (k:=0) rfl (cL _ _)).cells
 refine zn rfl (zf rfl (vO _ _) (aB.eU rfl rfl rfl rfl rfl (s.dZ (k:=5) rfl jy rfl (by decide) hv.1 hv.2) ?_))
 intro h s
 dsimp only [Nat.reduceAdd,List.set,setA] at s
 refine zv (zg rfl (zm rfl (za rfl (zv (WP.ret ?_)))))
 have s:=(((s.del 8).del 7).del 3).ae [4,5,5,5,2,0,3,3,2,3,3,3,1,0,1,0,0]
 dsimp only [aU,bringA,getA] at s
 have s:=br.2 ⟨_,_,_,_,_,_,_,_,(br (δ:={ I with log:=rW δ c,aR:=(rW δ c).length,mark:=δ.mark }).2 ⟨_,_,_,_,_,_,_,_,s⟩).ae [1,1,1,1,1,1,1,1,0]⟩
 exact hq _ _ rfl (s.ae [1])
theorem tD {c:List Nat}: ∀ {l:List Wr} {i:Nat} {P:List (Option (List Nat))},(layW c i l P).length=P.length:=by
 intro l
 induction l with
 | nil=>intro i P; rfl
 | cons w l I =>
  intro i P
  rw [layW,I]
  split
  ·rw [dn]
  ·rfl
theorem Ks {c:List Nat}: ∀ {l:List Wr} {i:Nat} {P:List (Option (List Nat))},(∀w∈l,w.2.length=512)→(∀(j:Nat) (b:List Nat),P[j]?=some (some b)→b.length=512)→∀(j:Nat) (b:List Nat),(layW c i l P)[j]?=some (some b)→b.length=512:=by
 intro l
 induction l with
 | nil=>intro i P _ h; exact h
 | cons w l U =>
  intro i P J h
  refine U (fun x hx=>J x (bl _ hx)) ?_
  split
  ·intro j b I
   rw [sO] at I
   split at I
   ·split at I
    ·injection I with I; injection I with I; rw [←I]; exact J w bp
    ·cases I
   ·exact h j b I
  ·exact h
structure Dk.Cr (δ:Dk): Prop where
 ok:δ.Ok
 wait:∀w∈δ.waiting,w.1<δ.aq.length∧w.2.length=512
 many:δ.waiting.length≤268435456
 eH:∀w,δ.eH=some w→w.1<δ.aq.length∧w.2.length=512
 tail:δ.log.length+δ.tail.length≤16777216
 mark:δ.mark.length≤64
theorem QH (hT:W told)(s:Sat h (aC p δ::X::S))(hX:cR X (cV cv c))(hc:δ.Cr):
  Call ⟨Tryz.prog,told⟩ 22 [.ptr p 0,cv] h fun v h'=>∃q,v=.ptr q 0∧Sat h' (aC q (fA δ c)::aC p δ::X::S):=by
 obtain ⟨U,hW,hn,ht,Se,OB⟩:=hc
 have Se:δ.tail.length≤16777216:=by omega
 obtain ⟨pg,wt,nw,lg,mk,tn,tl,ops,s⟩:=br.1 s
 obtain ⟨id,cs,rfl,s⟩:=fV.1 (s.ae [1])
 dsimp only [bringA,getA,aU] at s
 have J:=U.many
 have vV:cs.length=δ.aq.length:=by
  obtain ⟨a,b,q1,q2,q3⟩:=s.at (k:=1) rfl
  exact uf q3
 refine Call.of_wp (hT.free _ rfl) Tryz.func22 rfl rfl (zg rfl (za rfl (zv (zg rfl (zm rfl (za rfl (zv (zw ?_))))))))
 have s:=s.ae [2]
 dsimp only [bringA,getA,aU] at s
 have s0:=s
 refine WP.drawn [ai,ai,ai,ai,ai,ai,ai,ai,ai,ai,ai] rfl (by kernel_rfl) (by kernel_rfl) ?_
 refine zM rfl (zN rfl (zF rfl (mV _ _) (zL rfl (by exact s.ld (k:=0) rfl rE rfl) ?_)))
 refine zO rfl (a_ rfl rfl rfl (GA ue)) (zM rfl (zN rfl (zF rfl (JS _ _) (zL rfl (by exact s.ld (k:=0) rfl c7 rfl) ?_))))
 refine aA.any rfl rfl rfl rfl (OpR.call rfl rfl rfl rfl (GW (n:=δ.aq.length) (m:=δ.room) hT s (by omega))) ?_
 rintro v h ⟨q,rfl,s⟩
 refine zA rfl ?_
 refine aA.nil ⟨⟨aa,aa,aa,aa,aa,aa,aa,aa,aa,aa,aa,aa⟩,?_⟩
 obtain ⟨YQ,YR,YS,YT,YU,YV,YW,Wh,s⟩:=br.1 s
 obtain ⟨nk,JV,e2,s⟩:=fV.1 (s.ae [1])
 dsimp only [bringA,getA,aU,Dk.fresh] at s e2
 rw [ff] at s e2
 subst e2
 have lH:JV.length=δ.aq.length:=by
  obtain ⟨a,b,q1,q2,q3⟩:=s.at (k:=1) rfl
  rw [uf q3,ff]
 obtain ⟨Wi,s⟩:=mz.1 (s.ae [12])
 dsimp only [bringA,getA,aU] at s
 have HD:Wi.length=δ.waiting.length*2:=by
  obtain ⟨a,b,q1,q2,q3⟩:=s.at (k:=1) rfl
  exact Av q3
 have s:=s.ae [4,10,2,9]
 dsimp only [bringA,getA,aU] at s
 refine zw ?_
 have s0:=s
 refine WP.drawn [ai,ai,ai,ai,ai,ai,ai,ai,ai] rfl (by kernel_rfl) (by kernel_rfl) ?_
 refine zM rfl (zN rfl (zF rfl (mV _ _) (zL rfl (by exact s.ld (k:=0) rfl rE rfl) ?_)))
 refine zM rfl (zN rfl (zF rfl (mV _ _) (zL rfl (by exact s.ld (k:=1) rfl rE rfl) ?_)))
 refine aA.any rfl rfl rfl rfl (OpR.TQ rfl (s.ae [2,2]) lH vV rfl rfl rfl rfl) ?_
 intro r h s
 dsimp only [uN,aU,bringA] at s
 refine aA.nil ⟨⟨aa,aa,aa,aa,aa,aa,aa,aa,aa,aa⟩,?_⟩
 refine zw (zg rfl (zm rfl (zn rfl (zf rfl (tA _ _) (zl rfl (by exact s.ld (k:=3) rfl Ch rfl) ?_)))))
 refine zo rfl (a_ rfl rfl rfl (s.iH (n:=δ.waiting.length) (j:=4) rfl HD (by decide) yK)) ?_
 refine zm rfl (zv (WP.block ?_))
 have s:=((s.ae [13]).dup (aE.each aE.k_ _ _)).ae [7,4,2,0,3,15]
 dsimp only [aU,bringA,getA] at s
 refine LW hT rfl rfl (fun w hw=>(hW w hw).1) hn hX J δ.waiting.length 0 cs δ.aq h _ _ (dU _) vV rfl s ⟨rfl,rfl,rfl,rfl,rfl,rfl,aa⟩ (fun E h JV P hE hP h1 h2 s => ?_)
 rw [dS] at hP
 subst hP
 refine WP.has hE ?_
 have t1:=fV.2 ⟨nk,JV,rfl,by rw [h2]; exact s.ae [2,2]⟩
 rw [h2] at t1
 dsimp only [aU,bringA] at t1
 have t2:=br (δ:={ Dk.fresh δ.aq.length δ.room with aq:=layW c 0 δ.waiting δ.aq }).2 ⟨_,_,_,_,_,_,_,_,t1.ae [2,0,7,7,7,7,7,7]⟩
 dsimp only [aU,bringA] at t2
 have t3:=fV.2 ⟨id,cs,rfl,t2.ae [5,4]⟩
 dsimp only [aU,bringA] at t3
 have t4:=(mz.2 ⟨_,t3.ae [3,2]⟩).del 5
 dsimp only [aU,bringA] at t4
 have s:Sat h (aC q { Dk.fresh δ.aq.length δ.room with aq:=layW c 0 δ.waiting δ.aq }::aC p δ::X::S):=(br.2 ⟨_,_,_,_,_,_,_,_,t4.ae [4,1,0,2,2,2,2,2,0,0]⟩).ae [1]
 have sk:=s
 obtain ⟨pg3,wt3,nw3,lg3,mk3,tn3,tl3,abn,s⟩:=br.1 (s.ae [1])
 dsimp only [uN,aU,bringA] at s
 have hr:∀E' h',look E' 4=some (.ptr q 0)→Sat h' (aC q (fA δ c)::aC p δ::X::S)→∃v,jl Tryz.prog E' h' [.tmp 4]=some v∧∃q,v=.ptr q 0∧Sat h' (aC q (fA δ c)::aC p δ::X::S):=fun E' h' e s'=>⟨_,oF e,q,rfl,s'⟩
 refine zw (zg rfl (zm rfl (zn rfl (zf rfl (ua _ _) (zl rfl (by exact s.ld (k:=0) rfl FJ rfl) ?_)))))
 cases I:δ.eH with
 | none =>
  rw [I] at s
  obtain ⟨rfl,_⟩:=eE.1 (s.ae [6])
  refine aB.nh rfl rfl rfl (ag rfl rfl (FO Tryz.underlying121)) (rfl) (zv (zj rfl (WP.skip ?_)))
  refine Fc hT sk hX U Se OB ⟨rfl,rfl,rfl,aa⟩ (fun E' h' e s'=>⟨aa,hr E' h' e ?_⟩)
  rw [fA,I]
  exact s'
 | some w =>
  rw [I] at s
  obtain ⟨tid,s⟩:=gW.1 (s.ae [6])
  obtain ⟨u,s⟩:=gW.1 s
  obtain ⟨rfl,_⟩:=eE.1 (dY.1 s)
  refine aB.qb rfl rfl rfl (ag rfl rfl (R4 Tryz.underlying121)) (rfl) (zv (zi rfl ?_))
  refine LY (w:=w) hT sk hX hn I (by show w.1<(layW c 0 δ.waiting δ.aq).length; rw [tD]; exact (ht w I).1) (ht w I).2 (by show (layW c 0 δ.waiting δ.aq).length≤65536; rw [tD]; exact J) (Ks (fun w hw=>(hW w hw).2) U.aq) ⟨rfl,rfl,rfl,aa⟩ (fun E h hE s => ?_)
  refine Fc hT s hX U Se OB hE (fun E' h' e s'=>⟨aa,hr E' h' e ?_⟩)
  rw [fA,I]
  exact s'
end
end Go.Proofs.YtconhghphklfjaaGreat.Am
