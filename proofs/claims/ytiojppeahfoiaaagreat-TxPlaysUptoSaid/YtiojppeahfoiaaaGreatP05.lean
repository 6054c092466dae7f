/- TxPlays: a part of its proof; conditions: its statement's. -/
import Derived.Test.YtiojppeahfoiaaaGreatP04
set_option linter.defProp false
namespace Go.Proofs.YtiojppeahfoiaaaGreat.Am
open Go Proofs.Tryz
def qU:=@underlying78
def vf:=@func59
def LY:=@func118
def LZ:=@func66
variable {X aw:aH} {C:eP} {δ Rc:Dk} {ε aj:bn} {A:bn->aH} {es:cg} {a8:Ex->List (Nat×V)->H->Prop} {f:Fm} {cl:Go.Call} {h:H} {e n pg:Int} {R:LD->Prop} {μ:Lg} {d:List (Int×(Nat×Bool))} {now dR:List (Int×List Nat)} {cs:List (List Nat)} {E:List (Nat×V)} {S:List aH} {ks:List Int} {seen b l data gv cO c':List Nat} {c r k q cR id j i a g aF aL z tx pv nx N K B link extra off:Nat} {o:Oper} {y:Operand} {π cu:Pl} {P:Program} {α:Type} {t kt et:TypeId} {x wh di u kv dt t1 rv:V}
def qu : V->Bool
 |.agg [_,.bool b]=>b
 |_=>true
def o8 (seen:List Nat)(e:Int×V×Nat): Bool := !inL seen e.2.2||qu e.2.1
theorem Re : ∀ {l:cg},leftV seen ((l.filter (o8 seen)).map ou)=leftV seen (l.map ou):=by
 intro l;induction l<;>grind[g9,o8,leftV]
theorem Rf {b:Nat}: ∀ {l:cg},(∀e∈l,e.2.2≠b)->leftV (seen++[b]) (l.map ou)=leftV seen (l.map ou):=by
 intro l;induction l<;>grind[g9,leftV,iV,eE]
theorem Rg : ∀ {l:cg} {b:Nat} {e:Int×V×Nat},eU c b l->e∈l->inL seen e.2.2=false->(leftV (seen++[e.2.2]) (l.map ou)).length+1=(leftV seen (l.map ou)).length:=by
 intro l;induction l with
 |nil=>simp
 |cons y l ih =>
  intro b e I he hs;have hm:(ou y).2.2=y.2.2:=rfl;rcases List.mem_cons.1 he with rfl|he
  .simp only[ko,leftV,hm,iV,hs,fM,Bool.or_true,ak,bq,cK];rw[Rf λe' J=>by have:=jO I.2.2 e' J;omega]
  .have:=jO I.2.2 e he;have:=ih I.2.2 he hs;grind[leftV,iV,eE]
theorem Xk : ∀ {l:cg},(∀e∈l,inL seen e.2.2=true)->l.filter (o8 seen)=l.filter (λe=>qu e.2.1):=by
 grind[List.filter_congr,o8]
theorem Xl {l:cg}: l.filter (o8 [])=l:=List.filter_eq_self.2 λe _=>U
theorem Xm {l:cg}{e:Int×V×Nat}{b:Nat}(J:eU c b l)(he:e∈l)(hf:qu e.2.1=true): l.filter (o8 (seen++[e.2.2]))=l.filter (o8 seen):=by
 refine List.filter_congr λe' I=>?_;simp only[o8,iV];by_cases h:e.2.2=e'.2.2
 .have h1:=tj (κ:=.i64) J he;have h2:=tj (κ:=.i64) J I;rw[h,h2] at h1;have h3:e'.2.1=e.2.1:=by injection h1 with h1;injection h1 with _ h1;rw[h1]
  rw[h3,hf];simp
 .rw[eE h,Bool.or_false]
theorem abb : ∀ {l:cg},(l.map (·.1)).Nodup->oT n l=l.filter (λe=>decide (e.1≠n)):=by
 intro l;induction l<;>grind[oT,List.filter_eq_self]
theorem abc {l:cg}{e:Int×V×Nat}{b:Nat}(J:eU c b l)(hn:(l.map (·.1)).Nodup)(he:e∈l)(hf:qu e.2.1=false)(hs:inL seen e.2.2=false):
  l.filter (o8 (seen++[e.2.2]))=oT e.1 (l.filter (o8 seen)):=by
 rw[abb (hn.sublist ((List.filter_sublist).map _)),List.filter_filter];refine List.filter_congr λI Ag=>?_;simp only[o8,iV];have aih:e.1=I.1↔e.2.2=I.2.2:=by
  have key:∀ {l:cg} {b:Nat},eU c b l->(l.map (·.1)).Nodup->e∈l->I∈l->(e.1=I.1↔e.2.2=I.2.2):=by
   intro l;induction l with
   |nil=>simp
   |cons y l ih =>
    intro b J hn h1 h2;simp only[ko,Dw] at hn;rcases List.mem_cons.1 h1 with q1|h3<;>rcases List.mem_cons.1 h2 with q2|h4
    .grind
    .have:=jO J.2.2 I h4;grind
    .have:=jO J.2.2 e h3;grind
    .exact ih J.2.2 hn.2 h3 h4
  exact key J hn he Ag
 by_cases h:e.2.2=I.2.2
 .have h1:=tj (κ:=.i64) J he;have h2:=tj (κ:=.i64) J Ag;rw[h,h2] at h1;have h3:I.2.1=e.2.1:=by injection h1 with h1;injection h1 with _ h1;rw[h1]
  grind[Nat.beq_refl]
 .grind[eE]
theorem CF {f:Int×V×Nat->Bool}: ∀ {l:cg} {b:Nat},eU c b l->eU c b (l.filter f):=by
 intro l;induction l with
 |nil=>simp
 |cons e l I =>
  intro b h;simp only[List.filter_cons];split
  .exact⟨h.1,h.2.1,I h.2.2⟩
  .exact GF (by have:=h.1;omega) (I h.2.2)
section
variable {told:bU} {p:Nat} {v:V} {m:List Fm}
theorem ZO {n:Nat}{cs l:List V}(J:T.get h.tr id=some (.cells n cs false))(hs:bf P t=some l.length)(hl:cs.length=n)(hn:l.length=n)(I:l.all storable=true):
  ga P h t (.ptr id 0) (.agg l)=some (h.put id (some (.cells n l false))):=by
 grind[ga,V.cells,Nat.beq_refl,wrN,aN]
theorem abd {k:IntKind}{l:cg}{u:TypeId}(s:Sat h S)(hj:getA S j=some (uw id l c))(hu:P.underlying t=some (.map kt et))(hk:P.underlying kt=some (.int k)):
  ∃v h',builtinV P h .delete #[t,u] [.map id,.int .i64 n]=some (v,h')/\(λ(_:V) (h':H)=>h'.next=h.next/\(∀i,i≠id->T.get h'.tr i=T.get h.tr i)/\Sat h' (setA S j (uw id (oT n l) c))) v h':=by
 have hg:=s.row hj;have key:∃h',oF P h t (.map id) (.int .i64 n)=some h'/\h'.next=h.next/\(∀i,i≠id->T.get h'.tr i=T.get h.tr i)/\Sat h' (setA S j (uw id (oT n l) c)):=by
  obtain⟨h',I,J⟩:=s.delete (n:=n) hj hu hk;refine⟨h',I,?_⟩;simp only[oF,hu,hk,hg,keyBeq,eS,ak,wT] at I;cases hq:idxE n l 0 with
  |none =>
   grind
  |some q =>
   rw[hq] at I;simp only[aC] at I;subst I;exact⟨U,λi hi=>by rw[cX,ax hi],J⟩
 obtain⟨h',I,J⟩:=key;refine⟨.aR [],h',?_,J⟩<;>grind[builtinV]
theorem Xn (I:W told){a:Int}{b:Bool}: Call ⟨prog,told⟩ 119 [.int .i64 n,.agg [.int .u64 a,.bool b]] h λv h'=>v=.bool (!b)/\h'=newRow h [.int .u64 a,.bool b]:=by
 exact Call.of_wp (I.free _ U) func119 U U (zg U (zo U (c7 U U) (zk 4 U (zf U (Is _ _) (zl U (S8 (off:=1) (n:=2) (cs:=[.int .u64 a,.bool b]) (st:=false) nO (by grind[newRow,V.cells,fu]) U)<|zo U (cI U U) (zk 2 U (zR U ⟨U,U⟩)))))))
noncomputable def dfA : Code:=aV [0] ((f118.body).getD .skip)
noncomputable def dfN : Code:=aV [1,0,0,0] ((f118.body).getD .skip)
noncomputable def dfD : Code:=aV [1,0,0,1,1,0] ((f118.body).getD .skip)
theorem Xo : f118.body=some (.seq dfA (.block 0 (.loop (.seq dfN (.seq (.cond (.tmp 9) .skip (.exit 0)) (.block 1 dfD)))))):=rfl
theorem abe : ∃id I J,dfN=.region id #[I,J] false/\I.guard=none/\J.guard=none/\I.op=.next (.tmp 7) false/\I.dst=some 8/\J.op=.extract (.tmp 8) 0/\J.dst=some 9:=⟨_,_,_,U,U,U,U,U,U,U⟩
abbrev vg : V:=.fn (.func 119) [] []
def dfJ (h₀:H)(it mid clock:Nat)(es:cg)(S:List aH)(j:Nat)(E:List (Nat×V))(h:H): Prop :=
 ∃seen,Has E [(0,.map mid),(1,vg),(7,.ptr it 0)]/\j=(leftV seen (es.map ou)).length/\h.next+2*j=h₀.next+1+2*es.length/\(∀i,i<h₀.next->i≠mid->i≠it->T.get h.tr i=T.get h₀.tr i) /\
  Sat h (pt it (.iter mid clock clock seen)::uw mid (es.filter (o8 seen)) clock::S)
theorem Xp {h₀:H}{it mid clock:Nat}(Cy:it<h₀.next+1)(hb:eU clock 0 es)(hn:(es.map (·.1)).Nodup)(hv:∀e∈es,∃a b,e.2.1=.agg [.int .u64 a,.bool b])(h0:dfJ h₀ it mid clock es S j E h):
  WPO CB 19 (.loop (.seq dfN (.seq (.cond (.tmp 9) .skip (.exit 0)) (.block 1 dfD)))) E h λex E' h'=>ex=.exit 0/\h'.next=h₀.next+1+2*es.length/\(∀i,i<h₀.next->i≠mid->i≠it->T.get h'.tr i=T.get h₀.tr i) /\
   ∃seen,Sat h' (pt it (.iter mid clock clock seen)::uw mid (es.filter (λe=>qu e.2.1)) clock::S):=by
 refine WPO.loop (dfJ h₀ it mid clock es S) ?_ h0;rintro j E h ⟨seen,hE,rfl,kC,hs,s⟩;have g1:=s.row (k:=0) U;have g2:=s.row (k:=1) U;have nM:=CF (f:=o8 seen) hb;obtain⟨id,HY,Fc,q0,q1,q2,q3,q4,q5,q6⟩:=abe;refine WPO.seq ?_;rw[q0];have hL:=next_at g1 (az _) g2 nM;refine WPO.next cm bM q1 q2 q3 q4 q5 U q6 U U (r:=it) ?_ hL λq hq=>?_
 .exact hE.2.2.1
 .rcases xE g1 (az _) g2 nM hL q hq with⟨rfl,oP⟩|⟨e,he,EO,_,rfl⟩
  .have aii:∀e∈es,inL seen e.2.2=true:=λe he=>by
    grind[o8]
   have Fg:leftV seen (es.map ou)=[]:=by
    grind[Re]
   refine⟨.bool false,[],U,?_⟩;refine WPO.seq (WPO.cond (t:=false) U ?_)<;>grind[WPO.of,cm,bM,WP.exit,Xk]
  .refine⟨.bool true,_,U,WPO.seq (WPO.cond (t:=true) U<|WPO.of cm bM (WP.skip<|WPO.block (WPO.of cm bM ?_)))⟩;have I:=(List.mem_filter.1 he).1;have vR:=Rg hb I EO;have s:=s.put (o':=.iter mid clock clock (seen++[e.2.2])) (k:=0) U;have hs:∀i,i<h₀.next->i≠mid->i≠it->T.get (h.put it (some (.iter mid clock clock (seen++[e.2.2])))).tr i=T.get h₀.tr i:=λi h1 h2 h3=>by grind[cX]
   have kC:(h.put it (some (.iter mid clock clock (seen++[e.2.2])))).next+2*(leftV seen (es.map ou)).length=h₀.next+1+2*es.length:=kC
   have hle:h₀.next<=(h.put it (some (.iter mid clock clock (seen++[e.2.2])))).next:=by
    have:(leftV seen (es.map ou)).length<=(es.map ou).length:=by
     have:∀l:List (V×V×Nat),(leftV seen l).length<=l.length:=by
      intro l;induction l<;>grind[leftV]
     exact this _
    grind
   generalize h.put it (some (.iter mid clock clock (seen++[e.2.2])))=h' at s hs kC hle;have g1:=s.row (k:=0) U;have g2:=s.row (k:=1) U;obtain⟨a,b,jS⟩:=hv e I;have J:=xD g1 g2 nM he;rw[jS] at J;refine WP.has (F:=[(0,.map mid),(1,vg),(7,.ptr it 0),(9,.bool true)]) ⟨hE.1,hE.2.1,hE.2.2.1,U,aa⟩ (zg U (aq.any U U U (OpR.entry U U J) ?_));rintro v h ⟨rfl,rfl⟩;refine zk 2 U (zo U (bK AU) ?_);have s1:=s.new (.cells 2 [.int .u64 0,.bool false] false);have e1:=ZO (P:=prog) (t:=220) (l:=[.int .u64 a,.bool b]) (s1.row (k:=0) U) yp U U U;have s2:=s1.put (o':=.cells 2 [.int .u64 a,.bool b] false) (k:=0) U;refine za U (aq.SV U U (wO U U e1) (zk 5 U (zl U (s2.bW (k:=0) U QL yp) (zc U (Xn W.base (n:=e.1) (a:=a) (b:=b)) ?_))));rintro v h'' ⟨rfl,rfl⟩;have s3:=s2.new (.cells 2 [.int .u64 a,.bool b] false);have nD:∀i,i<h₀.next->i≠mid->i≠it->T.get (newRow ((h.new (.cells 2 [.int .u64 0,.bool false] false)).put h.next (some (.cells 2 [.int .u64 a,.bool b] false))) [.int .u64 a,.bool b]).tr i=T.get h₀.tr i:=λi h1 h2 h3=>by
    rw[newRow,fu,ax (by show i≠h.next+1;omega),cX,ax Y,fu,ax Y]
    exact hs i h1 h2 h3
   refine zv<|WP.split U ?_ ?_
   .intro hq;have w8:b=false:=Q;subst w8;have s4:=(s3.ae [2,2]);refine zK 3 U (aq.cy U U (OpR.builtin U U U (abd (n:=e.1) s4 (j:=1) U u9 bB)) ?_);rintro v h5 ⟨k1,k2,k3⟩;refine zv ⟨_,?_,seen++[e.2.2],⟨U,U,U,aa⟩,U,?_,?_,?_⟩
    .omega
    .rw[k1];show h.next+1+1+_=_
     omega
    .grind
    .rw[abc hb hn I (by rw[jS];rfl) EO];exact(k3.del 3).del 2
   .intro hq;have w8:b=true:=Q;subst w8;refine WP.skip ⟨_,?_,seen++[e.2.2],⟨U,U,U,aa⟩,U,?_,nD,?_⟩
    .omega
    .show h.next+1+1+_=_
     omega
    .rw[Xm hb I (by rw[jS];rfl)];exact(s3.del 1).del 0
end
def L0 (args:List V)(h:H)(r:V×H): Prop:=∃(mid:Nat) (es:cg) (clock:Nat),args=[.map mid,vg]/\T.get h.tr mid=some (.map (es.map ou) clock) /\
 r=(.aR [],⟨h.next+1+2*es.length,(h.put mid (some (.map ((es.filter (λe=>qu e.2.1)).map ou) clock))).tr⟩)
structure W2 (told:bU): Prop where
 w:W told
 sync:told 117=some (iE prog 117 IJ)
 del:told 118=some (iE prog 118 L0)
theorem Po : ∀ {l m:cg},l.map ou=m.map ou->l=m:=by
 intro l;induction l with
 |nil=>simp
 |cons e l I=>intro m h;cases m<;>grind[g9]
theorem Rh {a b:PM}: ∀ {l:cg} {m:List (Int×(Nat×Bool))},(fQ (λv x=>.pu (v=.agg [.int .u64 (x.1:Int),.bool x.2])) l m).p a b ->
  (fQ (λv x=>.pu (v=.agg [.int .u64 (x.1:Int),.bool x.2])) (l.filter λe=>qu e.2.1) (m.filter λe=>e.2.2)).p a b:=by
 intro l;induction l with
 |nil=>intro m h;cases m with
  |nil=>exact h
  |cons _ _=>exact h.elim
 |cons e l I=>intro m h;cases m with
  |nil=>exact h.elim
  |cons x m =>
   obtain⟨⟨h1,h2⟩,J⟩:=h;have h4:e.2.1=.agg [.int .u64 (x.2.1:Int),.bool x.2.2]:=h2;have hf:qu e.2.1=x.2.2:=by rw[h4];rfl
   simp only[List.filter_cons,hf];split
   .exact⟨⟨h1,h2⟩,I J⟩
   .grind
def Dk.k8 (δ:Dk): Int×Dk:=if δ.dead=true then(9,δ) else if δ.a_=0 then(9,δ.die) else(0,δ.bZ.sync)
section
variable {told:bU} {p:Nat} {v:V} {m:List (Int×(Nat×Bool))}
theorem od {a b:Obj}(h1:T.get h.tr id=some a)(h2:T.get h.tr id=some b): a=b:=Q
theorem abf (hT:W2 told)(s:Sat h (aS p δ::S))(Cx:δ.Ok)(hk:∀e∈δ.now,0<=e.1/\e.1<δ.aU.length): Call ⟨prog,told⟩ 117 [.ptr p 0] h λv h'=>v=.int .i64 δ.k8.1/\Sat h' (aS p δ.k8.2::S):=by
 obtain⟨r,h1,h2⟩:=TU s Cx hk;obtain⟨r,h3,h4⟩:=mP h1 h2;refine⟨r.1,r.2,eY.told hT.sync Cp U h3,?_⟩;obtain⟨p',cs,e1,gp',h4⟩:=h4;injection e1 with e1 _;injection e1 with e1 _;subst e1;obtain⟨pg,wt,nw,lg,mk,tn,tl,ops,s1⟩:=cj.1 s;have gp:=s1.row (k:=0) U;have e2:=od gp gp';injection e2 with _ e2 _;subst e2;rcases h4 with⟨hd,rfl⟩|⟨hd,v1,h1,B7,h4⟩
 .have hd:δ.dead=true:=by injection (fY hd)
  grind[Dk.k8]
 .have hd:δ.dead=false:=by injection (fY hd)
  obtain⟨v2,h2,agN,hR⟩:=pL W.base s Cx.a_;obtain⟨rfl,rfl⟩:=eY.ZM B7 agN;simp only[Dk.k8,hd,mC,gJ];rcases hR with⟨h0,rfl,s2⟩|⟨h0,rfl,s2⟩
  .grind
  .rcases h4 with⟨hv,_⟩|⟨_,cs,im,N,row,mid,es,clock,g0,c1,c3,g1,g2,rfl⟩
   .cases hv
   .rw[ax h0];refine⟨U,?_⟩;obtain⟨pg,wt,nw,lg,mk,tn,tl,ops,s3⟩:=cj.1 s2;obtain⟨im',row',rfl,s4⟩:=mO.1 (s3.ae [1]);obtain⟨J,es',I,rfl,hb,hn,s5⟩:=j6.1 (s4.ae [4]);have s6:=s5.ae [4,2,0,0,0,0];have e3:=od (s6.row (k:=0) U) g0;injection e3 with _ e3 _;subst e3;have c1:=fY c1;injection c1 with c1 _ c2 _;subst c1;subst c2;have c3:=fY c3;injection c3 with c3;subst c3;have e4:=od (s6.row (k:=1) U) g1;injection e4 with _ e4 _;subst e4;have e5:=od (s6.row (k:=2) U) g2;injection e5 with e5 e6;have e5:=Po e5;subst e5;subst e6;have s7:=s6.new (.iter J I I []);have s8:=s7.put (o':=.cells δ.bZ.aU.length (pO es' row') false) (k:=2) U;have s9:=s8.put (o':=.cells 12 (List.set (GL δ.bZ.room (.sl im' 0 δ.bZ.aU.length (.exact δ.bZ.aU.length)) wt (.map J) lg δ.bZ.bP mk δ.bZ.a_ ops δ.bZ.dead tn tl) 2 .aP) false) (k:=1) U;have s10:=s9.put (o':=.map [] I) (k:=3) U;have s11:=s10.kill;have s12:Sat _ (each tK row' δ.bZ.aU::fQ (λv b=>.dL v b) es' δ.bZ.now::_):=s11.ae [4,3];have s13:=s12.two (C:=each tK (pO es' row') (laidP δ.bZ.now δ.bZ.aU)) (bg.each bg.tK _ _) (bg.QX (λ_ _=>bg.dL _ _) _ _) λa b q1 q2=>Oi q2 (λe he=>by
     have:=Cx.now e he;rintro hq;rw[hq] at this;simp at this) q1
    have s14:=(j6 (f:=λv b=>.dL v b) (v:=.map J) (m:=([]:List (Int×List Nat)))).2 ⟨J,[],I,U,aa,tW,((s13.ae [3]).eF aa).ae [1,0]⟩;have hlen:(laidP δ.bZ.now δ.bZ.aU).length=δ.bZ.aU.length:=CD;have s15:=mO.2 ⟨im',pO es' row',U,by rw[hlen];exact s14.ae [3,1]⟩;rw[hlen] at s15;have s16:=(yx (v:=.aP) (m:=[])).2 ⟨[],((s15.del 3).eF aa).jr⟩;exact cj.2 ⟨_,_,_,_,_,_,_,ops,s16.ae [3,1,0,0]⟩
theorem Xq (s:Sat h (GW di m::S)): ∃r,L0 [di,vg] h r/\∀(c:Ctx) (w:World),Rel c h w->(∀x∈[di,vg],wf c x)->gd prog 118 [di,vg] c w r.1 r.2:=by
 obtain⟨mid,es,clock,rfl,hb,hn,s1⟩:=j6.1 s;have J:=s1.row (k:=0) U;obtain⟨a,b,_,_,q3⟩:=s1.at (k:=1) U;have VX:=qn q3;have hv:∀e∈es,∃a b,e.2.1=.agg [.int .u64 a,.bool b]:=λe he=>by
  obtain⟨x,_,k2⟩:=CE q3 e he;exact⟨_,_,k2⟩
 refine⟨_,⟨mid,es,clock,U,J,U⟩,λc w hr ha=>?_⟩;refine gd.of_wpo (C:=CB) (args:=[.map mid,vg]) LY Xo (show 2<=f118.ntmps by decide) ?_ hr ha;refine WPO.seq (WPO.of cm bM ?_);have s:=s1;refine zK 2 U (aq.any U U U (OpR.range U U (show rangeV prog h 215 (.map mid)=some (.ptr h.next 0,h.new (.iter mid clock clock [])) by simp only[rangeV,u9,J])) ?_)
 rintro v h' ⟨rfl,rfl⟩;refine zv ?_;have s7:=s.new (.iter mid clock clock []);refine WPO.block ((Xp (h₀:=h) (es:=es) (it:=h.next) (mid:=mid) (clock:=clock) (S:=fQ (λv (x:Nat×Bool)=>.pu (v=.agg [.int .u64 (x.1:Int),.bool x.2])) es m::S) Y hb Q hv ⟨[],⟨U,U,U,aa⟩,U,?_,?_,?_⟩).mono ?_)
 .have:(leftV [] (es.map ou)).length=es.length:=by
   have:∀l:List (V×V×Nat),leftV [] l=l:=by
    intro l;induction l<;>grind[leftV,inL]
   rw[this,cL]
  rw[this];rfl
 .grind[fu]
 .rw[Xl];exact s7
 .rintro ex E' h' ⟨rfl,I,hs,seen,s'⟩;refine⟨aa,U,I.symm,λid o ho=>?_⟩;rw[cX] at ho;by_cases h1:id=mid
  .rw[bk h1] at ho;rw[h1,s'.row (k:=1) U];exact ho
  .rw[ax h1] at ho;have:=s.wf id o ho;rw[hs id this h1 Y];exact ho
theorem adB (hT:W2 told)(s:Sat h (GW di m::S)): Call ⟨prog,told⟩ 118 [di,vg] h λv h'=>v=.aR []/\Sat h' (GW di (m.filter λe=>e.2.2)::S):=by
 obtain⟨r,h1,h2⟩:=Xq s;obtain⟨r,h3,h4⟩:=mP h1 h2;refine⟨r.1,r.2,eY.told hT.del LY U h3,?_⟩;obtain⟨mid,es,clock,e1,g1,rfl⟩:=h4;injection e1 with e1 _;subst e1;refine⟨U,?_⟩;obtain⟨Xr,es',I,e2,hb,hn,s1⟩:=j6.1 s;injection e2 with e2;subst e2;have J:=od (s1.row (k:=0) U) g1;injection J with J e4;have J:=Po J;subst J;subst e4;have s2:Sat h (fQ _ es' m::uw mid es' I::S):=s1.ae [1];have s3:=s2.iX (B:=fQ (λv x=>.pu (v=.agg [.int .u64 (x.1:Int),.bool x.2])) (es'.filter λe=>qu e.2.1) (m.filter λe=>e.2.2)) λa b q=>Rh q;have s4:=s3.put (o':=.map ((es'.filter λe=>qu e.2.1).map ou) I) (k:=1) U;have s5:=s4.iF (k:=1+2*es'.length) (h':=⟨h.next+1+2*es'.length,(h.put mid (some (.map ((es'.filter λe=>qu e.2.1).map ou) I))).tr⟩)
  ⟨λid o ho=>by have h1:=s4.wf id o ho;have h2:(h.put mid (some (.map ((es'.filter λe=>qu e.2.1).map ou) I))).next=h.next:=rfl;show id<h.next+1+2*es'.length;omega,
   by show h.next<=h.next+1+2*es'.length;omega,by show h.next+1+2*es'.length<=h.next+(1+2*es'.length);omega,λ_ _ _=>U⟩
 exact j6.2 ⟨mid,es'.filter (λe=>qu e.2.1),I,U,CF hb,hn.sublist ((List.filter_sublist).map _),s5.ae [1,0]⟩
def gE (π:Pl)(δ:Dk): Int×Pl×Dk:=if δ.k8.1≠0 then(δ.k8.1,π,δ.k8.2) else(0,{ π with bI:=π.bI.filter λe=>e.2.2 },δ.k8.2)
theorem Xs (I:W2 told)(s:Sat h (dx r p q π::aS p δ::S))(J:δ.Ok)(hk:∀e∈δ.now,0<=e.1/\e.1<δ.aU.length):
  Call ⟨prog,told⟩ 57 [.ptr r 0] h λv h'=>v=.int .i64 (gE π δ).1/\Sat h' (dx r p q (gE π δ).2.1::aS p (gE π δ).2.2::S):=by
 obtain⟨cR,wh,di,s⟩:=dy.1 s;refine Call.of_wp (I.w.free _ U) func57 U U (zK 9 U (zY s 0 Ap kU U (zc U (abf I (s.ae [4]) J hk) ?_)));rintro v h ⟨rfl,s⟩;refine zk 5 U ?_;by_cases he:δ.k8.1=0
 .skip;refine zC U aE Q<|zk 7 U (zY s 1 oJ uN U (zc U (adB I (s.ae [4])) ?_));rintro v h ⟨rfl,s⟩;refine zk 5 U (zR U ?_);rw[gE,ax Y];exact⟨U,(dy.2 ⟨cR,wh,di,s.ae [2,2,2,0,0]⟩)⟩
 .skip;refine zB U aE Q<|zk 7 U (WP.ret ⟨aa,_,U,?_⟩);rw[gE,bk he];exact⟨U,(dy.2 ⟨cR,wh,di,s.ae [1,1,1,1,0]⟩)⟩
end
theorem gO.ai (I:gO π cu): ∀g∈cu.ai,∃f∈π.ai,∃t,g={ f with gS:=t }:=by
 intro g J;obtain⟨i,hi,rfl⟩:=List.mem_iff_getElem.1 J;have hf:π.ai[i]?=some (π.ai[i]'(by rw[<-I.len];exact hi)):=aI _;obtain⟨t,ht⟩:=I.get i _ hf<;>grind
theorem gO.ok (I:gO π cu)(h:π.Ok)(hh:cu.hand<cu.ai.length): cu.Ok:=by
 refine⟨hh,by rw[I.len];exact h.many,by rw[I.aM,I.len];exact h.aM,λg J=>?_,λg J=>?_⟩
 .obtain⟨f,hf,t,rfl⟩:=I.ai g J;exact h.len f hf
 .obtain⟨f,hf,t,rfl⟩:=I.ai g J;exact h.pins f hf
theorem Pl.Ok.set {w:List (Int×Int)}(h:π.Ok)(hw:∀e∈w,0<=e.2/\e.2<π.ai.length)(J:f.b.length<=512)(hp:0<=f.pins/\f.pins<=4294967296): Pl.Ok { π with ai:=π.ai.set i f,aM:=w,bI:=d }:=by
 refine⟨by simp only[ff];exact h.hand,by simp only[ff];exact h.many,λe he=>Q,λg I=>?_,λg I=>?_⟩
 .rcases zE I with I|rfl
  .exact h.len g I
  .exact J
 .rcases zE I with I|rfl
  .exact h.pins g I
  .exact hp
theorem abg : ∀ {l:List (Int×α)} {e:Int×α},e∈nX n l->e∈l:=by
 intro l;induction l<;>grind[nX]
theorem abh {x:α}: ∀ {l:List (Int×α)} {e:Int×α},e∈dM n x l->e=(n,x)\/e∈l:=by
 intro l;induction l<;>grind[dM]
theorem FA (h:π.Ok): (eo π i f).Ok:=by
 refine h.set (λe he=>?_) (by simp[fD]) (by simp[fD]);split at he
 .exact h.aM e he
 .exact h.aM e (abg he)
theorem gP.ok (hr:gP ε n e b aj)(h:rz ε)(hp:∀f∈ε.1.ai,f.pins=0): rz aj:=by
 cases hr with
 |arg _=>exact h
 |Cy i f h1 h2 hl hf =>
  have hm:=bz hf;exact⟨h.pl.set h.pl.aM (h.pl.len f hm) Q,h.lg,h.dk⟩
 |out cu i f h1 h2 hl I hf J he=>exact uA (ε:=(cu,ε.2)) ⟨I.ok h.pl J,h.lg,h.dk⟩
 |read cu i f h1 h2 hl I hf J he hr =>
  have:=uA (i:=i) (ε:=(cu,ε.2)) ⟨I.ok h.pl J,h.lg,h.dk⟩;exact⟨FA this.pl,this.lg,this.dk⟩
 |bad cu i f h1 h2 hl I hf J he hr hc =>
  have:=uA (i:=i) (ε:=(cu,ε.2)) ⟨I.ok h.pl J,h.lg,h.dk⟩;exact⟨FA this.pl,this.lg,this.dk⟩
 |load cu i f h1 h2 hl I hf J he hr hc =>
  have:=uA (i:=i) (ε:=(cu,ε.2)) ⟨I.ok h.pl J,h.lg,h.dk⟩;have h3:=FA (i:=i) (f:=f) this.pl;have hlen:i<(eo (outF (cu,ε.2) i).2.1 i f).ai.length:=by
   obtain⟨c,hc⟩:=qt (ε:=(cu,ε.2)) hf<;>grind[eo]
  refine⟨h3.set (λe he=>?_) (by rw[this.dk.at];omega) cb,this.lg,this.dk⟩;rcases abh he with rfl|he
  .omega
  .exact h3.aM e he
theorem JH (h:π.Ok): (unpinF π n).2.Ok:=by
 unfold unpinF;split
 .exact h
 .rename_i i hi;split
  .exact h
  .rename_i f I;have hm:=bz I;refine h.set h.aM (h.len f hm) ?_;have:=h.pins f hm;grind[heldI]
inductive o_ (ε:bn)(n:Int): Int->List Nat->bn->Prop where
 |dead (h:ε.2.2.dead=true):o_ ε n 9 [] ε
 |kP (e:Int) (b:List Nat) (aj:bn) (h:ε.2.2.dead=false) (hr:gP ε n e b aj) (he:e≠0):o_ ε n e [] aj
 |A4 (b:List Nat) (aj:bn) (h:ε.2.2.dead=false) (hr:gP ε n 0 b aj) (he:(unpinF aj.1 n).1≠0):o_ ε n (unpinF aj.1 n).1 [] ((unpinF aj.1 n).2,aj.2)
 |read (b:List Nat) (aj:bn) (h:ε.2.2.dead=false) (hr:gP ε n 0 b aj) (he:(unpinF aj.1 n).1=0):o_ ε n 0 b ((unpinF aj.1 n).2,aj.2)
theorem o_.ok (I:o_ ε n e b aj)(h:rz ε)(J:∀f∈ε.1.ai,f.pins=0): rz aj:=by
 cases I with
 |dead _=>exact h
 |kP e b aj hd I he=>exact I.ok h J
 |A4 b aj hd I he=>have:=I.ok h J;exact⟨JH this.pl,this.lg,this.dk⟩
 |read b aj hd I he=>have:=I.ok h J;exact⟨JH this.pl,this.lg,this.dk⟩
def G1 (a p q r:Nat)(op dv:V)(aF:Nat): List V:=[.ptr p 0,.ptr q 0,.ptr r 0,op,dv,.int .u64 (aF:Int)]
def dJ (a p q r:Nat)(op:V)(data:List Nat)(aF:Nat): aH:=xs λdv:V=>star [pt a (.cells 6 (G1 a p q r op dv aF) false),.dL dv data]
def fh (g a:Nat)(now:List (Int×List Nat))(cn:Bool): aH:=xs λnv:V=>star [pt g (.cells 3 [.ptr a 0,nv,.bool cn] false),ux (λv b=>.dL v b) nv now]
section
variable {told:bU} {p:Nat} {op v:V} {m:List Fm} {cn:Bool}
theorem bV : Sat h (dJ a p q r op data aF::S)↔∃dv,Sat h (pt a (.cells 6 (G1 a p q r op dv aF) false)::.dL dv data::S):=by
 grind[dJ,gh,aX]
theorem fq : Sat h (fh g a now cn::S)↔∃nv,Sat h (pt g (.cells 3 [.ptr a 0,nv,.bool cn] false)::ux (λv b=>.dL v b) nv now::S):=by
 grind[fh,gh,aX]
theorem FB (hT:W told)(s:Sat h (dJ a p q r op data aF::dx r p q π::bD q p μ::aS p δ::S))(I:rz (π,μ,δ))(J:∀f∈π.ai,f.pins=0)(hw:δ.waiting.length<=268435456):
  Call ⟨prog,told⟩ 44 [.ptr a 0,.int .i64 n] h λv h'=>∃(e:Int) (b:List Nat) (ε:bn),o_ (π,μ,δ) n e b ε /\
   ((e≠0/\v=.aR [.aP,.int .i64 e]/\Sat h' (dJ a p q r op data aF::dx r p q ε.1::bD q p ε.2.1::aS p ε.2.2::S)) \/
    (e=0/\∃u,v=.aR [u,.int .i64 0]/\Sat h' (bu u b::dJ a p q r op data aF::dx r p q ε.1::bD q p ε.2.1::aS p ε.2.2::S))):=by
 have s0:=s;obtain⟨dv,s⟩:=bV.1 s;refine Call.of_wp (hT.free _ U) func44 U U (zK 10 U (zY s 0 ue kU U (zc U (AZ hT (s.ae [4])) ?_)));rintro v h ⟨rfl,rfl⟩;refine zv ?_;cases hd:δ.dead with
 |true =>
  exact zK 6 U (WP.ret ⟨aa,_,U,9,[],_,.dead hd,.inl ⟨O,U,s0⟩⟩)
 |false =>
  refine zK 6 U (zY s 0 ql vZ U (zm U (zc U (TI (n:=n) hT (s.ae [2,2,2]) I.pl J I.lg I.dk hw) ?_)));rintro v h ⟨e,b,ε,hr,(⟨he,rfl,s⟩|⟨rfl,u,rfl,s⟩)⟩
  .dsimp only[bringA,getA,aB] at s;exact zk 10 U (zB U aE Q<|zk 8 U (WP.ret ⟨aa,_,U,e,[],ε,.kP e b ε hd hr he,.inl ⟨he,U,bV.2 ⟨dv,s.ae [3,3,0,0,0]⟩⟩⟩))
  .dsimp only[bringA,getA,aB] at s;refine zk 10 U (zC U aE U ?_);have s:=s.ae [4,4,0,0,0,0];refine zk 8 U (zY s 0 ql vZ U (zm U ?_));have kB:=hr.ok I J;refine zc U (LV (n:=n) hT (s.ae [3]) kB.pl) ?_;rintro v h ⟨rfl,s⟩;refine zk 5 U ?_;by_cases he:(unpinF ε.1 n).1=0
   .skip;exact zC U aE Q<|zk 9 U (zR U ⟨0,b,_,.read b ε hd hr he,.inr ⟨U,u,U,(bV.2 ⟨dv,s.ae [1,1,0,1,1,0]⟩).ae [4,0,0,0,0]⟩⟩)
   .skip;exact zB U aE Q<|zk 8 U (WP.ret ⟨aa,_,U,_,[],_,.A4 b ε hd hr he,.inl ⟨he,U,(bV.2 ⟨dv,(s.ae [1,1,0,1,1,0]).del 5⟩)⟩⟩)
end
structure Pl.Full (π:Pl): Prop where
 nodup:(π.aM.map (·.1)).Nodup
 lW:∀n i,lookL n π.aM=some i->0<=n/\∃f,π.ai[i.toNat]?=some f/\f.bA=n/\f.b.length=512
structure ja (ε:bn): Prop where
 ok:rz ε
 pins:∀f∈ε.1.ai,f.pins=0
 full:ε.1.Full
theorem Pl.Full.set {g:Fm}(h:π.Full)(J:π.ai[i]?=some f)(hp:g.bA=f.bA)(hl:f.b.length=512->g.b.length=512): Pl.Full { π with ai:=π.ai.set i g,bI:=d }:=by
 refine⟨h.nodup,λn j I=>?_⟩;obtain⟨h1,f',h2,h3,h4⟩:=h.lW n j I<;>grind
theorem gO.full (I:gO π cu)(h:π.Full): cu.Full:=by
 refine⟨by rw[I.aM];exact h.nodup,λn j J=>?_⟩;rw[I.aM] at J;obtain⟨h1,f',h2,h3,h4⟩:=h.lW n j J;obtain⟨t,ht⟩:=I.get _ _ h2;exact⟨h1,_,ht,h3,h4⟩
theorem vh (h:ε.1.Full): (outF ε i).2.1.Full:=by
 unfold outF;split
 .exact h
 .rename_i f I;split
  .exact h
  .split
   .exact h
   .split
    .exact h
    .split
     .exact h
     .exact h.set I U λJ=>J
theorem A5 {g:Fm}(h:π.Full)(hg:π.ai[i]?=some g)(hp:g.bA=f.bA): (eo π i f).Full/\∀n j,lookL n (eo π i f).aM=some j->j.toNat≠i:=by
 have key:∀n j,lookL n (eo π i f).aM=some j->lookL n π.aM=some j/\j.toNat≠i:=by
  intro n j I;by_cases J:f.bA<0
  .have hw:(eo π i f).aM=π.aM:=by simp only[eo,bk J]
   rw[hw] at I;refine⟨I,λhi=>?_⟩;obtain⟨h1,f',h2,h3,_⟩:=h.lW n j I<;>grind
  .have hw:(eo π i f).aM=nX f.bA π.aM:=by simp only[eo,ax J]
   rw[hw,Jz h.nodup] at I;by_cases hn:f.bA=n
   .grind
   .rw[ax hn] at I;refine⟨I,λhi=>?_⟩;obtain⟨h1,f',h2,h3,_⟩:=h.lW n j I<;>grind
 refine⟨⟨?_,λn j I=>?_⟩,λn j I=>(key n j I).2⟩
 .unfold eo;split
  .exact h.nodup
  .exact AX h.nodup
 .obtain⟨h1,h2⟩:=key n j I;obtain⟨h3,f',h4,h5,h6⟩:=h.lW n j h1<;>grind[eo]
theorem Oj (h:π.Full)(hi:i<π.ai.length)(J:∀n j,lookL n π.aM=some j->j.toNat≠i)(hn:0<=n)(hb:b.length=512): (j8 π i n b).Full:=by
 refine⟨nY h.nodup,λm j I=>?_⟩;simp only[j8,mN] at I;by_cases hm:n=m
 .rw[bk hm] at I;have:=fY I;subst this;subst hm;exact⟨hn,⟨n,b,1,true,false⟩,mB hi,U,hb⟩
 .rw[ax hm] at I;obtain⟨h3,f',h4,h5,h6⟩:=h.lW m j I<;>grind[j8]
theorem gP.full (hr:gP ε n e b aj)(hd:ε.2.2.Ok)(h:ε.1.Full): aj.1.Full/\(e=0->b.length=512):=by
 cases hr with
 |arg _=>grind
 |Cy i f h1 h2 hl J =>
  refine⟨h.set J U λhl=>hl,λ_=>?_⟩;obtain⟨_,f',h4,_,h6⟩:=h.lW n i hl<;>grind
 |out cu i f h1 h2 hl hn J hh he=>exact⟨vh (ε:=(cu,ε.2)) (hn.full h),λh=>absurd h he⟩
 |read cu i f h1 h2 hl hn J hh he hr =>
  obtain⟨c,I⟩:=qt (ε:=(cu,ε.2)) J;exact⟨(A5 (f:=f) (vh (ε:=(cu,ε.2)) (hn.full h)) I U).1,λh=>absurd h hr⟩
 |bad cu i f h1 h2 hl hn J hh he hr hc =>
  obtain⟨c,I⟩:=qt (ε:=(cu,ε.2)) J;exact⟨(A5 (f:=f) (vh (ε:=(cu,ε.2)) (hn.full h)) I U).1,λh=>absurd h hc⟩
 |load cu i f h1 h2 hl hn J hh he hr hc =>
  obtain⟨c,I⟩:=qt (ε:=(cu,ε.2)) J;have hi:=(List.getElem?_eq_some_iff.1 I).1;obtain⟨k1,k2⟩:=A5 (f:=f) (vh (ε:=(cu,ε.2)) (hn.full h)) I U;have yC:=(Fy (ε:=(cu,ε.2)) (i:=i) hd).at n;grind[Oj,eo]
theorem EP (h:π.Full): (unpinF π n).2.Full:=by
 unfold unpinF;split
 .exact h
 .split
  .exact h
  .rename_i f I;exact h.set I U λJ=>J
theorem gO.pins (I:gO π cu)(h:∀f∈π.ai,f.pins=0): ∀f∈cu.ai,f.pins=0:=λg J=>by
 obtain⟨f,hf,t,rfl⟩:=I.ai g J;exact h f hf
theorem vj {ε:bn}{i:Nat}(h:∀f∈ε.1.ai,f.pins=0): ∀f∈(outF ε i).2.1.ai,f.pins=0:=by
 grind[outF]
theorem A6 {π:Pl}{i:Nat}{f:Fm}(h:∀f∈π.ai,f.pins=0): ∀f∈(eo π i f).ai,f.pins=0:=by
 intro g I;rcases zE I with I|rfl
 .grind
 .rfl
theorem gP.Pp {ε aj:bn}{n e:Int}{b:List Nat}(J:gP ε n e b aj)(he:e≠0)(hp:∀f∈ε.1.ai,f.pins=0): ∀f∈aj.1.ai,f.pins=0:=by
 cases J with
 |arg _=>exact hp
 |Cy i f h1 h2 hl hf=>omega
 |out cu i f h1 h2 hl I hf hh he=>exact vj (ε:=(cu,ε.2)) (I.pins hp)
 |read cu i f h1 h2 hl I hf hh he J=>exact A6 (f:=f) (vj (ε:=(cu,ε.2)) (I.pins hp))
 |bad cu i f h1 h2 hl I hf hh he J hc=>exact A6 (f:=f) (vj (ε:=(cu,ε.2)) (I.pins hp))
 |load cu i f h1 h2 hl I hf hh he J hc=>omega
theorem L1 {m:List Fm}{i:Nat}{f g:Fm}(h:∀f∈m,f.pins=0)(I:g.pins=0): ∀x∈(m.set i f).set i g,x.pins=0:=by
 grind[List.set_set]
theorem xF (I:lookL n π.aM=some (i:Int))(J:π.ai[i]?=some f)(hp:f.pins=1): heldI π n=some i/\unpinF π n=(0,{ π with ai:=π.ai.set i { f with pins:=0 } }):=by
 grind[heldI,unpinF]
theorem Xt {α:Type}{n:Int}{x:α}{l:List (Int×α)}: lookL n (dM n x l)=some x:=by rw[mN,bk U]
theorem gP.at {ε aj:bn}{n:Int}{b:List Nat}(J:gP ε n 0 b aj)(hp:∀f∈ε.1.ai,f.pins=0):
  ∃(i:Nat) (f:Fm),lookL n aj.1.aM=some (i:Int)/\aj.1.ai[i]?=some f/\f.pins=1/\f.b=b/\∀g:Fm,g.pins=0->∀x∈aj.1.ai.set i g,x.pins=0:=by
 generalize Zd:(0:Int)=e at J;cases J with
 |arg _=>omega
 |Cy i f h1 h2 hl I =>
  have hi:=(List.getElem?_eq_some_iff.1 I).1;refine⟨i,{ f with gS:=true,pins:=f.pins+1 },hl,Q,Q,U,λg hg=>L1 hp hg⟩
 |out cu i f h1 h2 hl hn I hh he=>omega
 |read cu i f h1 h2 hl hn I hh he J=>omega
 |bad cu i f h1 h2 hl hn I hh he J hc=>omega
 |load cu i f h1 h2 hl hn I hh he J hc =>
  obtain⟨c,hc'⟩:=qt (ε:=(cu,ε.2)) I;have hi:=(List.getElem?_eq_some_iff.1 hc').1;refine⟨i,⟨n,_,1,true,false⟩,Xt,mB (by show i<(List.set _ i _).length;rw[ff];exact hi),U,U,λg hg=>L1 (A6 (f:=f) (vj (ε:=(cu,ε.2)) (hn.pins hp))) hg⟩
theorem gP.FC (I:gP ε n 0 b aj)(J:∀f∈ε.1.ai,f.pins=0): (unpinF aj.1 n).1=0/\∀f∈(unpinF aj.1 n).2.ai,f.pins=0:=by
 obtain⟨i,f,h1,h2,h3,h4,h5⟩:=I.at J;rw[(xF h1 h2 h3).2];exact⟨U,h5 _ U⟩
theorem o_.mQ (I:o_ ε n e b aj)(h:ja ε): ja aj:=by
 refine⟨I.ok h.ok h.pins,?_,?_⟩
 .cases I with
  |dead _=>exact h.pins
  |kP e b aj hd I he=>exact I.Pp he h.pins
  |A4 b aj hd I he=>exact(I.FC h.pins).2
  |read b aj hd I he=>exact(I.FC h.pins).2
 .cases I with
  |dead _=>exact h.full
  |kP e b aj hd I he=>exact(I.full h.ok.dk h.full).1
  |A4 b aj hd I he=>exact EP (I.full h.ok.dk h.full).1
  |read b aj hd I he=>exact EP (I.full h.ok.dk h.full).1
theorem o_.len (I:o_ ε n 0 b aj)(h:ja ε): b.length=512:=by
 generalize J:(0:Int)=e at I;cases I with
 |dead _=>omega
 |kP e b aj hd I he=>omega
 |A4 b aj hd I he=>omega
 |read b aj hd I he=>exact(I.full h.ok.dk h.full).2 U
inductive GRd (ε:bn)(now:List (Int×List Nat))(cn:Bool)(n:Int): Int->List Nat->bn->Prop where
 |arg (h:¬(0<=n/\n<ε.2.2.aU.length)):GRd ε now cn n 1 [] ε
 |cn (h1:0<=n) (h2:n<ε.2.2.aU.length) (h:cn=true):GRd ε now cn n 18 [] ε
 |own (b:List Nat) (h1:0<=n) (h2:n<ε.2.2.aU.length) (h:cn=false) (hl:lookL n now=some b):GRd ε now cn n 0 b ε
 |read (e:Int) (b:List Nat) (aj:bn) (h1:0<=n) (h2:n<ε.2.2.aU.length) (h:cn=false) (hl:lookL n now=none) (hr:o_ ε n e b aj):GRd ε now cn n e b aj
theorem GRd.mQ {cn:Bool}(I:GRd ε now cn n e b aj)(h:ja ε): ja aj:=by
 cases I with
 |arg _=>exact h
 |cn _ _ _=>exact h
 |own _ _ _ _ _=>exact h
 |read e b aj h1 h2 J hl I=>exact I.mQ h
theorem OpR.invoke {x:Operand}{m:String}{k:FuncId}{args:List V}{R:V->H->Prop}(J:o.op=.call cl)(hc:cl.callee=.invoke x m)
 (hx:bp E x=some (.iface t u))(hm:methV C.P t m=some k)(ha:lookArgs E cl.args.toList=some args)(I:Am.Call C k (u::args) h R): OpR C E h o R:=by
 obtain⟨v,h₁,⟨N,hN⟩,hr⟩:=I;exact⟨v,h₁,hr,λenv hE=>⟨N,by grind[evOp,evCall,lz,bX]⟩⟩
theorem IL : methV Tryz.prog 78 "Read" = some 207 := by kernel_rfl
theorem abi : methV Tryz.prog 26 "Read" = some 44 := by kernel_rfl
theorem Ri {e:TypeId}{x:Operand}(hu:prog.underlying t=some (.pointer e)): binV prog h .neq t x y .aW .aW=some (.bool false):=by simp only[binV,eqV,hu];rfl
theorem G2 {e:TypeId}{x:Operand}(hu:prog.underlying t=some (.pointer e)): binV prog h .eql t x y .aW .aW=some (.bool true):=by simp only[binV,eqV,hu];rfl
theorem tq {e:TypeId}{x:Operand}{o:Nat}(hu:prog.underlying t=some (.pointer e)): binV prog h .eql t x y (.ptr i o) .aW=some (.bool false):=by simp only[binV,eqV,hu];rfl
theorem afx {e:TypeId}{x:Operand}{o:Nat}(hu:prog.underlying t=some (.pointer e)): binV prog h .eql t x y .aW (.ptr i o)=some (.bool false):=by simp only[binV,eqV,hu];rfl
theorem afy {e k:TypeId}{x:Operand}{n m:Nat}{cs ds:List V}(hu:prog.underlying t=some (.pointer e))(I:bf prog e=some k)(h1:1<=k)(hi:T.get h.tr i=some (.cells n cs false))(J:T.get h.tr j=some (.cells m ds false))(hn:1<=n)(hm:1<=m):
  binV prog h .eql t x y (.ptr i 0) (.ptr j 0)=some (.bool (Nat.beq i j)):=by
 simp only[binV,eqV,hu,I,aN.2 h1,ak,hi,J,aN.2 hn,aN.2 hm,oE,fM,Dx,tV]
section
variable {told:bU} {p:Nat} {op v:V} {m:List Fm} {cn:Bool}
theorem vk (I:W told)(s:Sat h (dJ a p q r .aW data aF::S)): Call ⟨prog,told⟩ 38 [.ptr a 0] h λv h'=>∃g,v=.aR [.ptr g 0,.int .i64 0]/\Sat h' (fh g a [] false::dJ a p q r (.ptr g 0) data aF::S):=by
 obtain⟨dv,s⟩:=bV.1 s;refine Call.of_wp (I.free _ U) func38 U U (zK 10 U (zY s 0 rT Ii U (zC U (Ri qU) U (zk 7 U<|aq.Cg s U U U U (λJ h s=>(zo U (cE U (by rw[ae5];rfl))<|aq.bG s U U U (c7 U U) (λp13 h s=>(zn U (zf U (rT _ _)<|zS U (by exact s.cS (k:=2) U adg U O U U) (λh s=>(zk 5 U (zY s 2 rT Ii U (zk 3 U (zR U ?_))))))))))))));have s1:=uy (f:=λv (b:List Nat)=>.dL v b) (s.ae [1]);have s:=fq.2 ⟨_,s1.ae [1]⟩;exact⟨_,U,(bV.2 ⟨dv,s.ae [1,1,0]⟩).ae [1]⟩
theorem L2 (hT:W told)(s:Sat h (fh g a now cn::dJ a p q r op data aF::dx r p q π::bD q p μ::aS p δ::S))(kQ:ja (π,μ,δ))(hw:δ.waiting.length<=268435456)(qD:∀e∈now,e.2.length=512):
  Call ⟨prog,told⟩ 207 [.ptr g 0,.int .i64 n] h λv h'=>∃(e:Int) (b:List Nat) (ε:bn),GRd (π,μ,δ) now cn n e b ε /\
   ((e≠0/\v=.aR [.aP,.int .i64 e]/\Sat h' (fh g a now cn::dJ a p q r op data aF::dx r p q ε.1::bD q p ε.2.1::aS p ε.2.2::S)) \/
    (e=0/\∃u,v=.aR [u,.int .i64 0]/\Sat h' (bu u b::fh g a now cn::dJ a p q r op data aF::dx r p q ε.1::bD q p ε.2.1::aS p ε.2.2::S))):=by
 have s0:=s;obtain⟨nv,s⟩:=fq.1 s;obtain⟨dv,s⟩:=bV.1 (s.ae [2]);refine Call.of_wp (hT.free _ U) func207 U U (zK 6 U (WP.block (zK 3 U<|zd U (ag U U aG) ?_ ?_)))
 .intro J;have J:n<0:=Q;exact zk 20 U (WP.ret ⟨aa,_,U,1,[],_,.arg Y,.inl ⟨O,U,s0⟩⟩)
 .intro J;have J:0<=n:=Q;refine zk 4 U (zY s 2 rW nr U (zn U (zY s 0 ue kU U (zc U (Fv hT (s.ae [6])) ?_))));rintro v h ⟨rfl,rfl⟩;refine zd U (ag U U dO) ?_ ?_
  .intro I;have I:(δ.aU.length:Int)<=n:=Q;exact zk 9 U (WP.ret ⟨aa,_,U,1,[],_,.arg Q,.inl ⟨O,U,s0⟩⟩)
  .intro I;have I:n<(δ.aU.length:Int):=Q;refine zk 8 U (zf U (DX _ _) ?_);cases cn with
   |true =>
    exact zt U (o_load U (s.ld 2 U nO U)) U (zk 8 U (WP.ret ⟨aa,_,U,18,[],_,.cn J I U,.inl ⟨O,U,s0⟩⟩))
   |false =>
    refine zh U (o_load U (by exact s.ld 2 U nO U)) (U)<|za U (zv (zj U (WP.skip (zw (zg U (zk 2 U (zf U (uh _ _) (zl U (by exact s.ld 2 U oX U)<|zm U ?_))))))));rcases lC (n:=n) (λ_ _=>bg.dL _ _) (s.ae [3]) qQ bB vE with⟨g1,g2,_⟩|⟨u,b,g1,g2,_,s2⟩
    .refine aq.op U U U (e_ U U g2)<|zk 5 U (zv (zg U (zm U (zv (zj U (WP.skip (zg U (zk 2 U (zf U (rW _ _) (zl U (by exact s.ld 2 U nr U)<|zm U (zc U (FB (n:=n) hT (s0.ae [1,1,1,1]) kQ.ok kQ.pins hw) ?_)))))))))));rintro v h ⟨e,b,ε,hr,(⟨he,rfl,s⟩|⟨rfl,u,rfl,s⟩)⟩
     .dsimp only[bringA,getA,aB] at s;exact zk 5 U (zR U ⟨e,b,ε,.read e b ε J I U g1 hr,.inl ⟨he,U,s.ae [4]⟩⟩)
     .dsimp only[bringA,getA,aB] at s;exact zk 5 U (zR U ⟨0,b,ε,.read 0 b ε J I U g1 hr,.inr ⟨U,u,U,s.ae [0,4]⟩⟩)
    .dsimp only[bringA,getA,aB] at s2;refine zo U (e_ U U g2) (zk 14 U ?_);have hb:=qD _ (j7 g1);refine zc U (qo hT s2 (fX _ _) Q) λv h s=>zk 3 U (WP.ret ⟨aa,_,U,?_⟩);have s:=bV.2 ⟨dv,s.ae [3,3,0,0,0,0,0,0,0]⟩;dsimp only[bringA,getA,aB] at s;have s:=fq.2 ⟨nv,s.ae [4,3]⟩;exact⟨0,b,_,.own b J I U g1,.inr ⟨U,v,U,((s.ae [2,0,0,1,1,1]).del 6)⟩⟩
end
inductive xG (ε:bn)(now:List (Int×List Nat))(cn:Bool)(n:Int)(b:List Nat): Int->List (Int×List Nat)->bn->Prop where
 |may (e:Int) (c:List Nat) (aj:bn) (hr:GRd ε now cn n e c aj) (he:e≠0):xG ε now cn n b e now aj
 |bad (c:List Nat) (aj:bn) (hr:GRd ε now cn n 0 c aj) (hg:cH b=false):xG ε now cn n b 4 now aj
 |done (c:List Nat) (aj:bn) (hr:GRd ε now cn n 0 c aj) (hg:cH b=true):xG ε now cn n b 0 (dM n b now) aj
theorem xG.mQ {cn:Bool}(I:xG ε now cn n b e dR aj)(h:ja ε): ja aj:=by
 cases I with
 |may e c aj I he=>exact I.mQ h
 |bad c aj I J=>exact I.mQ h
 |done c aj I J=>exact I.mQ h
section
variable {told:bU} {p:Nat} {op v:V} {m:List Fm} {cn:Bool}
theorem adD (hT:W told)(s:Sat h (fh g a now cn::dJ a p q r op data aF::dx r p q π::bD q p μ::aS p δ::S))(J:ja (π,μ,δ))(hw:δ.waiting.length<=268435456)(I:∀e∈now,e.2.length=512):
  Call ⟨prog,told⟩ 89 [.iface 78 (.ptr g 0),.int .i64 n] h λv h'=>∃(e:Int) (b:List Nat) (ε:bn),GRd (π,μ,δ) now cn n e b ε/\v=.int .i64 e /\
   Sat h' (fh g a now cn::dJ a p q r op data aF::dx r p q ε.1::bD q p ε.2.1::aS p ε.2.2::S):=by
 refine Call.of_wp (hT.free _ U) func89 U U (zK 8 U (aq.any U U U (OpR.invoke U U U IL U (L2 (n:=n) hT s J hw I)) ?_));rintro v h ⟨e,b,ε,hr,(⟨he,rfl,s⟩|⟨rfl,u,rfl,s⟩)⟩
 .exact aq.op U U U (aD U)<|zk 10 U (zR U ⟨e,b,ε,hr,U,s⟩)
 .skip;exact zk 11 U (zR U ⟨0,b,ε,hr,U,s.drop⟩)
theorem TV (J:W told)(s:Sat h (fh g a now cn::dJ a p q r op data aF::dx r p q π::bD q p μ::aS p δ::X::S))(hX:cQ X (cT x b))(hb:b.length<9223372036854775808)(kQ:ja (π,μ,δ))(hw:δ.waiting.length<=268435456)(I:∀e∈now,e.2.length=512):
  Call ⟨prog,told⟩ 40 [.ptr g 0,.int .i64 n,x] h λv h'=>∃(e:Int) (dR:List (Int×List Nat)) (ε:bn),xG (π,μ,δ) now cn n b e dR ε/\v=.int .i64 e /\
   Sat h' (fh g a dR cn::dJ a p q r op data aF::dx r p q ε.1::bD q p ε.2.1::aS p ε.2.2::X::S):=by
 refine Call.of_wp (J.free _ U) func40 U U (zK 8 U (zo U (uJ U (mki_of qU U)) (zm U (zc U (adD (n:=n) J s kQ hw I) ?_))));rintro v h ⟨e,c,ε,hr,rfl,s⟩;refine zk 5 U ?_;by_cases he:e=0
 .skip;subst he;refine zC U aE U (zk 7 U (zc U (Pg J (s.ae [5]) hX hb) ?_));rintro v h ⟨rfl,s⟩;refine zo U (cI U U) (zv ?_);by_cases hg:cH b=true
  .skip;refine WP.Zo U Q ?_;have agF:=iU hg;obtain⟨nv,s⟩:=fq.1 (s.ae [1]);have s:=s.ae [2,0,0];obtain⟨Aw,rfl⟩:=Cl s (j:=2) U;refine zK 2 U ?_;have s0:=s;refine WP.drawn [some (0,2),some (0,2),some (0,2),some (0,2),some (0,2),af,af,af] U bo bo<|zM U (zN U (zF U (uh _ _) (zL U (s.ld 1 U oX U) (zM U (zM U (ah.any U U U U (OpR.call U U U U (qo J s hX Y)) λu h s=>?_))))));obtain⟨Ar,_,cap,_,rfl,_⟩:=s.g8 Y;have s:=s.ic;have s1:=s;exact ah.cy U U U (OpR.mapUpdate U U U U (nZ (f:=λv b=>aH.dL v b) (x:=b) (λ_ _=>bg.dL _ _) (s.ae [0,2]) qQ bB)) λw h s=>ah.nil ⟨⟨λ_ _=>.inr ⟨U,⟨_,aD U⟩,aA _ U⟩,λ_ _=>.inr ⟨U,⟨_,jq U⟩,aA _ U⟩,λ_ _=>.inr ⟨U,⟨_,gy U (uh _ _)⟩,aA _ U⟩,cY (.inr ⟨U,⟨_,o_load U (s0.ld 1 U oX U)⟩,aA _ U⟩) (.inr ⟨U,⟨_,o_load U (s1.ld 2 U oX U)⟩,aA _ U⟩),λ_ _=>.inr ⟨U,⟨_,aD U⟩,aA _ U⟩,dq 4⟩,zK 4 U (zR U ⟨0,_,ε,.done c ε hr hg,U,fq.2 ⟨.map Aw,s.ae [2,0,1,1,1,1,0]⟩⟩)⟩
  .have hg:cH b=false:=Q;exact WP.QE U Q<|zK 4 U (WP.ret ⟨aa,_,U,4,_,ε,.bad c ε hr hg,U,s.ae [1,1,1,1,1,0]⟩)
 .skip;exact zB U aE Q<|zk 7 U (WP.ret ⟨aa,_,U,e,_,ε,.may e c ε hr he,U,s⟩)
theorem JI (I:W told)(s:Sat h (fh g a now cn::dJ a p q r (.ptr g 0) data aF::S)): Call ⟨prog,told⟩ 105 [.ptr g 0] h λv h'=>v=.aR []/\Sat h' (fh g a now true::dJ a p q r .aW data aF::S):=by
 obtain⟨nv,s⟩:=fq.1 s;obtain⟨dv,s⟩:=bV.1 (s.ae [2]);refine Call.of_wp (I.free _ U) func105 U U (zK 4 U (zf U (DX _ _)<|zS U (by exact s.cS (k:=2) U BB U O U U) (λh s=>?_)));refine zk 5 U (zY s 2 rW nr U (zn U (zY s 0 rT Ii U (zm U (zB U (afy qU ae4 O (s.row (k:=2) U) (s.row (k:=2) U) O O) (fM g)<|zk 5 U (zY s 2 rW nr U (zn U (zf U (rT _ _)<|zS U (by exact s.cS (k:=0) U adg U O U U) (λh s=>?_)))))))));refine zv ?_;have s:=fq.2 ⟨nv,(bV.2 ⟨dv,s⟩).ae [1,1]⟩;exact⟨aa,_,U,U,s⟩
theorem Xu (I:W told)(s:Sat h (fh g a now cn::dJ a p q r (.ptr g 0) data aF::S)): Call ⟨prog,told⟩ 59 [.ptr g 0] h λv h'=>v=.aR []/\Sat h' (fh g a now true::dJ a p q r .aW data aF::S):=by
 refine Call.of_wp (I.free _ U) vf U U (zK 2 U (zc U (JI I s) ?_));rintro v h ⟨rfl,s⟩;exact zv ⟨aa,_,U,U,s⟩
theorem Ol (I:W told)(s:Sat h (fh g a now cn::dJ a p q r .aW data aF::S)): Call ⟨prog,told⟩ 105 [.ptr g 0] h λv h'=>v=.aR []/\Sat h' (fh g a now true::dJ a p q r .aW data aF::S):=by
 obtain⟨nv,s⟩:=fq.1 s;obtain⟨dv,s⟩:=bV.1 (s.ae [2]);dsimp only[bringA,getA,aB] at s;refine Call.of_wp (I.free _ U) func105 U U (zK 4 U (zf U (DX _ _)<|zS U (by exact s.cS (k:=2) U BB U O U U) (λh s=>?_)));dsimp only[G1,Nat.reduceAdd,List.set,setA] at s;refine zv (zg U (zk 2 U (zf U (rW _ _) (zl U (by exact s.ld 2 U nr U)<|zn U (zf U (rT _ _) (zl U (by exact s.ld 0 U Ii U)<|zm U (zh U (ag U U (afx qU)) U (zv (zj U (WP.skip ?_))))))))));have s:=fq.2 ⟨nv,(bV.2 ⟨dv,s⟩).ae [1,1]⟩;exact⟨aa,_,U,U,s⟩
theorem tu (I:W told)(s:Sat h (fh g a now cn::dJ a p q r .aW data aF::S)): Call ⟨prog,told⟩ 59 [.ptr g 0] h λv h'=>v=.aR []/\Sat h' (fh g a now true::dJ a p q r .aW data aF::S):=by
 refine Call.of_wp (I.free _ U) vf U U (zK 2 U (zc U (Ol I s) ?_));rintro v h ⟨rfl,s⟩;exact zv ⟨aa,_,U,U,s⟩
end
inductive BF (bA:Int)(gv now:List Nat): Nat->List cU->Prop where
 |done (i:Nat) (h:now.length<=i):BF bA gv now i []
 |skip (i:Nat) (l:List cU) (h:i<now.length) (he:gv[i]?=now[i]?) (hr:BF bA gv now (i+1) l):BF bA gv now i l
 |take (i e:Nat) (l:List cU) (h1:i<e) (h2:e<=now.length) (h3:gv[i]?≠now[i]?) (h4:∀k,e<=k->k<e+8->gv[k]?=now[k]?) (hr:BF bA gv now e l):BF bA gv now i (⟨bA,i,false,(now.take e).drop i⟩::l)
def TW (bA:Int)(gv now:List Nat)(c:List cU): Prop:=∃l,BF bA gv now 12 l/\c=if l=[] then[⟨bA,0,false,[]⟩] else l
theorem xH : ∃i,prog.info? 237=some i/\i.size=4/\i.bytes=48 :=
 ⟨_,(show prog.info? 237=some ((prog.info? 237).getD default) by kernel_rfl),bo,bo⟩
section
variable {told:bU} {p:Nat} {op v:V} {now:List Nat}
noncomputable def rgO : Code:=aV [1,1,0,1,0,0] ((f173.body).getD .skip)
noncomputable def rgI : Code:=aV [1,1,0,1,0,0,1,0,1,1,0,1,0,0] ((f173.body).getD .skip)
theorem Xv {I:Nat}{t7:V}{k1 k2:Nat}(s:Sat h S)(BV:getA S k1=some X)(hX:cQ X (cT u gv))(BC:getA S k2=some aw)(hY:cQ aw (cT v now))(r8:gv.length=512)(ir:now.length=512): ∀(j i e:Nat) (E:List (Nat×V)) (a8:Ex->List (Nat×V)->H->Prop),i+j=512->I<e->e<=i->(∀k,e<=k->k<i->gv[k]?=now[k]?) ->
  Has E [(0,.int .i64 pg),(1,u),(2,v),(7,t7),(8,.int .i64 (I:Int)),(9,.int .i64 (e:Int)),(10,.int .i64 (i:Int))] ->
  (∀J E',I<J->J<=512->(∀k,J<=k->k<J+8->gv[k]?=now[k]?)->Has E' [(0,.int .i64 pg),(1,u),(2,v),(7,t7),(8,.int .i64 (I:Int)),(9,.int .i64 (J:Int))]->a8 (.exit 2) E' h) ->
  WP ⟨prog,told⟩ 71 (.loop rgI) E h a8:=by
 have hv:=s.aQ _ BC hY;have hu:=s.aQ _ BV hX;have hlen:lenV prog h 23 v=some (.int .i64 now.length):=bC aZ hv;intro j;induction j with
 |zero =>
  refine λi e E a8 hi h1 h2 hg hE hq=>WP.loop (WP.has hE (zK 5 U (zo U (aO U U U hlen) (zC U aG Q<|zk 8 U (WP.exit<|hq e _ h1 Y (λk k1 _=>?_) ⟨U,U,U,U,U,U,aa⟩)))));by_cases hk:k<i
  .grind
  .grind
 |succ j ih =>
  intro i e E a8 hi h1 h2 hg hE hq;have hb:now[i]?=some (now[i]' Y):=aI _;generalize (now[i]' Y)=b at hb;have hc:gv[i]?=some (gv[i]' Y):=aI _;generalize (gv[i]' Y)=c at hc;obtain⟨id,off,e1,e2⟩:=gG hv hb;obtain⟨Je,off',e3,e4⟩:=gG hu hc;refine WP.loop (WP.has hE (zK 5 U (zo U (aO U U U hlen) (zB U aG Q<|zk 3 U (zb U (by exact aT ay) ?_)))));by_cases hd:i<e+8
  .skip;refine zB U aG Q<|zk 5 U (WP.block (zw ?_));have s0:=s;refine WP.drawn [af,af,af,af,af,af,af,af,af] U bo bo<|zM U (zM U (zO U (aJ (.ptr Je off') U U e3) (zL U e4 (zM U (zM U (zO U (aJ (.ptr id off) U U e1) (zL U e2 ?_)))))));by_cases hbc:c=b
   .skip;refine ah.kK U U U U (ag U U aE) Q<|ah.nil ⟨(dq 10),zj U (WP.skip (zr U (zm U (zb U (by exact aT ay)<|za U (zv ?_)))))⟩;exact ih (i+1) e _ a8 Y h1 Y (λk k1 k2=>(by
     grind)) ⟨U,U,U,U,U,U,U,aa⟩ hq
   .skip;exact ah.ot U U U U (ag U U aE) Q<|ah.nil ⟨(dq 10),zK 3 U (zb U (by exact aT ay)<|za U (zv (zr U (zm U (zb U (by exact aT ay)<|za U (zv<|ih (i+1) (i+1) _ a8 Y Y Y (λk k1 k2=>absurd k2 Y) ⟨U,U,U,U,U,U,U,aa⟩ hq))))))⟩
  .skip;exact zC U aG Q<|zk 3 U (WP.exit (hq e _ h1 Y (λk k1 k2=>hg k k1 Y) ⟨U,U,U,U,U,U,aa⟩))
theorem Xw (hT:W told)(hX:cQ X (cT u gv))(hY:cQ aw (cT v now))(r8:gv.length=512)(ir:now.length=512): ∀(j i:Nat) (acc:List cU) (av:V) (cs:List V) (h:H) (E:List (Nat×V)) (a8:Ex->List (Nat×V)->H->Prop),512<=i+j->i<=512->acc.length<=i ->
  Sat h (.arr 4 av cs::c6 cs acc::X::aw::S)->(∀l,BF pg gv now i l->BF pg gv now 12 (acc++l)) ->
  Has E [(0,.int .i64 pg),(1,u),(2,v),(7,av),(8,.int .i64 (i:Int))] ->
  (∀qA cs' l E' h',BF pg gv now 12 l->l.length<=512->Sat h' (.arr 4 qA cs'::c6 cs' l::X::aw::S)->Has E' [(0,.int .i64 pg),(7,qA)]->a8 (.exit 0) E' h') ->
  WP ⟨prog,told⟩ 71 (.loop rgO) E h a8:=by
 intro j;induction j with
 |zero =>
  intro i acc av cs h E a8 hj hi hac s I hE hq;have hlen:lenV prog h 23 v=some (.int .i64 now.length):=bC aZ (s.aQ 3 U hY);refine WP.loop (WP.has hE (zK 5 U (zo U (aO U U U hlen) (zC U aG Q<|zk 2 U (WP.exit ?_)))));have:=I [] (.done _ Y);rw[fZ] at this;exact hq av cs acc _ _ this Y s ⟨U,U,aa⟩
 |succ j ih =>
  intro i acc av cs h E a8 hj hi hac s I hE hq;have hv:=s.aQ 3 U hY;have hu:=s.aQ 2 U hX;have hlen:lenV prog h 23 v=some (.int .i64 now.length):=bC aZ hv;by_cases bY:i<512
  .have hb:now[i]?=some (now[i]' Y):=aI _;generalize (now[i]' Y)=b at hb;have hc:gv[i]?=some (gv[i]' Y):=aI _;generalize (gv[i]' Y)=c at hc;obtain⟨id,off,e1,e2⟩:=gG hv hb;obtain⟨Je,off',e3,e4⟩:=gG hu hc;refine WP.loop (WP.has hE (zK 5 U (zo U (aO U U U hlen) (zB U aG Q<|zk 3 U (WP.block (zK 2 U ?_))))));have s0:=s;refine WP.drawn [af,af,af,af,af,af,af,af,af] U bo bo<|zM U (zM U (zO U (aJ (.ptr Je off') U U e3) (zL U e4 (zM U (zM U (zO U (aJ (.ptr id off) U U e1) (zL U e2 ?_)))))));by_cases hbc:c=b
   .skip;exact ah.ot U U U U (ag U U bH) Q<|ah.nil ⟨(dq 10),zK 4 U (zb U (by exact aT ay)<|zk 2 U (WP.exit (ih (i+1) acc av cs h _ a8 Y Y Y s (λl hl=>I l (.skip i l Y Q hl)) ⟨U,U,U,U,U,aa⟩ hq)))⟩
   .skip;refine ah.kK U U U U (ag U U bH) Q<|ah.nil ⟨(dq 10),zK 5 U (zb U (by exact aT ay)<|zk 8 U (WP.block<|Xv s (k1:=2) (k2:=3) U hX U hY r8 ir (512-(i+1)) (i+1) (i+1) _ _ Y (rK i) (az _) (λk k1 k2=>absurd k2 Y) ⟨U,U,U,U,U,U,U,aa⟩ (λe' E' he1 BG TX fg=>(WP.has fg ?_))))⟩;have L3:=dm hv (a:=i) (b:=e') Y Y;refine zK 8 U (zo U (bR (p:=some (.int .i64 (i:Int))) (q:=some (.int .i64 (e':Int))) (m:=none) (p':=some i) (q':=some e') (m':=none) U U U U (by rfl) (by rfl) U L3.1)<|zc U (qo hT (s.ae [3]) (lU hY (a:=i) (b:=e') Y Y) Q) λw h s=>?_);dsimp only[bringA,getA,aB] at s;obtain⟨wid,_,J,_,rfl,_⟩:=s.g8 Q;have s:=s.ic;generalize Jq:(now.take e').drop i=bs at s;refine zo U (cE U (by rw[QN];rfl)) ?_;obtain⟨rv,h1,vb,s1⟩:=fP prog (k:=4) (x:=.agg [.int .i64 pg,.int .i64 (i:Int),.bool false,.sl wid 0 bs.length J]) s js qm sS U O O U U;dsimp only[V.cells] at s1;refine aq.any U U U (OpR.of (R:=λv h'=>v=rv/\h'=h1) (jj U vb) ⟨U,U⟩) ?_;rintro v' h' ⟨rfl,rfl⟩;obtain⟨i1,gD,fH,gu⟩:=xH;have jE:cs.length=acc.length*4:=by
     obtain⟨a,b,q1,q2,q3⟩:=s1.at (k:=4) U;exact pM q3
    obtain⟨qA,h2,tg,s2⟩:=dV (s1.ae [3,0]) js gD qm fH Y U O Q;dsimp only[bringA,getA,aB] at s2;refine aq.any U U U (OpR.of (R:=λv h'=>v=qA/\h'=h2) (fN U U tg) ⟨U,U⟩) ?_;rintro v' h' ⟨rfl,rfl⟩;refine za U (zv (zr U (zk 2 U (zv ?_))));have s3:Sat _ (c6 cs acc::.dL (.sl wid 0 bs.length J) bs::_):=s2.ae [4,2];have s4:=s3.two (C:=c6 (cs++[.int .i64 pg,.int .i64 (i:Int),.bool false,.sl wid 0 bs.length J]) (acc++[⟨pg,i,false,bs⟩])) (bg.qz _ _) (bg.dL _ _) λa b q1 q2=>A3 q1 ⟨⟨⟨U,U,U⟩,q2⟩,aa⟩;have s5:=(s4.ae [1,0,2,1]).del 4;dsimp only[bringA,getA,aB] at s5;refine ih e' (acc++[⟨pg,(i:Int),false,bs⟩]) _ _ _ _ a8 Y BG Q s5 (λl hl=>?_) ⟨U,U,U,U,U,aa⟩ hq;have:=I _ (.take i e' l he1 Y (λhx=>Q) TX hl);rw[Jq] at this
    rwa [gX]
  .have hi5:i=512:=Y;refine WP.loop (WP.has hE (zK 5 U (zo U (aO U U U hlen) (zC U aG (by simp<;>omega) ?_))));refine zk 2 U (WP.exit ?_);have:=I [] (.done _ Y);rw[fZ] at this;exact hq av cs acc _ _ this Y s ⟨U,U,aa⟩
theorem TY (hT:W told)(s:Sat h (X::aw::S))(hX:cQ X (cT u gv))(hY:cQ aw (cT v now))(I:gv.length=512)(J:now.length=512):
  Call ⟨prog,told⟩ 173 [.int .i64 pg,u,v] h λw h'=>∃cs l,TW pg gv now l/\l.length<=512/\Sat h' (.arr 4 w cs::c6 cs l::X::aw::S):=by
 refine Call.of_wp (hT.free _ U) func173 U U (zK 13 U (WP.block<|Xw hT (pg:=pg) hX hY I J 500 12 [] .aP [] _ _ _ Y Y cb ((s.eF aa).jr) (λl hl=>hl) ⟨U,U,U,U,U,aa⟩ (λqA cs' l E' h' hr TZ s' fg=>?_)));have s:=s';have hlen:=s.Cs (j1:=0) (j2:=1) U U js;have BH:=s.cz 0 U;refine WP.has fg (zK 4 U (zo U (aO U U U hlen) ?_));by_cases Fg:l=[]
 .skip;refine zB U bH Q<|zk 5 U (zo U (cE U (by rw[QN];rfl)) ?_);obtain⟨rv,h1,vb,s1⟩:=fP prog (k:=4) (x:=.agg [.int .i64 pg,.int .i64 0,.bool false,.aP]) s js qm sS U O O U U;dsimp only[V.cells] at s1;refine aq.any U U U (OpR.of (R:=λv h'=>v=rv/\h'=h1) (jj U vb) ⟨U,U⟩) ?_;rintro v' h' ⟨rfl,rfl⟩;refine zk 2 U (WP.ret ⟨aa,_,U,⟨[.int .i64 pg,.int .i64 0,.bool false,.aP],[⟨pg,0,false,[]⟩],⟨l,hr,Q⟩,cb,?_⟩⟩);have s2:=(s1.del 2).del 1;have s3:Sat _ (.dL .aP []::.arr 4 v' _::X::aw::S):=s2.yu;have s4:=s3.iX (B:=c6 [.int .i64 pg,.int .i64 0,.bool false,.aP] [⟨pg,0,false,[]⟩]) λa b q=>⟨⟨⟨U,U,U⟩,q⟩,aa⟩;exact s4.ae [1,0]
 .skip;exact zC U bH (by simp_all)<|zk 8 U (zR U ⟨_,l,⟨l,hr,Q⟩,TZ,s⟩)
end
def iA (m:List Fm): Nat:=(m.map (·.changed)).count true
theorem oK {g:Fm}: ∀ {m:List Fm} {i:Nat},m[i]?=some f->iA (m.set i g)+f.changed.toNat=iA m+g.changed.toNat:=by
 intro m;induction m with
 |nil=>simp
 |cons x m I =>
  intro i h;cases i<;>grind[iA]
theorem G3 {g:Fm}(I:g.changed=false): ∀ {m:List Fm} {i:Nat},iA (m.set i g)<=iA m:=by
 intro m i;cases h:m[i]? with
 |none =>
  grind[List.set_eq_of_length_le]
 |some f =>
  have:=oK (g:=g) h;grind
def cC (ε:bn): Nat:=ε.2.2.waiting.length+iA ε.1.ai
theorem uB : ε.2.2.waiting.length<=cC ε:=Dv _ _
theorem gO.count (I:gO π cu): iA cu.ai=iA π.ai:=by
 have:cu.ai.map (·.changed)=π.ai.map (·.changed):=by
  refine rJ λi=>?_;rw[wA,wA];cases h:π.ai[i]? with
  |none =>
   have h1:π.ai.length<=i:=Q;have:cu.ai[i]?=none:=by simp[I.len,h1]
   rw[this]
  |some f =>
   obtain⟨t,J⟩:=I.get i f h;rw[J];rfl
 simp only[iA,this]
theorem L4 (h:(δ.dY n b).1≠0): (δ.dY n b).2.waiting=δ.waiting:=by
 unfold Dk.dY at h ⊢;split
 .rfl
 .split
  .rfl
  .split
   .rfl
   grind
theorem L5 : cC (outF ε i).2<=cC ε:=by
 grind[outF,cC,tc,L4,EN,oK]
theorem CG : iA (eo π i f).ai<=iA π.ai:=G3 U
theorem gP.cC (J:gP ε n e b aj): Am.cC aj<=Am.cC ε:=by
 have vF:∀ {cu:Pl},gO ε.1 cu->∀i,Am.cC (outF (cu,ε.2) i).2<=Am.cC ε:=λ{cu} I i=>by
  have:=L5 (ε:=(cu,ε.2)) (i:=i);refine b7 this ?_;simp only[Am.cC,I.count];exact az _
 cases J with
 |arg _=>simp
 |Cy i f h1 h2 hl hf =>
  grind[oK,Am.cC]
 |out cu i f h1 h2 hl I hf hh he=>grind
 |read cu i f h1 h2 hl I hf hh he J=>exact b7 (wq CG _) (vF I i)
 |bad cu i f h1 h2 hl I hf hh he J hc=>exact b7 (wq CG _) (vF I i)
 |load cu i f h1 h2 hl I hf hh he J hc=>exact b7 (wq (b7 (G3 U) CG) _) (vF I i)
theorem G4 : iA (unpinF π n).2.ai=iA π.ai:=by
 grind[unpinF,oK]
theorem o_.cC (I:o_ ε n e b aj): Am.cC aj<=Am.cC ε:=by
 cases I with
 |dead _=>simp
 |kP e b aj hd I he=>exact I.cC
 |A4 b aj hd I he=>have:=I.cC;grind[Am.cC,G4]
 |read b aj hd I he=>have:=I.cC;grind[Am.cC,G4]
theorem GRd.cC {cn:Bool}(I:GRd ε now cn n e b aj): Am.cC aj<=Am.cC ε:=by
 cases I with
 |arg _=>simp
 |cn _ _ _=>simp
 |own _ _ _ _ _=>simp
 |read e b aj h1 h2 J hl I=>exact I.cC
theorem xG.cC {cn:Bool}(I:xG ε now cn n b e dR aj): Am.cC aj<=Am.cC ε:=by
 cases I with
 |may e c aj I he=>exact I.cC
 |bad c aj I J=>exact I.cC
 |done c aj I J=>exact I.cC
inductive kD (now:List (Int×List Nat)): List Int->bn->Int->List cU->bn->Prop where
 |nil (ε:bn):kD now [] ε 0 [] ε
 |err (n:Int) (l:List Int) (ε:bn) (e:Int) (b:List Nat) (aj:bn) (hr:o_ ε n e b aj) (he:e≠0):kD now (n::l) ε e [] aj
 |part (n:Int) (l:List Int) (ε:bn) (gv b:List Nat) (aj:bn) (c:List cU) (e:Int) (cs:List cU) (nP:bn) (hr:o_ ε n 0 gv aj) (hb:lookL n now=some b) (hd:(lookL n aj.1.bI).isSome=true) (hc:TW n gv b c) (hl:c.length<=512) (ht:kD now l aj e cs nP):kD now (n::l) ε e (c++cs) nP
 |whole (n:Int) (l:List Int) (ε:bn) (gv b:List Nat) (aj:bn) (e:Int) (cs:List cU) (nP:bn) (hr:o_ ε n 0 gv aj) (hb:lookL n now=some b) (hd:(lookL n aj.1.bI).isSome=false) (ht:kD now l aj e cs nP):kD now (n::l) ε e (⟨n,0,true,b⟩::cs) nP
theorem kD.mQ {l:List Int}{cs:List cU}(I:kD now l ε e cs aj)(h:ja ε): ja aj:=by
 induction I with
 |nil ε=>exact h
 |err n l ε e b aj I he=>exact I.mQ h
 |part n l ε gv b aj c e cs J I hb hd hc hl ht ih=>exact ih (I.mQ h)
 |whole n l ε gv b aj e cs J I hb hd ht ih=>exact ih (I.mQ h)
theorem kD.cC {l:List Int}{cs:List cU}(I:kD now l ε e cs aj): Am.cC aj<=Am.cC ε:=by
 induction I with
 |nil ε=>simp
 |err n l ε e b aj I he=>exact I.cC
 |part n l ε gv b aj c e cs J I hb hd hc hl ht ih=>exact b7 ih I.cC
 |whole n l ε gv b aj e cs J I hb hd ht ih=>exact b7 ih I.cC
theorem IM {b:Nat}{v w:V}(h1:look E a=some v)(h2:look E b=some w): resLE P E h [.tmp a,.tmp b]=some (.aR [v,w]):=by grind[resLE,mapO,resE]
section
variable {told:bU} {p:Nat} {op v:V} {cn:Bool}
theorem FD (I:W told)(s:Sat h S): Call ⟨prog,told⟩ 107 [.map id] h λv h'=>∃b,v=.fn (.func 177) [] [.ptr b 0]/\Sat h' (pt b (.cells 1 [.map id] false)::S):=by
 exact Call.of_wp (I.free _ U) func107 U U (zg U<|aq.bG s U U U (c7 U U) (λp1 h s=>(zk 4 U (zo U (uK U U) (zk 2 U (zR U ⟨_,U,s⟩))))))
theorem CH (I:W told)(s:Sat h (fh g a now cn::S))(hm:now.length<=1048576)(hk:∀n∈now.map (·.1),(Lit.int .i64 n).wf=true):
  Call ⟨prog,told⟩ 92 [.ptr g 0] h λv h'=>Sat h' (.arr 1 v (d_ (bj now))::fh g a now cn::S):=by
 obtain⟨nv,s⟩:=fq.1 s;obtain⟨J,rfl⟩:=Cl s (j:=1) U;refine Call.of_wp (I.free _ U) func92 U U (zK 8 U (zY s 0 uh oX U (zc U (FD I s) ?_)));rintro v h ⟨b,rfl,s⟩;exact zc U (ve I (s.ae [0,1]) O hm hk) λkv h s=>zk 2 U (zR U ((fq.2 ⟨.map J,(s.ae [3,2,0]).del 3⟩).ae [1]))
noncomputable def cgL : Code:=aV [1,1,0,1,0,0] ((f103.body).getD .skip)
theorem L6 (hT:W told)(JE:ks.length<=65536)(CI:∀n∈ks,(lookL n now).isSome=true)(qD:∀e∈now,e.2.length=512): ∀(j i:Nat) (acc:List cU) (av:V) (cs:List V) (ε:bn) (h:H) (E:List (Nat×V)) (a8:Ex->List (Nat×V)->H->Prop),i+j=ks.length ->
  ja ε->cC ε<=268435456->acc.length<=512*i ->
  Sat h (.arr 4 av cs::c6 cs acc::fh g a now cn::dJ a p q r op data aF::dx r p q ε.1::bD q p ε.2.1::aS p ε.2.2::.arr 1 kv (d_ ks)::S) ->
  Has E [(0,.ptr g 0),(4,av),(13,kv),(14,.int .i64 ks.length),(15,.int .i64 i)] ->
  (∀e c aj E' h',kD now (ks.drop i) ε e c aj->e≠0->look E' 2=some .aP->look E' 3=some (.int .i64 e)->Sat h' (fh g a now cn::dJ a p q r op data aF::dx r p q aj.1::bD q p aj.2.1::aS p aj.2.2::S)->a8 .ret E' h') ->
  (∀c aj E' h' qA cs',kD now (ks.drop i) ε 0 c aj->acc.length+c.length<=512*ks.length->Has E' [(4,qA)]->Sat h' (.arr 4 qA cs'::c6 cs' (acc++c)::fh g a now cn::dJ a p q r op data aF::dx r p q aj.1::bD q p aj.2.1::aS p aj.2.2::S)->a8 (.exit 0) E' h') ->
  WP ⟨prog,told⟩ 65 (.loop cgL) E h a8:=by
 intro j;induction j with
 |zero =>
  refine λi acc av cs ε h E a8 hj kQ hw hac s hE hr hx=>WP.loop (WP.has hE (zg U (zC U aG Q<|zk 3 U (WP.exit ?_))));rw[mA Y] at hx;have s1:=s.del 7;dsimp only[aB] at s1;refine hx [] ε _ _ av cs (.nil ε) Q ⟨U,aa⟩ ?_;rw[fZ];exact s1
 |succ j ih =>
  intro i acc av cs ε h E a8 hj kQ hw hac s hE hr hx;have hn:ks[i]?=some (ks[i]' Y):=aI _;have H9:ks[i]' Y∈ks:=zW _;have oY:ks.drop i=ks[i]' Y::ks.drop (i+1):=Di Y;generalize (ks[i]' Y)=n at hn H9 oY;have hc:(d_ ks)[i]?=some (.int .i64 n):=by simp[d_,hn]
  obtain⟨b,hb⟩:=Option.isSome_iff_exists.1 (CI n H9);have KI:=qD _ (j7 hb);simp only at KI;rw[oY] at hr hx;obtain⟨id,off,e1,e2⟩:=dB (P:=prog) s (k:=7) U hc dN kr;refine WP.loop (WP.has hE (zg U (zB U aG Q<|zk 5 U (WP.block (zg U (zo U (aJ (.ptr id off) U U e1) (zl U (e2 _ cW) ?_)))))));obtain⟨nv,s⟩:=fq.1 (s.ae [2]);dsimp only[bringA,getA,aB] at s;refine zk 6 U (zY s 0 rW nr U (zm U (zc U (FB (n:=n) hT (s.ae [4,4,4,4]) kQ.ok kQ.pins (b7 uB hw)) ?_)));rintro v h ⟨e,w,aj,J,(⟨he,rfl,s⟩|⟨rfl,u,rfl,s⟩)⟩
  .dsimp only[bringA,getA,aB] at s;refine zk 10 U (zB U aE Q<|zk 8 U (WP.ret (hr e [] aj _ _ (.err n _ ε e w aj J he) he U U ?_)));have s:=fq.2 ⟨nv,s.ae [4,4]⟩;dsimp only[bringA,getA,aB] at s;exact((s.del 7).del 6).del 5
  .dsimp only[bringA,getA,aB] at s;have T0:=J.mQ kQ;have xq:=b7 J.cC hw;have hlen:=J.len kQ;refine zk 10 U (zC U aE U ?_);have s:=s.ic;have s:=s.ae [5,5,1,1,1,1,1,1,1,0];dsimp only[bringA,getA,aB] at s;rcases lC (n:=n) (λ_ _=>bg.dL _ _) (s.ae [1]) qQ bB vE with⟨g1,g2,_⟩|⟨nw,b',g1,_,g2,s2⟩
   .grind
   rw[hb] at g1;have:=fY g1;subst this;refine zk 7 U (zY s 0 uh oX U (zm U (zo U (e_ U U g2) ?_)));obtain⟨dv,s⟩:=bV.1 (s2.ae [3]);dsimp only[bringA,getA,aB] at s;have s:=s.ae [4];dsimp only[bringA,getA,aB] at s;refine zk 6 U (zY s 0 rW nr U (zn U (zY s 1 ql vZ U (zm U (zc U (ady (n:=n) hT (s.ae [5])) ?_)))));rintro v h ⟨rfl,s⟩;dsimp only[bringA,getA,aB] at s;refine zk 10 U ?_;cases hd:(lookL n aj.1.bI).isSome with
   |true =>
    refine zK 6 U (zc U (TY hT (u:=u) (v:=nw) (pg:=n) (s.ae [11,4]) (fX _ _) (fX _ _) hlen KI) ?_);rintro rv h ⟨rcs,c,hc,jE,s⟩;dsimp only[bringA,getA,aB] at s;obtain⟨i1,gD,fH,gu⟩:=xH;have Xx:cs.length=acc.length*4:=by
     obtain⟨a,b,q1,q2,q3⟩:=s.at (k:=12) U;exact pM q3
    have aiK:rcs.length=c.length*4:=by
     obtain⟨a,b,q1,q2,q3⟩:=s.at (k:=1) U;exact pM q3
    obtain⟨qA,h2,tg,s2⟩:=dV (s.ae [11,0]) js gD qm fH Y U O Y;dsimp only[bringA,getA,aB] at s2;refine aq.any U U U (OpR.of (R:=λv h'=>v=qA/\h'=h2) (fN U U tg) ⟨U,U⟩) ?_;rintro v' h' ⟨rfl,rfl⟩;refine za U (zv (zr U (zb U (by exact aT ay)<|zm U (zv ?_))));have s3:Sat _ (c6 cs acc::c6 rcs c::_):=s2.ae [12,2];have s4:=s3.two (C:=c6 (cs++rcs) (acc++c)) (bg.qz _ _) (bg.qz _ _) λa b q1 q2=>A3 q1 q2;dsimp only[bringA,getA,aB] at s4;have s5:=bV.2 ⟨dv,s4.ae [7,7]⟩;dsimp only[bringA,getA,aB] at s5;have s6:=fq.2 ⟨nv,s5.ae [7,7]⟩;dsimp only[bringA,getA,aB] at s6;have s7:=(((s6.ae [3,2,0,0,3,3,3,3]).del 10).del 9).del 8;dsimp only[bringA,getA,aB] at s7;refine ih (i+1) (acc++c) _ _ aj _ _ a8 Y T0 xq Q s7 ⟨U,U,U,U,U,aa⟩ (λe c' I E' h' ht he l2 l3 s'=>?_) (λc' I E' h' Xy Xz ht hl fg s'=>?_)
    .exact hr e _ I E' h' (.part n _ ε w b aj c e c' I J hb hd hc jE ht) he l2 l3 s'
    .refine hx (c++c') I E' h' Xy Xz (.part n _ ε w b aj c 0 c' I J hb hd hc jE ht) Q fg ?_<;>grind
   |false =>
    refine zK 5 U (zc U (qo hT (s.ae [4]) (fX _ _) Y) λcw h s=>?_);dsimp only[bringA,getA,aB] at s;obtain⟨wid,_,XA,_,rfl,_⟩:=s.g8 Y;have s:=s.ic;refine zo U (cE U (by rw[QN];rfl)) ?_;obtain⟨rv,h1,vb,s1⟩:=fP prog (k:=4) (x:=.agg [.int .i64 n,.int .i64 0,.bool true,.sl wid 0 b.length XA]) s js qm sS U O O U U;dsimp only[V.cells] at s1;refine aq.any U U U (OpR.of (R:=λv h'=>v=rv/\h'=h1) (jj U vb) ⟨U,U⟩) ?_;rintro v' h' ⟨rfl,rfl⟩;obtain⟨i1,gD,fH,gu⟩:=xH;have Xx:cs.length=acc.length*4:=by
     obtain⟨a,b,q1,q2,q3⟩:=s1.at (k:=11) U;exact pM q3
    obtain⟨qA,h2,tg,s2⟩:=dV (s1.ae [10,0]) js gD qm fH Y U O Q;dsimp only[bringA,getA,aB] at s2;refine aq.any U U U (OpR.of (R:=λv h'=>v=qA/\h'=h2) (fN U U tg) ⟨U,U⟩) ?_;rintro v' h' ⟨rfl,rfl⟩;refine za U (zv (zr U (zb U (by exact aT ay)<|zm U (zv ?_))));have s3:Sat _ (c6 cs acc::.dL (.sl wid 0 b.length XA) b::_):=s2.ae [11,2];have s4:=s3.two (C:=c6 (cs++[.int .i64 n,.int .i64 0,.bool true,.sl wid 0 b.length XA]) (acc++[⟨n,0,true,b⟩])) (bg.qz _ _) (bg.dL _ _) λa b q1 q2=>A3 q1 ⟨⟨⟨U,U,U⟩,q2⟩,aa⟩;have s5:=bV.2 ⟨dv,s4.ae [6,6]⟩;have s6:=fq.2 ⟨nv,s5.ae [6,6]⟩;have s7:=(((s6.ae [3,2,0,0,2,2,2,2]).del 10).del 9).del 8;dsimp only[bringA,getA,aB] at s7;refine ih (i+1) (acc++[⟨n,0,true,b⟩]) _ _ aj _ _ a8 Y T0 xq Q s7 ⟨U,U,U,U,U,aa⟩ (λe c' I E' h' ht he l2 l3 s'=>?_) (λc' I E' h' Xy Xz ht hl fg s'=>?_)
    .exact hr e _ I E' h' (.whole n _ ε w b aj e c' I J hb hd ht) he l2 l3 s'
    .refine hx (⟨n,0,true,b⟩::c') I E' h' Xy Xz (.whole n _ ε w b aj 0 c' I J hb hd ht) Q fg ?_<;>grind
theorem G5 (J:W told)(s:Sat h (fh g a now cn::dJ a p q r op data aF::dx r p q ε.1::bD q p ε.2.1::aS p ε.2.2::S))(kQ:ja ε)(hw:cC ε<=268435456)(I:∀e∈now,e.2.length=512)(hm:now.length<=65536)(hk:∀n∈now.map (·.1),(Lit.int .i64 n).wf=true):
  Call ⟨prog,told⟩ 103 [.ptr g 0] h λv h'=>∃e c aj,kD now (bj now) ε e c aj /\
   ((e≠0/\v=.aR [.aP,.int .i64 e]/\Sat h' (fh g a now cn::dJ a p q r op data aF::dx r p q aj.1::bD q p aj.2.1::aS p aj.2.2::S)) \/
    (e=0/\c.length<=33554432/\∃av cs,v=.aR [av,.int .i64 0]/\Sat h' (.arr 4 av cs::c6 cs c::fh g a now cn::dJ a p q r op data aF::dx r p q aj.1::bD q p aj.2.1::aS p aj.2.2::S))):=by
 have hl:(bj now).length=now.length:=by rw[bj,(fB _).length_eq,cL]
 refine Call.of_wp (J.free _ U) func103 U U (zK 13 U (zc U (CH J s Y hk) λkv h s=>zo U (aO U U U (s.fo ((bj now).length) (j:=0) U (by simp[d_]) O dN))<|zk 2 U (WP.block ?_)));have s1:=(((s.eF aa).jr (k:=4)).iX λa b q=>q).ae [0,0,1,1,1,1,1,0];refine L6 J (ks:=bj now) (now:=now) Y (λn hn=>?_) I (bj now).length 0 [] .aP [] ε _ _ _ Y kQ hw cb s1 ⟨U,U,U,U,U,aa⟩ (λe c aj E' h' hr he l2 l3 s'=>?_) (λc aj E' h' av cs hr jE fg s'=>?_)
 .have:n∈now.map (·.1):=(fB _).mem_iff.1 hn;cases hq:lookL n now<;>grind[kX]
 .exact⟨aa,_,IM l2 l3,e,c,aj,hr,.inl ⟨he,U,s'⟩⟩
 .have s:=s';exact WP.has fg (zK 6 U (zR U ⟨0,c,aj,hr,.inr ⟨U,Y,_,_,U,s⟩⟩))
end
theorem CJ {n:Nat}(I:cH b=true): (dW b n).length=512:=by
 grind[A1,iU,dW,dH,dI]
def k9 (π:Pl)(n:Int)(b:List Nat)(aL:Nat): Int×Pl :=
 (if (oc π n b aL).1=0 then(unpinF (oc π n b aL).2 n).1 else(oc π n b aL).1,(unpinF (oc π n b aL).2 n).2)
def FE (π:Pl)(n:Int)(i:Nat)(f:Fm)(b:List Nat)(aL:Nat): Pl :=
 { π with ai:=π.ai.set i { f with b:=dW b aL,changed:=true,pins:=0 },bI:=dM n (dirtOf π n aL,true) π.bI }
theorem A7 (I:lookL n π.aM=some (i:Int))(J:π.ai[i]?=some f)(hp:f.pins=1)(hg:cH b=true): k9 π n b aL=(0,FE π n i f b aL):=by
 have h1:=(xF I J hp).1;have hi:=(List.getElem?_eq_some_iff.1 J).1;have e1:oc π n b aL=(0,{ π with ai:=π.ai.set i { f with b:=dW b aL,changed:=true },bI:=dM n (dirtOf π n aL,true) π.bI }):=by
  grind[oc]
 have e2:=(xF (π:={ π with ai:=π.ai.set i { f with b:=dW b aL,changed:=true },bI:=dM n (dirtOf π n aL,true) π.bI }) (n:=n) (f:={ f with b:=dW b aL,changed:=true }) I (mB hi) hp).2;simp only[k9,e1,e2,cZ,List.set_set];rfl
theorem T1 (I:lookL n π.aM=some (i:Int))(J:π.ai[i]?=some f)(hp:f.pins=1)(hg:cH b=false): k9 π n b aL=(4,{ π with ai:=π.ai.set i { f with pins:=0 } }):=by
 have h1:=(xF I J hp).1;grind[oc,xF,k9]
theorem abj (h:π.Ok): (oc π n b aL).2.Ok:=by
 unfold oc;split
 .exact h
 .split
  .exact h
  .rename_i f I;have hm:=bz I;split
   .exact h
   .rename_i J;have J:cH b=true:=Q;exact h.set h.aM (by grind[CJ]) (h.pins f hm)
theorem gP.put {b0:List Nat}(hr:gP ε n 0 b0 aj)(h:ja ε): ja ((k9 aj.1 n b aL).2,aj.2)/\Am.cC ((k9 aj.1 n b aL).2,aj.2)<=Am.cC ε+1/\(cH b=true->(k9 aj.1 n b aL).1=0):=by
 have I:=hr.ok h.ok h.pins;have J:=(hr.full h.ok.dk h.full).1;obtain⟨i,f,h1,h2,h3,h4,h5⟩:=hr.at h.pins;have hm:=bz h2;have CL:=hr.cC;cases hg:cH b with
 |true =>
  rw[A7 h1 h2 h3 hg];refine⟨⟨⟨I.pl.set I.pl.aM (by grind[CJ]) cb,I.lg,I.dk⟩,h5 _ U,J.set h2 U λ_=>CJ hg⟩,?_,λ_=>U⟩;have h6:=oK (g:={ f with b:=dW b aL,changed:=true,pins:=0 }) h2;grind[Am.cC,FE]
 |false =>
  rw[T1 h1 h2 h3 hg];refine⟨⟨⟨I.pl.set I.pl.aM (I.pl.len f hm) cb,I.lg,I.dk⟩,h5 _ U,J.set h2 U λhl=>hl⟩,?_,λh=>by cases h⟩<;>grind[oK,Am.cC]
inductive PtR (now:List (Int×List Nat))(aL:Nat): List Int->bn->Int->bn->Prop where
 |nil (ε:bn):PtR now aL [] ε 0 ε
 |kP (n:Int) (l:List Int) (ε:bn) (e:Int) (b:List Nat) (aj:bn) (hr:gP ε n e b aj) (he:e≠0):PtR now aL (n::l) ε e aj
 |bad (n:Int) (l:List Int) (ε:bn) (b0 b:List Nat) (aj:bn) (hr:gP ε n 0 b0 aj) (hb:lookL n now=some b) (he:(k9 aj.1 n b aL).1≠0):PtR now aL (n::l) ε (k9 aj.1 n b aL).1 ((k9 aj.1 n b aL).2,aj.2)
 |put (n:Int) (l:List Int) (ε:bn) (b0 b:List Nat) (aj:bn) (e:Int) (nP:bn) (hr:gP ε n 0 b0 aj) (hb:lookL n now=some b) (he:(k9 aj.1 n b aL).1=0) (ht:PtR now aL l ((k9 aj.1 n b aL).2,aj.2) e nP):PtR now aL (n::l) ε e nP
theorem PtR.mQ {l:List Int}(I:PtR now aL l ε e aj)(h:ja ε): ja aj:=by
 induction I with
 |nil ε=>exact h
 |kP n l ε e b aj I he=>exact⟨I.ok h.ok h.pins,I.Pp he h.pins,(I.full h.ok.dk h.full).1⟩
 |bad n l ε b0 b aj I hb he=>exact(I.put h).1
 |put n l ε b0 b aj e J I hb he ht ih=>exact ih (I.put h).1
theorem PtR.cC {l:List Int}(I:PtR now aL l ε e aj)(h:ja ε): Am.cC aj<=Am.cC ε+l.length:=by
 induction I with
 |nil ε=>simp
 |kP n l ε e b aj I he=>have:=I.cC;omega
 |bad n l ε b0 b aj I hb he=>have:=(I.put (b:=b) (aL:=aL) h).2.1;simp only[cK];omega
 |put n l ε b0 b aj e J I hb he ht ih=>have h1:=ih (I.put h).1;have:=(I.put (b:=b) (aL:=aL) h).2.1;simp only[cK];omega
theorem afz {k:IntKind}{z:V}(I:T.get h.tr id=some (.map (es.map ou) c))(he:lookE n es=some u)(hu:prog.underlying t=some (.map kt et))(J:prog.underlying kt=some (.int k))(hz:zeroT prog et=some z):
  eO prog h t (.map id) (.int .i64 n) false=some u:=by
 have hi:=u7 (n:=n) es 0;simp only[eO,lookupV,hu,J,hz,I,keyBeq,eS,ak,wT];cases hq:idxE n es 0<;>grind
section
variable {told:bU} {p:Nat} {op v:V} {cn:Bool}
noncomputable def dnL : Code:=aV [1,1,1,1,1,1,1,1,0,1,0,0] ((f50.body).getD .skip)
theorem T2 (hT:W told){dv:V}{Aw:Nat}(JE:ks.length<=65536)(CI:∀n∈ks,(lookL n now).isSome=true)(qD:∀e∈now,e.2.length=512): ∀(j i:Nat) (ε:bn) (h:H) (E:List (Nat×V)) (a8:Ex->List (Nat×V)->H->Prop),i+j=ks.length ->
  ja ε->cC ε+j<=268435456 ->
  Sat h (pt g (.cells 3 [.ptr a 0,.map Aw,.bool cn] false)::uw Aw es c::fQ (λv b=>.dL v b) es now::pt a (.cells 6 (G1 a p q r op dv aF) false)::dx r p q ε.1::bD q p ε.2.1::aS p ε.2.2::.arr 1 kv (d_ ks)::S) ->
  Has E [(0,.ptr g 0),(6,.ptr a 0),(8,.int .u64 (aL:Int)),(73,kv),(74,.int .i64 ks.length),(75,.int .i64 i)] ->
  (∀e aj E' h',PtR now aL (ks.drop i) ε e aj->e≠0->look E' 4=some (.int .u64 0)->look E' 5=some (.int .i64 e)->Sat h' (pt g (.cells 3 [.ptr a 0,.map Aw,.bool cn] false)::uw Aw es c::fQ (λv b=>.dL v b) es now::pt a (.cells 6 (G1 a p q r op dv aF) false)::dx r p q aj.1::bD q p aj.2.1::aS p aj.2.2::S)->a8 .ret E' h') ->
  (∀aj E' h',PtR now aL (ks.drop i) ε 0 aj->Has E' [(8,.int .u64 (aL:Int))]->Sat h' (pt g (.cells 3 [.ptr a 0,.map Aw,.bool cn] false)::uw Aw es c::fQ (λv b=>.dL v b) es now::pt a (.cells 6 (G1 a p q r op dv aF) false)::dx r p q aj.1::bD q p aj.2.1::aS p aj.2.2::S)->a8 (.exit 1) E' h') ->
  WP ⟨prog,told⟩ 118 (.loop dnL) E h a8:=by
 intro j;induction j with
 |zero =>
  refine λi ε h E a8 hj I hw s hE hr hx=>WP.loop (WP.has hE (zg U (zC U aG Q<|zk 3 U (WP.exit ?_))));rw[mA Y] at hx;exact hx ε _ _ (.nil ε) ⟨U,aa⟩ (s.del 7)
 |succ j ih =>
  intro i ε h E a8 hj I hw s hE hr hx;have hn:ks[i]?=some (ks[i]' Y):=aI _;have H9:ks[i]' Y∈ks:=zW _;have oY:ks.drop i=ks[i]' Y::ks.drop (i+1):=Di Y;generalize (ks[i]' Y)=n at hn H9 oY;have hc:(d_ ks)[i]?=some (.int .i64 n):=by simp[d_,hn]
  obtain⟨b,hb⟩:=Option.isSome_iff_exists.1 (CI n H9);have KI:=qD _ (j7 hb);simp only at KI;rw[oY] at hr hx;obtain⟨id,off,e1,e2⟩:=dB (P:=prog) s (k:=7) U hc dN kr;refine WP.loop (WP.has hE (zg U (zB U aG Q<|zk 5 U (WP.block (zg U (zo U (aJ (.ptr id off) U U e1) (zl U (e2 _ cW) (zk 7 U (zY s 3 ql vZ U (zm U (zc U (TI (n:=n) hT (s.ae [4,4,4]) I.ok.pl I.pins I.ok.lg I.ok.dk (by grind[uB])) ?_)))))))))));rintro v h ⟨e,b0,aj,L7,(⟨he,rfl,s⟩|⟨rfl,u0,rfl,s⟩)⟩
  .dsimp only[bringA,getA,aB] at s;exact zk 9 U (zB U aE Q<|zk 8 U (WP.ret (hr e aj _ _ (.kP n _ ε e b0 aj L7 he) he U U ((s.ae [3,3,3,3,0,0,0]).del 7))))
  .dsimp only[bringA,getA,aB] at s;have s:=s.drop;have adE:=L7.put (b:=b) (aL:=aL) I;have kB:=L7.ok I.ok I.pins;refine zk 9 U (zC U aE U (zk 4 U ?_));have s1:Sat h (fQ (λv b=>.dL v b) es now::_):=s.ae [5];obtain⟨_,_,_,_,q3⟩:=s1.at (k:=0) U;rcases v_ (n:=n) q3 with⟨_,q4⟩|⟨u,b',g1,g2,_⟩
   .grind
   rw[hb] at g2;have:=fY g2;subst this;have s2:=(s1.dup (bg.QX (λ_ _=>bg.dL _ _) _ _)).iX (B:=.dL u b) λa' b' h'=>by
    grind[v_]
   dsimp only[bringA,getA,aB] at s2;obtain⟨uid,aiL,aiM,rfl⟩:=jf (s2.aQ 0 U (fX _ _));have s:=s2.ae [2,0];dsimp only[bringA,getA,aB] at s;have s0:=s;refine WP.drawn [af,af,af,af,af,af,af,af,af,af,af,af,af,af] U bo bo<|zM U (zN U (zF U (ql _ _) (zL U (s.ld 7 U vZ U) (zM U (zM U (zN U (zF U (uh _ _) (zL U (s.ld 5 U oX U) (zM U (zO U (e_ U U (afz (s.row (k:=6) U) g1 qQ bB vE)) (zM U (ah.any U U U U (OpR.call U U U U (aa8 (n:=n) (aL:=aL) (b:=b) hT s (fX _ _) kB.pl Y)) ?_))))))))))));rintro v h ⟨rfl,s⟩;refine zA U<|ah.nil ⟨(dq 15),zK 5 U (zY s 7 ql vZ U (zm U (zc U (LV (n:=n) hT s (abj kB.pl)) ?_)))⟩;rintro v h ⟨rfl,s⟩;refine zk 5 U ?_;by_cases hg:(oc aj.1 n b aL).1=0
   .have ZP:(k9 aj.1 n b aL).1=(unpinF (oc aj.1 n b aL).2 n).1:=by simp only[k9,hg,cZ]
    have Ct:(k9 aj.1 n b aL).2=(unpinF (oc aj.1 n b aL).2 n).2:=rfl;rw[<-ZP,<-Ct] at *;refine zB U bH Q<|zk 9 U ?_;by_cases he:(k9 aj.1 n b aL).1=0
    .skip;refine zC U aE Q<|zv (zj U (WP.skip (zr U (zb U (by exact aT ay)<|zm U (zv ?_)))));have s9:=(s.ae [5,5,2,4,0,1,1,1]).del 8;refine ih (i+1) ((k9 aj.1 n b aL).2,aj.2) _ _ a8 Y adE.1 Q s9 ⟨U,U,U,U,U,U,aa⟩ (λe J E' h' ht Ag l4 l5 s'=>?_) (λJ E' h' ht fg s'=>?_)
     .exact hr e J E' h' (.put n _ ε b0 b aj e J L7 hb he ht) Ag l4 l5 s'
     .exact hx J E' h' (.put n _ ε b0 b aj 0 J L7 hb he ht) fg s'
    .skip;exact zB U aE Q<|zk 8 U (WP.ret (hr _ _ _ _ (.bad n _ ε b0 b aj L7 hb he) he U U (((s.ae [5,5,2,4,0,1,1,1]).del 8).del 7)))
   .have ZP:(k9 aj.1 n b aL).1=(oc aj.1 n b aL).1:=by grind[k9]
    rw[<-ZP] at hg;exact zC U bH Q<|zk 6 U (zB U aE Q<|zk 8 U (WP.ret (hr _ _ _ _ (.bad n _ ε b0 b aj L7 hb hg) hg U (by rw[ZP];rfl)<|((s.ae [5,5,2,4,0,1,1,1]).del 8).del 7)))
end
theorem BF.fit {now:List Nat}{l:List cU}(I:BF pg gv now i l)(hn:now.length=512)(h0:0<=pg)(h1:pg<65536): ∀c∈l,c.Ok/\c.b.length<=512:=by
 induction I with
 |done i h=>simp
 |skip i l h he I J=>exact J
 |take i e l h2 h3 _ _ I J =>
  intro c hc;rcases List.mem_cons.1 hc with rfl|hc
  .have hl:((now.take e).drop i).length=e-i:=Q;refine⟨⟨h0,h1,cb,Q,Q,cb⟩,Q⟩
  .grind
theorem TW.fit {now:List Nat}{l:List cU}(J:TW pg gv now l)(hn:now.length=512)(I:0<=pg)(h1:pg<65536): ∀c∈l,c.Ok/\c.b.length<=512:=by
 obtain⟨m,h2,rfl⟩:=J;split
 .intro c hc;rw[List.mem_singleton.1 hc];exact⟨⟨I,h1,cb,cb,cb,cb⟩,cb⟩
 .exact h2.fit hn I h1
theorem kD.fit {l:List Int}{cs:List cU}(hr:kD now l ε e cs aj)(I:∀x∈now,x.2.length=512)(hl:∀n∈l,0<=n/\n<65536): ∀c∈cs,c.Ok/\c.b.length<=512:=by
 induction hr with
 |nil ε=>simp
 |err n l ε e b aj hr he=>simp
 |part n l ε gv b aj c e cs nP hr hb hd hc jE ht ih =>
  intro x J;have hn:=hl n iu;rcases List.mem_append.1 J with J|J
  .exact hc.fit (I _ (j7 hb)) hn.1 hn.2 x J
  simp_all
 |whole n l ε gv b aj e cs nP hr hb hd ht ih =>
  intro x J;have hn:=hl n iu;have hb:=I _ (j7 hb);rcases List.mem_cons.1 J with rfl|J
  .exact⟨⟨hn.1,hn.2,cb,cb,Q,λ_=>⟨U,hb⟩⟩,Q⟩
  .simp_all
theorem JJ : ∀(f n:Nat),(digits f n).length<=f+1:=by
 intro f;induction f<;>grind[digits]
theorem adF {c:cU}(I:c.b.length<=512): (kZ c).length<=543:=by
 grind[JJ,kZ]
theorem abk : ∀ {l:List cU},(∀c∈l,c.b.length<=512)->(l.flatMap kZ).length<=543*l.length:=by
 intro l;induction l<;>grind[adF]
theorem Pq {l:List cU}(hl:l.length<=33554432)(h:∀c∈l,c.Ok/\c.b.length<=512)(J:tx<18446744073709551616)(si:pv<18446744073709551616)(kC:nx<18446744073709551616)(hd:data.length<=35184372088832): GU tx pv nx data l:=by
 have h2:=abk λc I=>(h c I).2;refine⟨⟨Y,λc I=>by have:=(h c I).2;omega,λc I=>?_⟩,J,si,kC,Y⟩<;>grind[cU.Ok]
theorem FF {l:List cU}{kd:Int}(I:1<=kd/\kd<=9)(h:∀c∈l,c.Ok/\c.b.length<=512): eH kd l=true:=by
 grind[eH]
inductive DnR (ε:bn)(now:List (Int×List Nat))(kd:Int)(tx pv nx:Nat)(data:List Nat)(tv:Nat): Nat->Int->Bool->bn->Prop where
 |arg (h:¬(1<=kd/\kd<=7)\/0<tv):DnR ε now kd tx pv nx data tv 0 1 false ε
 |dead (h1:1<=kd) (h2:kd<=7) (h3:tv=0) (h:ε.2.2.dead=true):DnR ε now kd tx pv nx data tv 0 9 false ε
 |qz (e:Int) (c:List cU) (aj:bn) (h1:1<=kd) (h2:kd<=7) (h3:tv=0) (h:ε.2.2.dead=false) (hc:kD now (bj now) ε e c aj) (he:e≠0):DnR ε now kd tx pv nx data tv 0 e false aj
 |app (c:List cU) (aj:bn) (h1:1<=kd) (h2:kd<=7) (h3:tv=0) (h:ε.2.2.dead=false) (hc:kD now (bj now) ε 0 c aj) (he:(bx aj.2 kd tx pv nx data c).1.2≠0):DnR ε now kd tx pv nx data tv 0 (bx aj.2 kd tx pv nx data c).1.2 false (aj.1,(bx aj.2 kd tx pv nx data c).2)
 |put (c:List cU) (aj:bn) (e:Int) (nP:bn) (h1:1<=kd) (h2:kd<=7) (h3:tv=0) (h:ε.2.2.dead=false) (hc:kD now (bj now) ε 0 c aj) (ha:(bx aj.2 kd tx pv nx data c).1.2=0) (hp:PtR now (bx aj.2 kd tx pv nx data c).1.1 (bj now) (aj.1,(bx aj.2 kd tx pv nx data c).2) e nP) :
   DnR ε now kd tx pv nx data tv (if e=0 then(bx aj.2 kd tx pv nx data c).1.1 else 0) e true nP
structure yD (ε aj:bn): Prop where
 base:aj.2.1.base=ε.2.1.base
 b:aj.2.1.b=ε.2.1.b
 br:aj.2.1.br=ε.2.1.br
 check:aj.2.1.check=ε.2.1.check
 log:aj.2.2.log=ε.2.2.log
 room:aj.2.2.room=ε.2.2.room
 aU:aj.2.2.aU=ε.2.2.aU
theorem yD.refl (ε:bn): yD ε ε:=⟨U,U,U,U,U,U,U⟩
theorem yD.trans {a b c:bn}(x:yD a b)(y:yD b c): yD a c :=
 ⟨y.base.trans x.base,y.b.trans x.b,y.br.trans x.br,y.check.trans x.check,y.log.trans x.log,y.room.trans x.room,y.aU.trans x.aU⟩
theorem qv : δ.gR.2.log=δ.log/\δ.gR.2.room=δ.room/\δ.gR.2.aU=δ.aU:=by
 unfold Dk.gR;split
 .simp
 .split<;>exact⟨U,U,U⟩
theorem A8 : (δ.dY n b).2.log=δ.log/\(δ.dY n b).2.room=δ.room/\(δ.dY n b).2.aU=δ.aU:=by
 unfold Dk.dY;split
 .simp
 .split
  .simp
  .split<;>exact⟨U,U,U⟩
theorem CM {x:LD}{n:Nat}: yD (π,x) (π,(bL x n).2):=by
 unfold bL;split
 .exact yD.refl _
 .split
  .exact⟨U,U,U,U,qv.1,qv.2.1,qv.2.2⟩
  .exact⟨U,U,U,U,qv.1,qv.2.1,qv.2.2⟩
theorem yD.to (h:yD ε aj): yD ε (π,aj.2):=⟨h.base,h.b,h.br,h.check,h.log,h.room,h.aU⟩
structure nF (R:LD->Prop): Prop where
 force:∀(x:LD) (n:Nat),R x->R (bL x n).2
 write:∀(x:LD) (n:Int) (b:List Nat),R x->R (x.1,(x.2.dY n b).2)
section
variable {cn:Bool} {l:List Int} {cs:List cU}
theorem nF.out (h:nF R)(I:R ε.2): R (outF ε i).2.2:=by
 unfold outF;split
 .exact I
 .split
  .exact I
  .split
   .exact I
   .split
    .exact h.force _ _ I
    .split
     .exact h.write _ _ _ (h.force _ _ I)
     .exact h.write _ _ _ (h.force _ _ I)
theorem nF.kP (h:nF R)(I:gP ε n e b aj)(J:R ε.2): R aj.2:=by
 cases I<;>grind[out]
theorem nF.rd (h:nF R)(I:o_ ε n e b aj)(J:R ε.2): R aj.2:=by
 cases I<;>grind[kP]
theorem nF.CN (h:nF R)(J:GRd ε now cn n e b aj)(I:R ε.2): R aj.2:=by
 cases J with
 |arg hn=>exact I
 |cn _ _ _=>exact I
 |own b h1 h2 _ hl=>exact I
 |read e b aj h1 h2 _ hl J=>exact h.rd J I
theorem nF.T3 (h:nF R)(I:xG ε now cn n b e dR aj)(J:R ε.2): R aj.2:=by
 cases I with
 |may e c aj I he=>exact h.CN I J
 |bad c aj I hg=>exact h.CN I J
 |done c aj I hg=>exact h.CN I J
theorem nF.ch (h:nF R)(I:kD now l ε e cs aj): R ε.2->R aj.2:=by
 induction I with
 |nil ε=>simp
 |err n l ε e b aj I he=>exact h.rd I
 |part n l ε gv b aj c e cs J I hb hd hc jE ht ih=>exact λhx=>ih (h.rd I hx)
 |whole n l ε gv b aj e cs J I hb hd ht ih=>exact λhx=>ih (h.rd I hx)
theorem nF.pt (h:nF R)(I:PtR now aL l ε e aj): R ε.2->R aj.2:=by
 induction I<;>grind[kP]
theorem T4 (ε:bn): nF λy=>yD ε (ε.1,y) :=
 ⟨λ_ _ h=>h.trans CM,λ_ _ _ h=>h.trans ⟨U,U,U,U,A8.1,A8.2.1,A8.2.2⟩⟩
theorem kD.same (I:kD now l ε e cs aj): yD ε aj:=((T4 ε).ch I (yD.refl ε)).to
end
theorem XB {m:Nat}: ∀ {l:List Nat},l.Pairwise (· < ·)->(∀s∈l,s<m)->l.length<=m:=by
 intro l I J;have key:∀(l:List Nat) (k:Nat),l.Pairwise (· < ·)->(∀s∈l,k<=s/\s<m)->k+l.length<=m\/l=[]:=by
  intro l;induction l with
  |nil=>simp
  |cons x l ih =>
   intro k I J;simp only[List.pairwise_cons] at I;have hx:=J x iu;rcases ih (x+1) I.2 (λs hs=>⟨I.1 s hs,(J s (ki _ hs)).2⟩) with h|rfl<;>grind
 rcases key l 0 I (λs hs=>⟨dz _,J s hs⟩) with h|rfl
 .omega
 .simp
theorem jh (x:LD)(kd:Int)(tx pv nx:Nat)(data:List Nat)(c:List cU):
  (∃e:Int,e≠0/\((e=1/\eH kd c=false)\/(e=2/\1048576<(cV kd tx pv nx data c).length)\/(e=9/\x.2.dead=true)\/(e=7/\x.2.room<x.2.log.length+(dZ x.1 kd tx pv nx data c).length))/\bx x kd tx pv nx data c=((0,e),x)) \/
  (x.2.dead=false/\x.2.a_=0/\bx x kd tx pv nx data c=((0,9),(x.1,{ x.2.die with tail:=dZ x.1 kd tx pv nx data c }))) \/
  (eH kd c=true/\(cV kd tx pv nx data c).length<=1048576/\x.2.dead=false/\x.2.log.length+(dZ x.1 kd tx pv nx data c).length<=x.2.room/\x.2.a_≠0 /\
   bx x kd tx pv nx data c=((x.1.base+x.1.b.length,0),(x.1.app (dZ x.1 kd tx pv nx data c),{ x.2.bZ with log:=x.2.log++dZ x.1 kd tx pv nx data c }))):=by
 by_cases I:eH kd c=false
 .grind[bx]
 .by_cases J:1048576<(cV kd tx pv nx data c).length
  .grind[bx]
  .by_cases hd:x.2.dead=true
   .grind[Dk.uz,bx]
   grind[Dk.uz,bx]
theorem yU {x:LD}{kd:Int}{c:List cU}(J:x.1.Ok)(I:x.2.Ok)(hs:x.1.b=x.2.log)(hz:x.1.base+x.1.b.length+1048584<=1099511627776):
  (bx x kd tx pv nx data c).2.1.Ok/\(bx x kd tx pv nx data c).2.2.Ok/\(bx x kd tx pv nx data c).2.1.b=(bx x kd tx pv nx data c).2.2.log/\(bx x kd tx pv nx data c).2.1.base=x.1.base/\(bx x kd tx pv nx data c).2.1.b.length<=x.1.b.length+1048584 /\
  (bx x kd tx pv nx data c).2.2.waiting=x.2.waiting/\(bx x kd tx pv nx data c).1.1<1099511627776:=by
 have hlen:(dZ x.1 kd tx pv nx data c).length=8+(cV kd tx pv nx data c).length:=lV _ _;rcases jh x kd tx pv nx data c with⟨e,_,_,h⟩|⟨hd,hf,h⟩|⟨hg,hb,hd,fJ,hf,h⟩
 .grind
 .rw[h];exact⟨J,⟨I.a_,I.len,I.room,I.now,I.aU,I.bP,I.many⟩,hs,U,Dv _ _,U,cb⟩
 .rw[h];generalize dZ x.1 kd tx pv nx data c=rc at hlen fJ;have L8:=I.room;have kI:x.1.b.length=x.2.log.length:=by rw[hs]
  have hl:(x.1.b++rc).length=x.1.b.length+rc.length:=fL;have ir:(x.2.log++rc).length=x.2.log.length+rc.length:=fL;refine⟨⟨?_,?_,?_,?_,?_,?_,J.check⟩,⟨I.bZ.a_,?_,I.room,I.now,I.aU,?_,I.many⟩,?_,U,?_,U,?_⟩
  .show x.1.base+(x.1.b++rc).length<=_;omega
  .have h1:=XB J.A2 J.low;show(x.1.br++[x.1.b.length]).length<=_;grind
  .intro s hm;show s<(x.1.b++rc).length;rcases List.mem_append.1 (show s∈x.1.br++[x.1.b.length] from hm) with hm|hm
   .have:=J.low s hm;omega
   .grind
  .show(x.1.br++[x.1.b.length]).Pairwise (·< ·);rw[zP];refine⟨J.A2,zH _ _,λa ha b hb=>?_⟩;rw[List.mem_singleton.1 hb];exact J.low a ha
  .have:=J.forced;show x.1.forced<=(x.1.b++rc).length;omega
  .show(x.1.b++rc).length<=_;omega
  .grind
  .have:=I.bP;show x.2.bP<=(x.2.log++rc).length;omega
  .show x.1.b++rc=x.2.log++rc;rw[hs]
  .show(x.1.b++rc).length<=_;omega
  .grind
theorem wf_i64 (h1:0<=n)(h2:n<4294967296): (Lit.int .i64 n).wf=true:=by
 simp only[Lit.wf,b9,pW];have I:IntKind.min .i64 = -9223372036854775808:=rfl;have J:IntKind.max .i64=9223372036854775807:=rfl;omega
theorem Pr {kd:Int}{ch:V}(hd:dt.beq dt=true)(I:ch.beq ch=true): (V.agg (ep kd tx pv nx dt ch)).beq (V.agg (ep kd tx pv nx dt ch))=true:=by
 grind[ep,V.beq,V.beqL,eS,nW]
section
variable {told:bU} {p:Nat} {op v:V} {cn:Bool}
theorem Ps (hT:W told){kd:Int}{tv:Nat}{ch:V}{ccs:List V}(s:Sat h (fh g a now false::dJ a p q r (.ptr g 0) cO aF::dx r p q ε.1::bD q p ε.2.1::aS p ε.2.2::X::.arr 4 ch ccs::S))(hX:cQ X (cT dt data))(GB:ccs.length=tv*4)(kQ:ja ε)(hw:cC ε+65536<=268435456)
 (qD:∀e∈now,e.2.length=512)(hm:now.length<=65536)(hk:∀n∈now.map (·.1),0<=n/\n<65536)(va:tx<18446744073709551616)(si:pv<18446744073709551616)(kC:nx<18446744073709551616)(hd:data.length<=35184372088832)(Rj:ε.2.1.b=ε.2.2.log)(hz:ε.2.1.base+ε.2.1.b.length+1048584<=1099511627776):
  Call ⟨prog,told⟩ 50 [.ptr g 0,.agg (ep kd tx pv nx dt ch)] h λv h'=>∃aL e cl aj,DnR ε now kd tx pv nx data tv aL e cl aj/\v=.aR [.int .u64 (aL:Int),.int .i64 e] /\
   Sat h' (fh g a now cl::dJ a p q r (cond cl .aW (.ptr g 0)) cO aF::dx r p q aj.1::bD q p aj.2.1::aS p aj.2.2::X::S):=by
 have nj:∀n∈now.map (·.1),(Lit.int .i64 n).wf=true:=λn hn=>by
  grind[wf_i64]
 have qT:=s.cz 6 U;have kO:=s.aQ 5 U hX;have dG:=nE (kd:=kd) (tx:=tx) (pv:=pv) (nx:=nx) kO.cells.2 qT.2.1;have hlen:=s.fo tv (j:=6) U GB O js;have s0:=s;obtain⟨nv,s⟩:=fq.1 s;refine Call.of_wp (hT.free _ U) func50 U U (zg U (aq.bG s U U U (c7 U dG) λp1 h s=>?_));dsimp only[V.cells] at s;have s:Sat h (pt p1 (.cells 6 (ep kd tx pv nx dt ch) false)::_):=s;have hlen:=s.fo tv (j:=8) U GB O js;refine zk 7 U (zY s 1 rW nr U (zk 3 U (WP.block (zK 4 U (zf U (DX _ _) (zh U (o_load U (s.ld 1 U nO U)) U (zk 5 U (zY s 0 qj cW U ?_))))))));have fin:∀e:Int,Sat h (fh g a now false::dJ a p q r (.ptr g 0) cO aF::dx r p q ε.1::bD q p ε.2.1::aS p ε.2.2::X::S):=λe=>((fq.2 ⟨nv,s.ae [1,1]⟩).del 7).del 1;refine zd U (ag U U aG) ?_ ?_
 .intro hq;have hq:kd<1:=Q;exact zk 19 U (WP.ret ⟨aa,_,U,0,1,false,ε,.arg (.inl Y),U,fin 0⟩)
 .intro hq;have hq:1<=kd:=Q;refine zm U (zY s 0 qj cW U<|zd U (ag U U dc) ?_ ?_)
  .intro J;have J:7<kd:=Q;exact zk 15 U (WP.ret ⟨aa,_,U,0,1,false,ε,.arg (.inl Y),U,fin 0⟩)
  .intro J;have J:kd<=7:=Q;refine zk 2 U (zY s 0 ku sQ U (zo U (aO U U U hlen)<|zd U (ag U U dc) ?_ ?_))
   .intro I;have I:0<tv:=Q;exact zk 9 U (WP.ret ⟨aa,_,U,0,1,false,ε,.arg (.inr I),U,fin 0⟩)
   .intro I;have I:tv=0:=Q;obtain⟨dv,s⟩:=bV.1 (s.ae [3]);refine zk 8 U (zY s 0 ue kU U (zc U (AZ hT (s.ae [7])) ?_));rintro v h ⟨rfl,rfl⟩;refine zk 2 U ?_;cases Ja:ε.2.2.dead with
    |true =>
     refine zK 6 U (WP.ret ⟨aa,_,U,?_⟩);have s9:=fq.2 ⟨nv,(bV.2 ⟨dv,s⟩).ae [2,2]⟩;dsimp only[bringA,getA,aB] at s9;exact⟨0,9,false,ε,.dead hq J I Ja,U,(s9.del 7).del 2⟩
    |false =>
     refine zj U (WP.skip (zg U (za U (zv (zw (zg U (zm U ?_)))))));have s9:=fq.2 ⟨nv,(bV.2 ⟨dv,s⟩).ae [2,2]⟩;dsimp only[bringA,getA,aB] at s9;have s:=s9.ae [0,0,1,1,1];dsimp only[bringA,getA,aB] at s;refine zc U (G5 hT s kQ Y qD hm nj) ?_;rintro v h ⟨e,c,aj,hc,(⟨he,rfl,s⟩|⟨rfl,jE,av,cs,rfl,s⟩)⟩
     .refine aq.op U U U (aD U)<|zk 2 U (zf U (ku _ _)<|zS U (by exact s.cS (k:=5) U DO U O U U) (λh s=>?_));dsimp only[ep,Nat.reduceAdd,List.set,setA] at s;exact zk 5 U (zB U aE Q<|zk 8 U (WP.ret ⟨aa,_,U,0,e,false,aj,.qz e c aj hq J I Ja hc he,U,(s.del 7).del 5⟩))
     .have BH:=s.cz 0 U;have ER:=hc.mQ kQ;have hcp:=hc.cC;have ZQ:=hc.same;have hap:=yU (x:=aj.2) (kd:=kd) (tx:=tx) (pv:=pv) (nx:=nx) (data:=data) (c:=c) ER.ok.lg ER.ok.dk (by rw[ZQ.b,ZQ.log];exact Rj) (by rw[ZQ.base,ZQ.b];exact hz);have fJ:=hc.fit qD λn hn=>hk n ((fB _).mem_iff.1 hn);refine zk 3 U (zf U (ku _ _) (zS U (s.cS (k:=7) U DO U (show 0+5<6 by decide) BH.1 BH.2.1) ?_));intro h s;dsimp only[ep,Nat.reduceAdd,List.set,setA] at s;refine zk 5 U (zC U aE U ?_);obtain⟨dv,s⟩:=bV.1 (s.ae [3]);dsimp only[bringA,getA,aB] at s;have s:=s.ae [6,6,7,2,2,0,3];dsimp only[bringA,getA,aB] at s;refine zv (zj U (WP.skip (zw ?_)));have s0:=s;have agO:=fO kO;have hrb:=Pr (kd:=kd) (tx:=tx) (pv:=pv) (nx:=nx) agO BH.2.2;refine WP.drawn [af,af,af,af,af,af,af,af,af,af,af] U bo bo<|zM U (zN U (zF U (jA _ _) (zL U (s.ld 5 U mw U) (zL U (s.bW (k:=6) U kV gq) (ah.any U U U U (OpR.call U U U U (LQ (kd:=kd) (tx:=tx) (pv:=pv) (nx:=nx) hT s hX (Pq jE fJ va si kC hd) ER.ok.lg ER.ok.dk)) ?_)))));rintro v h ⟨rfl,s⟩;refine zM U (zO U (c_ U U) (zO U (c_ U U) (zA U (zA U<|ah.nil ⟨(dq 12),zK 4 U ?_⟩))));have s9:=bV.2 ⟨dv,s.ae [5,6]⟩;dsimp only[bringA,getA,aB] at s9;have s:=((((s9.ae [7,0,6,0,0,0]).del 9).del 8).del 7).del 6;by_cases he:(bx aj.2 kd tx pv nx data c).1.2=0
      .skip;refine zC U aE Q<|zk 6 U (zc U (JI hT s) ?_);rintro v h ⟨rfl,s⟩;obtain⟨nv,s⟩:=fq.1 s;obtain⟨Aw,rfl⟩:=Cl s (j:=1) U;refine zk 6 U (zY s 0 uh oX U (zc U (FD hT s) ?_));rintro v h ⟨kb,rfl,s⟩;refine zc U (ve hT (s.ae [0,1]) O Y nj) λkv h s=>?_;have hl:(bj now).length=now.length:=by rw[bj,(fB _).length_eq,cL]
       refine zo U (aO U U U (s.fo ((bj now).length) (j:=0) U (by simp[d_]) O dN))<|zk 2 U (WP.block ?_);obtain⟨aiN,es,clock,XC,hb,mh,s⟩:=j6.1 (s.ae [2]);injection XC with XC;subst XC;obtain⟨dv,s⟩:=bV.1 (s.ae [5]);have s:=s.ae [6,2,2,0,3,3,3,1];refine T2 (op:=.aW) (dv:=dv) hT (ks:=bj now) (now:=now) (aL:=(bx aj.2 kd tx pv nx data c).1.1) Y (λn hn=>?_) qD (bj now).length 0 (aj.1,(bx aj.2 kd tx pv nx data c).2) _ _ _ Y ?_ ?_ s ⟨U,U,U,U,U,U,aa⟩ (λe nP E' h' hp Ag l4 l5 s'=>?_) (λnP E' h' hp fg s'=>?_)
       .have:n∈now.map (·.1):=(fB _).mem_iff.1 hn;cases hq:lookL n now<;>grind[kX]
       .exact⟨⟨ER.ok.pl,hap.1,hap.2.1⟩,ER.pins,ER.full⟩
       .grind[cC]
       .have e4:look E' 4=some (.int .u64 ((0:Nat):Int)):=l4;refine⟨aa,_,IM e4 l5,0,e,true,nP,?_,U,?_⟩
        .have:=DnR.put (data:=data) c aj e nP hq J I Ja hc he hp
         rwa [ax Ag] at this
        .have s3:=bV.2 ⟨dv,s'.ae [3,6]⟩;have s4:=j6.2 ⟨Aw,es,clock,U,hb,mh,s3.ae [2,2]⟩;exact fq.2 ⟨.map Aw,(s4.ae [2,0,0,0,0,0,1]).del 7⟩
       .have s:=s';refine WP.has fg (zK 6 U (zR U ⟨_,0,true,nP,?_,U,?_⟩))
        .have:=DnR.put (data:=data) c aj 0 nP hq J I Ja hc he hp;exact this
        .have s3:=bV.2 ⟨dv,s.ae [3,6]⟩;have s4:=j6.2 ⟨Aw,es,clock,U,hb,mh,s3.ae [2,2]⟩;exact fq.2 ⟨.map Aw,(s4.ae [2,0,0,0,0,0,1]).del 7⟩
      .skip;exact zB U aE Q<|zk 8 U (WP.ret ⟨aa,_,U,0,_,false,_,.app c aj hq J I Ja hc he,U,s⟩)
end
def Lg.fresh : Lg:={ base:=1,b:=[],br:=[],forced:=0,check:=0 }
theorem G6 {b t:Nat}{p v w:V}(I:look E a=some p)(hd:loadV P h t p=some v)(h2:look E b=some w)(J:look E c=some x): resLE P E h [.cell a t,.tmp b,.tmp c]=some (.aR [v,w,x]):=by
 simp_all[resLE,mapO,resE]
section
variable {told:bU} {p:Nat} {op v:V} {cn:Bool}
theorem Om (hT:W told)(s:Sat h (aS p δ::S))(hd:δ.dead=false)(hm:δ.mark=[])(hl:δ.log=[])(hc:δ.bP=0):
  Call ⟨prog,told⟩ 63 [.ptr p 0] h λv h'=>∃q,v=.aR [.ptr q 0,.int .i64 0]/\Sat h' (bD q p Lg.fresh::aS p δ::S):=by
 refine Call.of_wp (hT.free _ U) func63 U U (zK 8 U (zc U (Q4 hT s Q) ?_));rintro v h (⟨I,_,_⟩|⟨_,b0,rfl,s⟩)
 .rw[hd] at I;cases I
 rw[hm] at s;refine zk 10 U (zC U aE U (zk 6 U (zo U (cE U (by rw[aeU];rfl))<|aq.bG s U U U (c7 U U) (λp23 h s=>?_))));dsimp only[V.cells,List.take,List.length_cons,List.length_nil,Nat.reduceAdd,List.drop,List.cons_append,List.nil_append] at s;refine zk 7 U ?_;have s:=s.ae [2,0,0];dsimp only[bringA,getA,aB] at s;refine zc U (aaV hT s Q) ?_;rintro v h (⟨I,_,_⟩|⟨_,b1,rfl,s⟩)
 .rw[hd] at I;cases I
 rw[hl] at s;have hv:=(s.buf (k:=0) U).view.cells;refine zk 4 U (zf U (kx _ _) (zS U (s.cS (k:=2) U jN U O hv.1 hv.2) λh s=>?_));dsimp only[Nat.reduceAdd,List.set,setA] at s;refine za U (zv (zg U (zm U (zh U (ag U U aE) U (zv (zj U (WP.skip (zw (zg U (zm U (zo U (aO U U U (by exact bC aZ (s.aQ 3 U (bh _ _))))<|zv (WP.block (zg U (zt U (ag U U bH) U (za U (zv (zi U (WP.skip (zg U (za U (zv (zw (WP.block (WP.loop (zw (zg U (zk 3 U (zf U (kx _ _) (zl U (by exact s.ld 2 U cF U)<|zo U (aO U U U (bC aZ (s.aQ 0 U (bh _ _)))) (zC U aG U (zk 2 U (WP.exit (zK 6 U (zY s 2 kx cF U (zo U (aO U U U (bC aZ (s.aQ 0 U (bh _ _)))) (zC U aG U (zk 5 U ?_)))))))))))))))))))))))))))))))))))));have s0:=s;have J:=fO (s.buf (k:=0) U).view;refine WP.drawn [none,none,some (0,2),some (0,2),some (0,2),some (0,2),some (0,2),none] U bo bo<|zM U (ah.any U U U U (OpR.call U U U U (NX hT (s.ae [1]))) ?_);rintro v h' ⟨rfl,rfl⟩;refine zM U (zN U (zF U (kx _ _) (zL U (s.ld 2 U cF U) (zO U (aO U U U (bC aZ (s.aQ 0 U (bh _ _)))) (ah.kK U U U U (ag U U aG) (by rfl)<|ah.nil ⟨⟨aa,aa,λ_ _=>.inr ⟨U,⟨_,aD U⟩,aA _ U⟩,λ_ _=>.inr ⟨U,⟨_,jq U⟩,aA _ U⟩,λ_ _=>.inr ⟨U,⟨_,gy U (kx _ _)⟩,aA _ U⟩,cY (.inr ⟨U,⟨_,o_load U (s0.ld 2 U cF U)⟩,J⟩) (.inr ⟨U,⟨_,o_load U (s.ld 2 U cF U)⟩,J⟩),cY (.inr ⟨U,⟨_,aO U U U (bC aZ (s0.aQ 0 U (bh _ _)))⟩,aA _ U⟩) (.inr ⟨U,⟨_,aO U U U (bC aZ (s.aQ 0 U (bh _ _)))⟩,aA _ U⟩),aa,aa⟩,zK 7 U (zY s 2 kx cF U (zo U (aO U U U (bC aZ (s.aQ 0 U (bh _ _)))) (zn U (zf U (wP _ _)<|zS U (by exact s.cS (k:=2) U kr U O U U) (λh s=>(zk 7 U (zR U ?_)))))))⟩)))));have s1:=(s.del 3).jr (k:=1);exact⟨_,U,dQ.2 ⟨b1,.aP,s1.ae [3,1,0]⟩⟩
theorem JK (J:W told)(s:Sat h (bD q p μ::S))(I:μ.Ok): Call ⟨prog,told⟩ 66 [.ptr q 0,.int .u64 ((μ.base:Int)+(μ.b.length:Int))] h λv h'=>v=.aR [.agg (ep 0 0 0 0 .aP .aP),.int .u64 0,.int .i64 17]/\Sat h' (bD q p μ::S):=by
 refine Call.of_wp (J.free _ U) LZ U U (zg U<|aq.bG s U U U (bK sR) (λp4 h s=>(zk 4 U (WP.block (zK 4 U ?_)))));have s:=s.ae [1];refine zc U (qp J s I.size) ?_;rintro v h' ⟨rfl,rfl⟩;exact zB U bH cb<|zk 5 U (zo U (cE U (by rw[vY];rfl))<|zS U (s.dS (j:=1) U gq U U) (λh s=>(zk 3 U<|WP.ret ⟨aa,_,G6 U (s.bW (k:=1) U kV gq) U U,⟨U,s.del 1⟩⟩)))
theorem XD (J:W told){n:Nat}(s:Sat h (bD q p μ::S))(I:μ.Ok)(hn:n<18446744073709551616)(nL:n≠μ.base+μ.b.length)(KW:μ.hasB n=false): Call ⟨prog,told⟩ 66 [.ptr q 0,.int .u64 (n:Int)] h λv h'=>v=.aR [.agg (ep 0 0 0 0 .aP .aP),.int .u64 0,.int .i64 1]/\Sat h' (bD q p μ::S):=by
 refine Call.of_wp (J.free _ U) LZ U U (zg U<|aq.bG s U U U (bK sR) (λp4 h s=>(zk 4 U (WP.block (zK 4 U ?_)))));have s:=s.ae [1];refine zc U (qp J s I.size) ?_;rintro v h' ⟨rfl,rfl⟩;refine zC U bH Q<|zk 7 U (zc U (D_ (n:=n) J s I hn) ?_);rintro v h' ⟨rfl,rfl⟩;exact zo U (cI U U) (zk 2 U (WP.QE U Q<|zg U (zo U (cE U (by rw[vY];rfl))<|zS U (s.dS (j:=1) U gq U U) (λh s=>(zk 3 U<|WP.ret ⟨aa,_,G6 U (s.bW (k:=1) U kV gq) U U,⟨U,s.del 1⟩⟩)))))
theorem Rk (hT:W told){n:Nat}(s:Sat h (bD q p μ::S))(J:μ.Ok)(hn:n<18446744073709551616)(I:n=μ.base+μ.b.length\/μ.hasB n=false): Call ⟨prog,told⟩ 66 [.ptr q 0,.int .u64 (n:Int)] h λv h'=>∃e:Int,e≠0/\v=.aR [.agg (ep 0 0 0 0 .aP .aP),.int .u64 0,.int .i64 e]/\Sat h' (bD q p μ::S):=by
 by_cases he:n=μ.base+μ.b.length
 .have:=JK hT s J;rw[show((μ.base:Int)+(μ.b.length:Int))=((n:Nat):Int) by omega] at this;exact this.mono λv h' ⟨h1,h2⟩=>⟨17,O,h1,h2⟩
 .rcases I with I|I
  .exact absurd I he
  .exact(XD hT s J hn he I).mono λv h' ⟨h1,h2⟩=>⟨1,O,h1,h2⟩
end
section
variable {told:bU} {p:Nat} {op v:V} {cn:Bool}
theorem Rl (I:W told){n:Nat}(s:Sat h (dJ a p q r op data aF::bD q p μ::S))(J:μ.Ok)(hn:n<18446744073709551616)(KW:n=μ.base+μ.b.length\/μ.hasB n=false):
  Call ⟨prog,told⟩ 69 [.ptr a 0,.int .u64 (n:Int)] h λv h'=>v=.int .i64 0/\Sat h' (dJ a p q r op data aF::bD q p μ::S):=by
 obtain⟨dv,s⟩:=bV.1 s;refine Call.of_wp (I.free _ U) func69 U U (zK 6 U<|aq.Cg s U U U U (λp18 h s=>(aq.Cg s U U U U (λp19 h s=>(zo U (cE U (by rw[afh];rfl))<|aq.bG s U U U (c7 U U) (λp21 h s=>(zk 5 U (zo U (uK U U) (zk 8 U (WP.block (WP.loop (WP.block (zK 4 U (zY s 3 jA mw U (zm U ?_)))))))))))))));have s1:=s.ae [5];refine zc U (Rk (n:=n) I s1 J hn KW) ?_;rintro v h ⟨e,he,rfl,s⟩;refine zk 4 U<|aq.bG s U U U (bK sR) (λp8 h s=>(zS U (s.dS (j:=0) U gq U U) (λh s=>(zk 7 U (zB U aE Q ?_)))));have s:=uy (f:=λv (b:List Nat)=>.dL v b) (s.ae [4]);refine zk 2 U (WP.exit (zK 5 U (zY s 3 Pa oX U (zc U (FD I s) ?_))));rintro v h ⟨kb,rfl,s⟩;exact zc U (ve I s O O cb) λkv h s=>zo U (aO U U U (s.fo 0 (j:=0) U U O dN))<|zk 2 U (WP.block (WP.loop (zg U (zC U aG U (zk 3 U (WP.exit (zK 5 U (zY s 5 Pa oX U (zo U (aO U U U (Fq (s.ae [2]) qQ)) (zB U bH U (zk 6 U (WP.ret ⟨aa,_,U,U,((((((bV.2 ⟨dv,s.ae [7,7,4]⟩).del 7).del 6).del 5).del 4).del 3).del 2⟩))))))))))))
theorem Lg.L9 : Lg.fresh.Ok:=⟨O,O,by simp[Lg.fresh],List.Pairwise.nil,O,O,O⟩
theorem On (I:W told){n:Nat}(s:Sat h (aS p δ::S))(h1:1<=n)(h2:n<=1024)(hd:δ.dead=false)(hm:δ.mark=[])(J:δ.log=[])(hc:δ.bP=0):
  Call ⟨prog,told⟩ 19 [.ptr p 0,.int .i64 (n:Int)] h λv h'=>∃a q r,v=.aR [.ptr a 0,.int .i64 0]/\Sat h' (dJ a p q r .aW [] 0::dx r p q (Pl.fresh n)::bD q p Lg.fresh::aS p δ::S):=by
 refine Call.of_wp (I.free _ U) func19 U U (zK 9 U (zC U aG Q<|zk 2 U (zC U dc Q<|zk 7 U (zc U (Om I s hd hm J hc) ?_))));rintro v h ⟨q,rfl,s⟩;refine zk 10 U (zC U aE U (zk 8 U (zc U (aa_ (p:=p) (q:=q) (n:=n) I s) ?_)));rintro v h (⟨hn,_,_⟩|⟨_,_,r,rfl,s⟩)
 .omega
 rw[cN] at s;refine zk 10 U (zC U aE U (zk 8 U (zo U (cE U (by rw[aeT];rfl))<|aq.bG s U U U (c7 U U) (λp44 h s=>(zk 5 U (zc U (yA I (s.ae [2])) ?_))))));rintro v h' ⟨rfl,rfl⟩;refine zk 6 U (zc U (NZ I (s.ae [2])) ?_);rintro v h' ⟨rfl,rfl⟩;refine zk 5 U (zC U aE U (zk 8 U ?_));have s1:=bV.2 ⟨.aP,(s.yu).ae [1,0]⟩;refine zc U (Rl (n:=1) I (s1.ae [0,1]) Lg.L9 O (.inl U)) ?_;rintro v h ⟨rfl,s⟩;exact zk 5 U (zC U aE U (zk 9 U (zR U ⟨_,q,r,U,s.ae [0,1,0]⟩)))
end
def jK (ε:bn): Int×bn:=if ε.2.2.dead=true then(9,ε) else if (writeAllF (bj ε.1.aM) ε).1≠0 then writeAllF (bj ε.1.aM) ε else
 ((gE (writeAllF (bj ε.1.aM) ε).2.1 (writeAllF (bj ε.1.aM) ε).2.2.2).1,((gE (writeAllF (bj ε.1.aM) ε).2.1 (writeAllF (bj ε.1.aM) ε).2.2.2).2.1,((writeAllF (bj ε.1.aM) ε).2.2.1,(gE (writeAllF (bj ε.1.aM) ε).2.1 (writeAllF (bj ε.1.aM) ε).2.2.2).2.2)))
section
variable {told:bU} {p:Nat} {op v:V} {cn:Bool}
theorem Ea (I:W told)(s:Sat h (dJ a p q r op data aF::S)): Call ⟨prog,told⟩ 15 [.ptr a 0] h λv h'=>v=.ptr q 0/\h'=h:=by
 obtain⟨dv,s⟩:=bV.1 s;exact Call.of_wp (I.free _ U) func15 U U (zK 8 U (zY s 0 jA mw U (zk 2 U (zR U ⟨U,U⟩))))
theorem XE (I:W told)(s:Sat h (dJ a p q r op data aF::S)): Call ⟨prog,told⟩ 145 [.ptr a 0] h λv h'=>v=.ptr p 0/\h'=h:=by
 obtain⟨dv,s⟩:=bV.1 s;exact Call.of_wp (I.free _ U) func145 U U (zK 8 U (zY s 0 ue kU U (zk 2 U (zR U ⟨U,U⟩))))
theorem T5 (J:W told){n:Nat}(s:Sat h (dJ a p q r op data aF::bD q p μ::aS p δ::S))(I:μ.Ok)(hf:δ.a_<4294967296):
  Call ⟨prog,told⟩ 42 [.ptr a 0,.int .u64 (n:Int)] h λv h'=>v=.int .i64 (bL (μ,δ) n).1/\Sat h' (dJ a p q r op data aF::bD q p (bL (μ,δ) n).2.1::aS p (bL (μ,δ) n).2.2::S):=by
 obtain⟨dv,s⟩:=bV.1 s;refine Call.of_wp (J.free _ U) func42 U U (zK 8 U (zY s 0 jA mw U (zm U (zc U (IC (n:=n) J (s.ae [2,2]) I hf) ?_))));rintro v h ⟨rfl,s⟩;exact zk 2 U (zR U ⟨U,bV.2 ⟨dv,s.ae [2,2]⟩⟩)
theorem XF (J:W2 told)(s:Sat h (dJ a p q r .aW data aF::dx r p q ε.1::bD q p ε.2.1::aS p ε.2.2::S))(kQ:rz ε)(hw:ε.2.2.waiting.length+ε.1.aM.length<=268435456)(hm:ε.1.aM.length<=1048576)(hk:∀n∈ε.1.aM.map (·.1),(Lit.int .i64 n).wf=true)
 (kB:(writeAllF (bj ε.1.aM) ε).2.2.2.Ok)(I:∀e∈(writeAllF (bj ε.1.aM) ε).2.2.2.now,0<=e.1/\e.1<(writeAllF (bj ε.1.aM) ε).2.2.2.aU.length):
  Call ⟨prog,told⟩ 32 [.ptr a 0] h λv h'=>v=.int .i64 (jK ε).1/\Sat h' (dJ a p q r .aW data aF::dx r p q (jK ε).2.1::bD q p (jK ε).2.2.1::aS p (jK ε).2.2.2::S):=by
 have s0:=s;obtain⟨dv,s⟩:=bV.1 s;refine Call.of_wp (J.w.free _ U) func32 U U (zK 5 U (WP.block (zK 4 U (zY s 0 rT Ii U (zC U (Ri qU) U (zk 7 U (zY s 0 ue kU U (zc U (AZ J.w (s.ae [4])) ?_))))))));rintro v h ⟨rfl,rfl⟩;refine zk 2 U ?_;cases hd:ε.2.2.dead with
 |true =>
  refine zK 5 U (WP.ret ⟨aa,_,U,?_⟩);rw[jK,bk hd];exact⟨U,s0⟩
 |false =>
  refine zj U (WP.skip (zw (zg U (zk 2 U (zf U (ql _ _) (zl U (by exact s.ld 0 U vZ U)<|zc U (Oc J.w (s.ae [2,2,2]) kQ hw hm hk) ?_))))));rintro v h ⟨rfl,s⟩;dsimp only[bringA,getA,aB] at s;refine zk 5 U ?_;by_cases he:(writeAllF (bj ε.1.aM) ε).1=0
  .skip;refine zC U aE Q<|zv (zj U (WP.skip (zg U (zk 2 U (zf U (ql _ _) (zl U (by exact s.ld 3 U vZ U)<|zc U (Xs J (s.ae [0,1]) kB I) ?_))))));rintro v h ⟨rfl,s⟩;refine zk 2 U (zR U ?_);rw[jK,ax Q,ax Y];exact⟨U,bV.2 ⟨dv,s.ae [3,3,0,1,0]⟩⟩
  .skip;refine zB U aE Q<|zk 7 U (WP.ret ⟨aa,_,U,?_⟩);rw[jK,ax Q,bk he];exact⟨U,bV.2 ⟨dv,s.ae [3,3,0,0,0]⟩⟩
end
section
variable {told:bU} {p:Nat} {op v:V} {cn:Bool}
theorem Rm (I:W told)(s:Sat h (dJ a p q r op data aF::S))(J:data.length<1073741824): Call ⟨prog,told⟩ 54 [.ptr a 0] h λv h'=>∃w,v=.aR [w,.int .u64 (aF:Int)]/\Sat h' (bu w data::dJ a p q r op data aF::S):=by
 obtain⟨dv,s⟩:=bV.1 s;refine Call.of_wp (I.free _ U) func54 U U (zK 6 U ?_);have s:=s.ae [1];have s0:=s;exact WP.drawn [af,af,af,af,af,some (0,2),some (0,2),some (0,2),some (0,2),none,none] U bo bo<|zM U (zN U (zF U (O7 _ _) (zL U (s.ld 1 U cF U) (ah.any U U U U (OpR.call U U U U (qo I s (fX _ _) J)) λw h s=>zM U (zN U (zF U (Io _ _) (zL U (s.ld 2 U b8 U) (zA U (zA U<|ah.nil ⟨⟨aa,aa,aa,aa,aa,λ_ _=>.inr ⟨U,⟨_,aD U⟩,aA _ U⟩,λ_ _=>.inr ⟨U,⟨_,jq U⟩,aA _ U⟩,λ_ _=>.inr ⟨U,⟨_,gy U (Io _ _)⟩,aA _ U⟩,cY (.inr ⟨U,⟨_,o_load U (s0.ld 1 U b8 U)⟩,aA _ U⟩) (.inr ⟨U,⟨_,o_load U (s.ld 2 U b8 U)⟩,aA _ U⟩),aa,aa,aa⟩,WP.ret ⟨aa,_,U,⟨w,U,(bV.2 ⟨dv,s.ae [2,1]⟩).ae [1]⟩⟩⟩)))))))))
end
section
theorem Pt (s:Sat h S){e:TypeId}{z:V}(hu:P.underlying t=some (.slice e))(I:zeroT P e=some z)(J:bf P e=some k)(hl:z.cells.length=k)(h1:1<=k):
  ∃h',buildSliceV P h t 0 []=some (.sl h.next 0 0 (.exact 0),h')/\Sat h' (pt h.next (.cells 0 [] false)::S):=by
 refine⟨newRow h [],?_,s.new _⟩<;>grind[buildSliceV,Nat.beq_refl,aN,repeatL,fillV]
theorem Pu (s:Sat h (pt id (.cells 0 [] false)::S)): Sat h (bu (.sl id 0 0 (.exact 0)) []::S) :=
 s.iX λm r hm=>⟨cb,.inr (.inl ⟨id,[],0,U,hm,U⟩)⟩
end
section
variable {told:bU} {p:Nat} {op v:V}
theorem T6 (hT:W told)(s:Sat h (X::S))(I:cQ X (cT x l))(hl:l.length<=1073741824): Call ⟨prog,told⟩ 186 [x] h λv h'=>Sat h' (bu v l::X::S):=by
 have hv:=s.aQ 0 U I;refine Call.of_wp (hT.free _ U) func186 U U (zK 8 U ?_);rcases hv.2 with⟨rfl|⟨ea,rfl⟩,rfl⟩|⟨id,off,cap,n,cs,st,rfl,_⟩
 .exact zt U ((by exact ag U U (by simp only[binV,eqV,aZ];rfl))) (U)<|zk 6 U (WP.ret ⟨aa,_,U,s.pK⟩)
 .skip;refine zh U ((by exact ag U U (by simp only[binV,eqV,aZ];rfl))) (U)<|zk 5 U ?_;obtain⟨h1,J,s1⟩:=Pt (P:=prog) s aZ zt5 Zs U O;refine aq.any U U U (OpR.of (R:=λv h'=>v=.sl h.next 0 0 (.exact 0)/\h'=h1) (jj U J) ⟨U,U⟩) ?_
  rintro v h' ⟨rfl,rfl⟩;have s:=Pu s1;exact zm U (aq.any U U U (OpR.sW U s I U U U U cb) λw h s=>zk 2 U (zR U s))
 .skip;refine zh U ((by exact ag U U (by simp only[binV,eqV,aZ];rfl))) (U)<|zk 5 U ?_;obtain⟨h1,J,s1⟩:=Pt (P:=prog) s aZ zt5 Zs U O;refine aq.any U U U (OpR.of (R:=λv h'=>v=.sl h.next 0 0 (.exact 0)/\h'=h1) (jj U J) ⟨U,U⟩) ?_
  rintro v h' ⟨rfl,rfl⟩;have s:=Pu s1;exact zm U (aq.any U U U (OpR.sW U s I U U U U Q) λw h s=>zk 2 U (zR U s))
end
def slF (v:V)(i:Nat): V:=match v with
 |.sl id off len (.exact c)=>.sl id (cond (Nat.beq c i) off (off+i*1)) (len-i) (.exact (c-i))
 |.sl id off len (.rest _ alt)=>.sl id (off+i*1) (len-i) (.rest 1 (cond (Nat.beq i 0) alt (cond (Nat.blt i len) (off+i*1) off)))
 |v=>v
theorem adG {v:V}{cs:List V}{e:TypeId}(s:Sat h S)(hj:getA S j=some (.arr 1 v cs))(hi:i<=cs.length)(hu:P.underlying t=some (.slice e))(J:bf P e=some 1):
  sliceV P h t v (some i) none none=some (slF v i)/\lenV P h t (slF v i)=some (.int .i64 ((cs.length-i:Nat):Int)) /\
  ∀(m:Nat) (x:V),cs[i+m]?=some x->∃id off,indexAddrV P t (slF v i) (.int .i64 (m:Int))=some (.ptr id off)/\∀t',isAggT P t'=some false->loadV P h t' (.ptr id off)=some x:=by
 obtain⟨pm,r,h1,h2,h3⟩:=s.at hj;rcases h3.2 with⟨rfl,rfl⟩|⟨id,n,cap,N,rest,rfl,hg,e1,e2,_,e4⟩
 .simp_all[sliceV,slF,lenV]
 .have vC:=h1 _ _ hg;rw[gF] at e1;have I:∀(m:Nat) (x:V),cs[i+m]?=some x->∀t',isAggT P t'=some false->loadV P h t' (.ptr id (0+i*1+m*1))=some x:=λm x hm t' ht=>by
   grind[S8,iD]
  cases cap with
  |exact c =>
   obtain⟨rfl,e5⟩:=e4;refine⟨?_,?_,λm x hm=>?_⟩
   .simp only[sliceV,hu,J,jv,eV,slF];grind[aN]
   .simp only[slF,lenV,hu,e1]
   .have bY:=(List.getElem?_eq_some_iff.1 hm).1;refine⟨id,0+i*1+m*1,?_,I m x hm⟩;simp only[slF,indexAddrV,hu,J,cN];grind[eE]
  |rest q alt =>
   obtain⟨rfl,rfl,rfl,e5⟩:=e4;refine⟨?_,?_,λm x hm=>?_⟩
   .simp only[sliceV,hu,J,jv,eV,slF];grind[Nat.beq,aN]
   .simp only[slF,lenV,hu,e1]
   .have bY:=(List.getElem?_eq_some_iff.1 hm).1;refine⟨id,0+i*1+m*1,?_,I m x hm⟩;simp only[slF,indexAddrV,hu,J,cN];grind
def yV (μ:Lg)(n:Nat): List Nat:=(μ.br.filter λs=>decide (n<=μ.base+s)).map λs=>s-(n-μ.base)
def Lg.cut (μ:Lg)(n:Nat): Lg:={ base:=n,b:=μ.b.drop (n-μ.base),br:=yV μ n,forced:=μ.forced-(n-μ.base),check:=μ.check }
def iB (x:LD)(n:Nat): Int×LD :=
 if (n≠x.1.base+x.1.b.length/\x.1.hasB n=false)\/x.1.base+x.1.forced<n\/(x.1.check≠0/\x.1.check<n) then(1,x) else
 if (x.2.pN ((n-x.1.base:Nat):Int) (fC n x.1.check)).1≠0 then((x.2.pN ((n-x.1.base:Nat):Int) (fC n x.1.check)).1,(x.1,(x.2.pN ((n-x.1.base:Nat):Int) (fC n x.1.check)).2)) else
 (0,(x.1.cut n,(x.2.pN ((n-x.1.base:Nat):Int) (fC n x.1.check)).2))
theorem abl {n:Nat}(h:Split μ n i): yV μ n=(μ.br.drop i).map λs=>s-(n-μ.base):=by
 have h1:μ.br.filter (λs=>decide (n<=μ.base+s))=μ.br.drop i:=by
  conv=>lhs;rw[<-List.take_append_drop i μ.br]
  rw[List.filter_append];have J:(μ.br.take i).filter (λs=>decide (n<=μ.base+s))=[]:=by
   rw[List.filter_eq_nil_iff];intro s hs;obtain⟨j,hj,rfl⟩:=List.mem_iff_getElem.1 hs;have I:j<i:=Q;have:=h.2.1 j _ I (by rw[aI Q]);simp only[List.getElem_take] at this ⊢;simp;omega
  have e2:(μ.br.drop i).filter (λs=>decide (n<=μ.base+s))=μ.br.drop i:=by
   rw[List.filter_eq_self];intro s hs;obtain⟨j,hj,rfl⟩:=List.mem_iff_getElem.1 hs;have:=h.2.2 (i+j) _ (Dv _ _) (by rw[aI Q]);grind
  rw[J,e2,iQ]
 rw[yV,h1]
theorem IN {n:Nat}(h:μ.hasB n=true): μ.base<=n:=by
 grind[Lg.hasB]
section
variable {told:bU} {p:Nat} {op v:V}
theorem afA (J:W told)(s:Sat h (aS p δ::X::S))(hX:cQ X (cT x b))(I:δ.Ok):
  Call ⟨prog,told⟩ 185 [.ptr p 0,.int .i64 n,x] h λv h'=>v=.int .i64 (δ.pN n b).1/\Sat h' (aS p (δ.pN n b).2::X::S):=by
 refine(aaW J s hX I.a_ (by have:=I.len;omega) I.bP).mono λv h' hr=>?_;grind[Dk.pN]
end
section
variable {told:bU} {p:Nat} {op v:V}
noncomputable def ctL : Code:=aV [1,1,1,1,1,1,0,1,0,0] ((f114.body).getD .skip)
theorem XG (hT:W told){sv:V}{pP:List Nat}(hi:i<=pP.length)(hb:∀s∈pP,s<=1099511627776)(hc:c<=1099511627776)(hge:∀s∈pP.drop i,c<=s)(D9:pP.length<=16777216): ∀(j m:Nat) (nv:V) (h:H) (E:List (Nat×V)) (a8:Ex->List (Nat×V)->H->Prop),i+m+j=pP.length ->
  Sat h (.arr 1 nv (fR (((pP.drop i).take m).map λs=>s-c))::.arr 1 sv (fR pP)::S) ->
  Has E [(0,.ptr q 0),(1,t1),(5,.int .i64 (c:Int)),(8,nv),(81,slF sv i),(82,.int .i64 ((pP.length-i:Nat):Int)),(83,.int .i64 (m:Int))] ->
  (∀ZR E' h',Has E' [(0,.ptr q 0),(1,t1),(5,.int .i64 (c:Int)),(8,ZR)]->Sat h' (.arr 1 ZR (fR ((pP.drop i).map λs=>s-c))::.arr 1 sv (fR pP)::S)->a8 (.exit 0) E' h') ->
  WP ⟨prog,told⟩ 121 (.loop ctL) E h a8:=by
 intro j;induction j with
 |zero =>
  refine λm nv h E a8 hj s hE hx=>WP.loop (WP.has hE (zg U (zC U aG Q<|zk 3 U (WP.exit ?_))));rw[kg Q] at s;exact hx nv _ _ ⟨U,U,U,U,aa⟩ s
 |succ j ih =>
  intro m nv h E a8 hj s hE hx;have dG:pP[i+m]?=some (pP[i+m]' Y):=aI _;have I:pP[i+m]' Y∈pP:=zW _;have agP:=hge (pP[i+m]' Y) (by
   have:(pP.drop i)[m]?=some (pP[i+m]' Y):=cb;exact bz this)
  generalize (pP[i+m]' Y)=st at dG I agP;have Cv:=hb st I;obtain⟨_,_,yC⟩:=adG (P:=prog) (i:=i) s (j:=1) U (by grind[iN]) dN kr;obtain⟨id,off,e1,e2⟩:=yC m (.int .i64 (st:Int)) (by simp[fR,dG]);have htk:(pP.drop i).take (m+1)=(pP.drop i).take m++[st]:=by grind[List.take_add_one]
  have J:((st:Int)-(c:Int))=((st-c:Nat):Int):=Y;refine WP.loop (WP.has hE (zg U (zB U aG Q<|zk 5 U (WP.block (zg U (zo U (aJ (.ptr id off) U U e1) (zl U (e2 _ cW) (zk 6 U (zb U (by exact gz ay) ?_)))))))));rw[J];obtain⟨iv,h1,vb,s1⟩:=fP prog (k:=1) (x:=.int .i64 ((st-c:Nat):Int)) s dN EG kr U O O U U;dsimp only[V.cells] at s1;refine aq.any U U U (OpR.of (R:=λv h'=>v=iv/\h'=h1) (jj U vb) ⟨U,U⟩) ?_;rintro v' h' ⟨rfl,rfl⟩;obtain⟨i1,gD,fH,gu⟩:=Fx;obtain⟨qA,h2,tg,s2⟩:=dV (s1.ae [1,0]) dN gD EG fH Y U O (by grind[iN]);dsimp only[bringA,getA,aB] at s2;refine aq.any U U U (OpR.of (R:=λv h'=>v=qA/\h'=h2) (fN U U tg) ⟨U,U⟩) ?_;rintro v' h' ⟨rfl,rfl⟩;refine za U (zv (zr U (zb U (by exact aT ay)<|zm U (zv<|ih (m+1) _ _ _ a8 Y ?_ ⟨U,U,U,U,U,U,U,aa⟩ hx))));have e:fR (((pP.drop i).take (m+1)).map λs=>s-c)=fR (((pP.drop i).take m).map λs=>s-c)++[.int .i64 ((st-c:Nat):Int)]:=by
   grind[fR]
  rw[e];exact s2.del 1
noncomputable def ctR : Code:=aV [1,1] ((f114.body).getD .skip)
theorem XH (hT:W told){n:Nat}(s:Sat h (bD q p μ::aS p δ::S))(I:μ.Ok)(Cx:δ.Ok)(h1:μ.base<=n)(h2:n<=μ.base+μ.forced)(hE:Has E [(0,.ptr q 0),(1,.int .u64 (n:Int))])
 (Pk:∀E' h',(δ.pN ((n-μ.base:Nat):Int) (fC n μ.check)).1≠0->look E' 4=some (.int .i64 (δ.pN ((n-μ.base:Nat):Int) (fC n μ.check)).1)->Sat h' (bD q p μ::aS p (δ.pN ((n-μ.base:Nat):Int) (fC n μ.check)).2::S)->a8 .ret E' h')
 (iM:∀E' h',(δ.pN ((n-μ.base:Nat):Int) (fC n μ.check)).1=0->look E' 4=some (.int .i64 0)->Sat h' (bD q p (μ.cut n)::aS p (δ.pN ((n-μ.base:Nat):Int) (fC n μ.check)).2::S)->a8 .ret E' h'):
  WP ⟨prog,told⟩ 121 ctR E h a8:=by
 have GR:=I.size;have abm:=I.forced;have hlen:=I.len;have agQ:n<18446744073709551616:=Y;have ZS:((n:Int)-(μ.base:Int))=((n-μ.base:Nat):Int):=Y;obtain⟨bv,sv,s⟩:=dQ.1 s;refine WP.has hE (zK 5 U (zY s 0 jB b8 U (zb U (by exact gz eB)<|zo U (bQ U (by exact ie bS bB ay))<|zk 4 U ?_)));rw[ZS];have s0:=s;refine WP.drawn [some (0,2),some (0,2),some (0,2),some (0,2),some (0,2),af,af,af,af,af,af,af,af,af] U bo bo<|zM U (zN U (zF U (rU _ _) (zL U (s.ld 0 U kU U) (zM U (zM U (zM U (zM U (zN U (zF U (uf _ _) (zL U (s.ld 0 U b8 U) (ah.any U U U U (OpR.call U U U U (GS (q:=q) (a:=n) (b:=μ.check) hT s)) λmv h s=>?_)))))))))));have s:=s.ae [1,1,1,1,0];have s1:=s;refine ah.any U U U U (OpR.call U U U U (afA (n:=((n-μ.base:Nat):Int)) hT (s.ae [3,3]) (bh _ _) Cx)) ?_;rintro v h ⟨rfl,s⟩;have s:=(s.del 1).ae [1,1,1,0];refine zA U<|ah.nil ⟨⟨λ_ _=>.inr ⟨U,⟨_,aD U⟩,aA _ U⟩,λ_ _=>.inr ⟨U,⟨_,jq U⟩,aA _ U⟩,λ_ _=>.inr ⟨U,⟨_,gy U (rU _ _)⟩,aA _ U⟩,cY (.inr ⟨U,⟨_,o_load U (s0.ld 0 U kU U)⟩,aA _ U⟩) (.inr ⟨U,⟨_,o_load U (s1.ld 0 U kU U)⟩,aA _ U⟩),λ_ _=>.inr ⟨U,⟨_,aD U⟩,aA _ U⟩,dq 10⟩,zK 3 U ?_⟩;generalize hcf:δ.pN ((n-μ.base:Nat):Int) (fC n μ.check)=cf at s Pk iM;by_cases he:cf.1=0
 .skip;refine zC U aE Q ?_;have s:=dQ.2 ⟨bv,sv,s⟩;refine zk 7 U (zc U (IA (n:=n) hT s I agQ) ?_);rintro v h' ⟨rfl,i,CO,rfl⟩;obtain⟨bv,sv,s⟩:=dQ.1 s;have hi:=CO.1;have J:((μ.br.length:Int)-(i:Int))=((μ.br.length-i:Nat):Int):=Y;have D9:=I.many;refine zk 6 U (zY s 0 kz jV U (zo U (aO U U U (s.fo μ.br.length (j:=2) U (by simp[iN]) O dN))<|zm U (zb U (by exact gz ay) ?_)));rw[J];obtain⟨i1,gD,fH,gu⟩:=Fx;obtain⟨nv,OM,e1,s1⟩:=yt (P:=prog) s dN gD EG fH Y U O O (n:=0) (c:=μ.br.length-i) Y Y;dsimp only[repeatL] at s1;refine aq.any U U U (OpR.of (R:=λv h'=>v=nv/\h'=OM) (uL U U e1) ⟨U,U⟩) ?_;rintro v h' ⟨rfl,rfl⟩;have s:=s1.ae [0,2,0,0];have adH:=adG (P:=prog) (i:=i) s (j:=1) U (by grind[iN]) dN kr;have yh:=adH.2.1;rw[iN] at yh;refine zk 7 U (zY s 2 kz jV U (zm U (zo U (bR (p:=some (.int .i64 (i:Int))) (q:=none) (m:=none) (p':=some i) (q':=none) (m':=none) U U U U (by rfl) U U adH.1)<|zo U (aO U U U yh) (zk 2 U (WP.block<|XG hT (q:=q) (t1:=.int .u64 (n:Int)) (i:=i) (c:=n-μ.base) (pP:=μ.br) hi (λx hx=>?_) Y (λx hx=>?_) D9 (μ.br.length-i) 0 _ _ _ _ Y s ⟨U,U,U,U,U,U,U,aa⟩ (λZR E' h' fg s'=>?_))))))
  .have:=I.low x hx;omega
  .obtain⟨j,hj,rfl⟩:=List.mem_iff_getElem.1 hx;have:=CO.2.2 (i+j) _ (Dv _ _) (by rw[aI Q]);grind
  .have s:=s';rw[<-abl CO] at s;have BI:=s.cz 0 U;have hvb:=(s.buf (k:=3) U).view;have kI:=iy hvb (a:=n-μ.base) Y;have ZD:=fO hvb;have Cv:=fO kI.2.1;have adI:((μ.forced:Int)-((n-μ.base:Nat):Int))=((μ.forced-(n-μ.base):Nat):Int):=Y;refine WP.has fg (zw ?_);have s0:=s;refine WP.drawn [some (0,2),some (0,3),some (0,4),some (0,5),some (0,2),af,af,af,af,af,af,af,some (0,4),some (0,2),some (0,2),some (0,2),some (0,2),some (0,5),some (0,5),af,af,af,af,af,af,af,af,af,af,af,af] U bo bo<|zM U (zM U (zM U (zM U (zM U (zM U (zN U (zF U (kx _ _) (zL U (s.ld 2 U cF U) (zM U (zO U (bR (p:=some (.int .i64 ((n-μ.base:Nat):Int))) (q:=none) (m:=none) (p':=some (n-μ.base)) (q':=none) (m':=none) U U U U (by rfl) U U kI.1)<|ah.any U U U U (OpR.call U U U U (T6 hT (s.ae [3]) (uq (bh _ _) Y) Q)) λw h s=>?_))))))))));have hw:=(s.buf (k:=0) U).view.cells;have s1:=s;refine zM U (zM U (zN U (zF U (wP _ _) (zL U (s.ld 4 U cW U) (zM U (zO U (ag U U (by exact gz ay))<|zN U (zF U (jB _ _) (ah.cy U U U (OpR.dX U U U (s.cS (k:=4) U gL U O U U)) ?_))))))));rintro v h ⟨rfl,s⟩;have s2:=s;refine zN U (zF U (kx _ _) (ah.cy U U U (OpR.dX U U U (s.cS (k:=4) U jN U O hw.1 hw.2)) ?_));rintro v h ⟨rfl,s⟩;have s3:=s;refine zN U (zF U (kz _ _) (ah.cy U U U (OpR.dX U U U (s.cS (k:=4) U mM U O BI.1 BI.2.1)) ?_));rintro v h ⟨rfl,s⟩;have s4:=s;refine zN U (zF U (wP _ _) (ah.cy U U U (OpR.dX U U U (s.cS (k:=4) U kr U O U U)) ?_));rintro v h ⟨rfl,s⟩;refine ah.nil ⟨⟨λ_ _=>.inr ⟨U,⟨_,aD U⟩,aA _ U⟩,λ_ _=>.inr ⟨U,⟨_,aD U⟩,aA _ U⟩,λ_ _=>.inr ⟨U,⟨_,aD U⟩,aA _ U⟩,λ_ _=>.inr ⟨U,⟨_,aD U⟩,aA _ U⟩,λ_ _=>.inr ⟨U,⟨_,aD U⟩,aA _ U⟩,aa,aa,aa,aa,aa,aa,aa,λ_ _=>.inr ⟨U,⟨_,aD U⟩,BI.2.2⟩,λ_ _=>.inr ⟨U,⟨_,aD U⟩,aA _ U⟩,λ_ _=>.inr ⟨U,⟨_,jq U⟩,aA _ U⟩,λ_ _=>.inr ⟨U,⟨_,gy U (wP _ _)⟩,aA _ U⟩,cY (.inr ⟨U,⟨_,o_load U (s0.ld 2 U cW U)⟩,aA _ U⟩) (.inr ⟨U,⟨_,o_load U (s1.ld 4 U cW U)⟩,aA _ U⟩),λ_ _=>.inr ⟨U,⟨_,aD U⟩,aA _ U⟩,λ_ _=>.inr ⟨U,⟨_,ag U U (by exact gz ay)⟩,aA _ U⟩,dq 13⟩,zK 4 U (WP.ret ?_)⟩;rw[adI] at s;exact iM _ _ he U (dQ.2 ⟨w,ZR,((s.ae [4,0,1,2]).del 5).del 4⟩)
 .skip;exact zB U aE Q<|zk 7 U (WP.ret (Pk _ _ he U (dQ.2 ⟨bv,sv,s⟩)))
end
section
variable {told:bU} {p:Nat} {op v:V}
theorem cut_ct (hT:W told){n:Nat}(s:Sat h (bD q p μ::aS p δ::S))(J:μ.Ok)(Cx:δ.Ok)(hn:n<18446744073709551616):
  Call ⟨prog,told⟩ 114 [.ptr q 0,.int .u64 (n:Int)] h λv h'=>v=.int .i64 (iB (μ,δ) n).1/\Sat h' (bD q p (iB (μ,δ) n).2.1::aS p (iB (μ,δ) n).2.2::S):=by
 have s0:=s;have abm:=J.forced;obtain⟨bv,sv,s⟩:=dQ.1 s;refine Call.of_wp (hT.free _ U) func114 U U (zK 9 U ?_);have rest:¬((n≠μ.base+μ.b.length/\μ.hasB n=false)\/μ.base+μ.forced<n\/(μ.check≠0/\μ.check<n))->μ.base<=n->∀E:List (Nat×V),Has E [(0,.ptr q 0),(1,.int .u64 (n:Int))] ->
   WP ⟨prog,told⟩ 121 ctR E h λex E' h'=>(match ex with|.exit _=>False|_=>True)/\∃v,resLE prog E' h' [.tmp 4]=some v/\(v=.int .i64 (iB (μ,δ) n).1/\Sat h' (bD q p (iB (μ,δ) n).2.1::aS p (iB (μ,δ) n).2.2::S)):=by
  refine λI hle E hE=>XH hT s0 J Cx hle Y hE (λE' h' h1 h2 s'=>?_) (λE' h' h1 h2 s'=>?_)
  .grind[iB,jk]
  grind[iB,jk]
 refine zc U (qp hT s0 J.size) ?_;rintro v h' ⟨rfl,rfl⟩;by_cases he:n=μ.base+μ.b.length
 .skip;refine zC U aE Q<|zk 9 U (zc U (wg hT s0 J.size J.forced) ?_);rintro v h' ⟨rfl,rfl⟩;by_cases hf:μ.base+μ.forced<n
  .skip;refine zB U dc Q<|zk 22 U (WP.ret ⟨aa,_,U,?_⟩);rw[iB,bk (.inr (.inl hf))];exact⟨U,s0⟩
  .skip;refine zC U dc Q<|zk 4 U (zY s 0 uf b8 U ?_);by_cases hc:μ.check=0
   .skip;refine zC U aE Q<|zk 11 U ?_;have I:¬((n≠μ.base+μ.b.length/\μ.hasB n=false)\/μ.base+μ.forced<n\/(μ.check≠0/\μ.check<n)):=Y;exact WP.skip (rest I Y _ ⟨U,U,aa⟩)
   .skip;refine zB U aE Q<|zk 4 U (zY s 0 uf b8 U ?_);by_cases ZT:μ.check<n
    .skip;refine zB U dc Q<|zk 8 U (WP.ret ⟨aa,_,U,?_⟩);rw[iB,bk (.inr (.inr ⟨hc,ZT⟩))];exact⟨U,s0⟩
    .skip;refine zC U dc Q<|zk 4 U ?_;have I:¬((n≠μ.base+μ.b.length/\μ.hasB n=false)\/μ.base+μ.forced<n\/(μ.check≠0/\μ.check<n)):=Y;exact WP.skip (rest I Y _ ⟨U,U,aa⟩)
 .skip;refine zB U aE Q<|zk 3 U (zc U (D_ (n:=n) hT s0 J hn) ?_);rintro v h' ⟨rfl,rfl⟩;cases hh:μ.hasB n with
  |false =>
   refine zo U (cI U U) (zk 28 U (WP.ret ⟨aa,_,U,?_⟩));rw[iB,bk (.inl ⟨he,hh⟩)];exact⟨U,s0⟩
  |true =>
   refine zo U (cI U U) (zk 4 U (zc U (wg hT s0 J.size J.forced) ?_));rintro v h' ⟨rfl,rfl⟩;by_cases hf:μ.base+μ.forced<n
   .skip;refine zB U dc Q<|zk 22 U (WP.ret ⟨aa,_,U,?_⟩);rw[iB,bk (.inr (.inl hf))];exact⟨U,s0⟩
   .skip;refine zC U dc Q<|zk 4 U (zY s 0 uf b8 U ?_);by_cases hc:μ.check=0
    .skip;refine zC U aE Q<|zk 11 U ?_;have I:¬((n≠μ.base+μ.b.length/\μ.hasB n=false)\/μ.base+μ.forced<n\/(μ.check≠0/\μ.check<n)):=Q;exact WP.skip (rest I (IN hh) _ ⟨U,U,aa⟩)
    .skip;refine zB U aE Q<|zk 4 U (zY s 0 uf b8 U ?_);by_cases ZT:μ.check<n
     .skip;refine zB U dc Q<|zk 8 U (WP.ret ⟨aa,_,U,?_⟩);rw[iB,bk (.inr (.inr ⟨hc,ZT⟩))];exact⟨U,s0⟩
     .skip;refine zC U dc Q<|zk 4 U ?_;have I:¬((n≠μ.base+μ.b.length/\μ.hasB n=false)\/μ.base+μ.forced<n\/(μ.check≠0/\μ.check<n)):=Q;exact WP.skip (rest I (IN hh) _ ⟨U,U,aa⟩)
end
def lowF (π:Pl): List Int->Nat->Nat
 |[],m=>m
 |n::l,m=>lowF π l (min m (dirtOf π n 0))
theorem IP (π:Pl): ∀(l:List Int) (m:Nat),lowF π l m<=m:=by
 intro l;induction l with
 |nil=>intro m;exact az _
 |cons n l I=>intro m;exact b7 (I _) (Nat.min_le_left _ _)
theorem T7 (π:Pl): ∀ {l:List Int} {i:Nat} {n:Int},l[i]?=some n->((dirtC π l).drop (i*2)).take 2=[.int .i64 n,.int .u64 (dirtOf π n 0:Nat)]:=by
 intro l;induction l with
 |nil=>simp
 |cons x l I =>
  intro i n h;cases i with
  |zero=>simp at h;subst h;rfl
  |succ i =>
   rw[show(i+1)*2=i*2+2 by omega];exact I h
section
variable {told:bU} {p:Nat} {op v:V} {cn:Bool}
noncomputable def ckL : Code:=aV [1,1,1,0,1,0,0] ((f53.body).getD .skip)
theorem abn (hT:W told){av t2:V}(JE:ks.length<=1048576): ∀(j i:Nat) (low:Nat) (h:H) (E:List (Nat×V)) (a8:Ex->List (Nat×V)->H->Prop),i+j=ks.length ->
  Sat h (.arr 2 av (dirtC π ks)::S)->Has E [(0,.ptr a 0),(1,t1),(2,t2),(7,.int .u64 (low:Int)),(40,av),(41,.int .i64 ks.length),(42,.int .i64 i)] ->
  (∀E' h',Has E' [(0,.ptr a 0),(1,t1),(2,t2),(7,.int .u64 (lowF π (ks.drop i) low:Nat))]->Sat h' (.arr 2 av (dirtC π ks)::S)->a8 (.exit 1) E' h') ->
  WP ⟨prog,told⟩ 118 (.loop ckL) E h a8:=by
 intro j;induction j with
 |zero =>
  refine λi low h E a8 hi s hE J=>WP.loop (WP.has hE (zg U (zC U aG Q<|zk 3 U (WP.exit ?_))));rw[mA Y] at J;exact J _ _ ⟨U,U,U,U,aa⟩ s
 |succ j ih =>
  intro i low h E a8 hi s hE J;have hn:ks[i]?=some (ks[i]' Y):=aI _;have I:ks.drop i=ks[i]' Y::ks.drop (i+1):=Di Y;generalize (ks[i]' Y)=n at hn I;rw[I] at J;have vC:=T7 π hn;obtain⟨id,off,g1,g2⟩:=Tk (P:=prog) (i:=i) s (j:=0) U (by rw[CA];omega) O Co QK;have g2:=g2 afa;rw[vC] at g2;have WG:min (low:Int) ((dirtOf π n 0:Nat):Int)=((min low (dirtOf π n 0):Nat):Int):=Y;refine WP.loop (WP.has hE (zg U (zB U aG Q<|zk 5 U (WP.block (zg U (zo U (aJ (.ptr id off) U U g1) (zl U g2<|aq.bG s U U U (bK KD) (λp9 h s=>?_))))))));dsimp only[V.cells,List.length_cons,List.length_nil,Nat.reduceAdd] at s;refine zS U (s.dS (j:=0) U QK U U) (λh s=>?_);dsimp only[setA] at s;refine zk 3 U (zY s 0 aaK b8 U (zo U (adj U U adi) ?_));rw[WG];exact za U (zv (zr U (zb U (by exact aT ay)<|zm U (zv<|ih (i+1) _ _ _ a8 Y (s.del 0) ⟨U,U,U,U,U,U,U,aa⟩ J))))
end
theorem G7 {x:LD}{n:Nat}(h:x.1.Ok)(h2:x.2.Ok)(I:n<=1099511627776): (jC x n).2.1.Ok/\(jC x n).2.2.Ok:=by
 have J:(x.2.s_ (fC x.1.base n)).2.Ok:=by
  unfold Dk.s_;split
  .exact h2
  .split
   .exact h2
   .split
    .exact h2.die
    .exact⟨h2.bZ.a_,h2.len,h2.room,h2.now,h2.aU,h2.bP,h2.many⟩
 unfold jC;split
 .grind
 .split
  .grind
  .exact⟨⟨h.size,h.many,h.low,h.A2,h.forced,h.len,I⟩,J⟩
def iC (ε:bn): Nat:=lowF ε.1 (bj ε.1.bI) (ε.2.1.base+ε.2.1.b.length)
def jG (ε:bn)(data:List Nat): (Nat×Int)×LD:=bx ε.2 8 0 0 0 (le 8 (iC ε)++data) []
theorem adJ (I:rz ε)(J:ε.2.1.b=ε.2.2.log)(hz:ε.2.1.base+ε.2.1.b.length+1048584<=1099511627776): (jG ε data).2.1.Ok/\(jG ε data).2.2.Ok/\(jG ε data).1.1<1099511627776:=by
 have h:=yU (x:=ε.2) (kd:=8) (tx:=0) (pv:=0) (nx:=0) (data:=le 8 (iC ε)++data) (c:=[]) I.lg I.dk J hz;exact⟨h.1,h.2.1,h.2.2.2.2.2.2⟩
def vl (ε:bn)(lo:Nat): Nat:=if lo=0 then iC ε else min (iC ε) lo
def lX (y:(Nat×Int)×LD): Int×LD:=bL y.2 y.1.1
def ji (y:(Nat×Int)×LD): Int×LD:=jC (lX y).2 y.1.1
theorem Pv {y:(Nat×Int)×LD}(h:y.2.1.Ok): (lX y).2.1.Ok:=by
 exact yT h
theorem Pw {y:(Nat×Int)×LD}(h:y.2.2.Ok): (lX y).2.2.Ok:=by
 exact qq h
theorem adK {y:(Nat×Int)×LD}(h:y.2.1.Ok)(h2:y.2.2.Ok)(I:y.1.1<1099511627776): (ji y).2.1.Ok/\(ji y).2.2.Ok:=by
 grind[ji,G7,Pv,Pw]
inductive L_ (y:(Nat×Int)×LD)(kp:Nat)(data cO:List Nat)(aF:Nat): Int->LD->List Nat->Nat->Prop
 |app:y.1.2≠0->L_ y kp data cO aF y.1.2 y.2 cO aF
 |force:y.1.2=0->(lX y).1≠0->L_ y kp data cO aF (lX y).1 (lX y).2 cO aF
 |check:y.1.2=0->(lX y).1=0->(ji y).1≠0->L_ y kp data cO aF (ji y).1 (ji y).2 cO aF
 |cut (t:Nat):y.1.2=0->(lX y).1=0->(ji y).1=0 ->
   ((t=(ji y).2.1.base+(ji y).2.1.b.length/\(ji y).2.1.base+(ji y).2.1.b.length<=kp)\/((ji y).2.1.hasB t=true/\t<=kp)\/t=(ji y).2.1.base) ->
   (ji y).2.1.base<t->((ji y).2.1.hasB kp=true->kp<(ji y).2.1.base+(ji y).2.1.b.length->t=kp)->L_ y kp data cO aF (iB (ji y).2 t).1 (iB (ji y).2 t).2 data y.1.1
 |iF:y.1.2=0->(lX y).1=0->(ji y).1=0->((ji y).2.1.hasB kp=true->kp<(ji y).2.1.base+(ji y).2.1.b.length->kp<=(ji y).2.1.base)->L_ y kp data cO aF 0 (ji y).2 data y.1.1
inductive Px (ε:bn)(lo:Nat)(data cO:List Nat)(aF:Nat): Int->bn->List Nat->Nat->Prop
 |big:4096<data.length->Px ε lo data cO aF 2 ε cO aF
 |dead:data.length<=4096->ε.2.2.dead=true->Px ε lo data cO aF 9 ε cO aF
 |go (e:Int) (y:LD) (uP:List Nat) (nG:Nat):data.length<=4096->ε.2.2.dead=false->L_ (jG ε data) (vl ε lo) data cO aF e y uP nG->Px ε lo data cO aF e (ε.1,y) uP nG
section
variable {told:bU} {p:Nat} {op v:V}
noncomputable def ckB : Code:=aV [1,1,1,1,1,1,1,1,1,1] ((f53.body).getD .skip)
theorem adL (I:W told){lw:Nat}{w:V}{y:LD}(s:Sat h (bD q p y.1::aS p y.2::pt a (.cells 6 (G1 a p q r .aW w aL) false)::S))(h1:y.1.Ok)(h2:y.2.Ok)(J:lw<18446744073709551616)(hE:Has E [(0,.ptr a 0),(7,.int .u64 (lw:Int))])
 (q1:∀t E' h',((t=y.1.base+y.1.b.length/\y.1.base+y.1.b.length<=lw)\/(y.1.hasB t=true/\t<=lw)\/t=y.1.base)->y.1.base<t->(y.1.hasB lw=true->lw<y.1.base+y.1.b.length->t=lw)->look E' 6=some (.int .i64 (iB y t).1) ->
   Sat h' (bD q p (iB y t).2.1::aS p (iB y t).2.2::pt a (.cells 6 (G1 a p q r .aW w aL) false)::S)->a8 .ret E' h')
 (q2:∀E' h',(y.1.hasB lw=true->lw<y.1.base+y.1.b.length->lw<=y.1.base)->look E' 6=some (.int .i64 0)->Sat h' (bD q p y.1::aS p y.2::pt a (.cells 6 (G1 a p q r .aW w aL) false)::S)->a8 .ret E' h'):
  WP ⟨prog,told⟩ 118 ckB E h a8:=by
 have aiO:=h1.size;refine WP.has hE (zK 5 U (zY s 2 jA mw U (zm U (zc U (TA (n:=lw) I s h1 J) ?_))));rintro v _ ⟨rfl,t,rfl,hr,hx⟩;refine zk 7 U (zY s 2 jA mw U (zc U (yA I s) ?_));rintro v h ⟨rfl,rfl⟩;by_cases hg:y.1.base<t
 .skip;refine zB U dc Q<|zk 6 U (zY s 2 jA mw U (zm U (zc U (cut_ct (n:=t) I s h1 h2 Y) ?_)));rintro v h ⟨rfl,s⟩;exact zk 2 U (WP.ret (q1 t _ _ hr hg hx U s))
 .skip;exact zC U dc Q<|zk 7 U (WP.ret (q2 _ _ (λa b=>Q) U s))
noncomputable def agR : Code:=aV [1,1,1,1,1] ((f53.body).getD .skip)
theorem abo (hT:W told){low lo:Nat}{y:(Nat×Int)×LD}(kO:cQ X (cT x data))(qy:data.length<=4096)(s:Sat h (bD q p y.2.1::aS p y.2.2::X::dJ a p q r .aW cO aF::S))(h1:y.2.1.Ok)(h2:y.2.2.Ok)(h3:y.1.1<1099511627776)(A0:low<18446744073709551616)(tw:lo<18446744073709551616)(hE:Has E [(0,.ptr a 0),(1,.int .u64 (lo:Int)),(2,x),(7,.int .u64 (low:Int)),(10,.int .u64 (y.1.1:Int)),(11,.int .i64 y.1.2)])
 (hq:∀e y' uP nG E' h',L_ y (if lo=0 then low else min low lo) data cO aF e y' uP nG->look E' 6=some (.int .i64 e)->Sat h' (bD q p y'.1::aS p y'.2::X::dJ a p q r .aW uP nG::S)->a8 .ret E' h'):
  WP ⟨prog,told⟩ 118 agR E h a8:=by
 have adM:=Pv h1;have adO:=Pw h2;have mQ:=adK h1 h2 h3;obtain⟨dv,s⟩:=bV.1 (s.ae [3]);have s:=s.ae [2,2,2,0,0];obtain⟨y2,I⟩:∃y2,y2=lX y:=⟨_,U⟩;obtain⟨y3,J⟩:∃y3,y3=ji y:=⟨_,U⟩;have ey2:bL (y.2.1,y.2.2) y.1.1=y2:=by rw[I,lX]
 have ey3:jC (y2.2.1,y2.2.2) y.1.1=y3:=by rw[I,J,ji]
 rw[<-I] at adM adO;rw[<-J] at mQ;refine WP.has hE (zK 4 U ?_);by_cases he:y.1.2=0
 .skip;refine zC U aE Q<|zk 8 U (zY s 3 jA mw U (zm U (zc U (IC hT s h1 h2.a_) ?_)));rw[ey2];rintro v h ⟨rfl,s⟩;refine zk 5 U ?_;by_cases BG:y2.1=0
  .skip;refine zC U aE Q<|zk 8 U (zY s 3 jA mw U (zm U (zc U (aa4 hT s adM adO.a_ (Nat.lt_trans h3 O)) ?_)));rw[ey3];rintro v h ⟨rfl,s⟩;refine zk 5 U ?_;by_cases TX:y3.1=0
   .skip;refine zC U aE Q<|zk 8 U (zc U (qo hT (s.ae [2]) kO Y) λw h s=>?_);have hw:=(s.buf (k:=0) U).view.cells;have s:=s.ic;refine zk 2 U (zf U (O7 _ _) (zS U (s.cS (k:=4) U jN U O hw.1 hw.2) λh s=>zn U (zf U (Io _ _)<|zS U (by exact s.cS (k:=4) U gL U O U U) (λh s=>(zk 5 U ?_)))));have s:=s.ae [2,2,2,0,0];have rest:∀lw E,lw=(if lo=0 then low else min low lo)->lw<18446744073709551616->Has E [(0,.ptr a 0),(7,.int .u64 (lw:Int))]->WP ⟨prog,told⟩ 118 ckB E h a8:=by
     refine λlw E adP bY hE=>adL hT s mQ.1 mQ.2 bY hE (λt E' h' hr hg hx l6 s=>?_) (λE' h' hx l6 s=>?_)
     .subst adP I J;exact hq _ _ _ _ E' h' (.cut t he BG TX hr hg hx) l6 ((bV.2 ⟨w,(s.ae [2,2,0,0,0]).del 5⟩).ae [1,1,1,0])
     .subst adP I J;exact hq _ _ _ _ E' h' (.iF he BG TX hx) l6 ((bV.2 ⟨w,(s.ae [2,2,0,0,0]).del 5⟩).ae [1,1,1,0])
    by_cases h0:lo=0
    .skip;exact zC U aE Q<|zk 2 U (WP.skip (rest low _ Q A0 ⟨U,U,aa⟩))
    .skip;refine zB U aE Q<|zk 5 U (zo U (adj U U adi) ?_);have hmn:min (low:Int) (lo:Int)=((min low lo:Nat):Int):=Y;rw[hmn];exact zk 2 U (rest (min low lo) _ Q Y ⟨U,U,aa⟩)
   .skip;refine zB U aE Q<|zk 7 U (WP.ret ?_);subst I J;exact hq _ _ _ _ _ _ (.check he BG TX) U ((bV.2 ⟨dv,s.ae [3,3,0,0,0]⟩).ae [1,1,1,0])
  .skip;refine zB U aE Q<|zk 7 U (WP.ret ?_);subst I J;exact hq _ _ _ _ _ _ (.force he BG) U ((bV.2 ⟨dv,s.ae [3,3,0,0,0]⟩).ae [1,1,1,0])
 .skip;exact zB U aE Q<|zk 7 U (WP.ret (hq _ _ _ _ _ _ (.app he) U ((bV.2 ⟨dv,s.ae [3,3,0,0,0]⟩).ae [1,1,1,0])))
theorem abp (hT:W told){lo:Nat}(s:Sat h (dJ a p q r .aW cO aF::dx r p q ε.1::bD q p ε.2.1::aS p ε.2.2::X::S))(hX:cQ X (cT x data))(kQ:rz ε)(tw:lo<18446744073709551616)
 (hm:ε.1.bI.length<=1048576)(hk:∀n∈ε.1.bI.map (·.1),(Lit.int .i64 n).wf=true)(Rj:ε.2.1.b=ε.2.2.log)(hz:ε.2.1.base+ε.2.1.b.length+1048584<=1099511627776):
  Call ⟨prog,told⟩ 53 [.ptr a 0,.int .u64 (lo:Int),x] h λv h'=>∃e aj I J,Px ε lo data cO aF e aj I J/\v=.int .i64 e /\
   Sat h' (dJ a p q r .aW I J::dx r p q aj.1::bD q p aj.2.1::aS p aj.2.2::X::S):=by
 have s0:=s;have kO:=s.aQ 4 U hX;obtain⟨dv,s⟩:=bV.1 s;refine Call.of_wp (hT.free _ U) func53 U U (zK 5 U (WP.block (zK 4 U (zY s 0 rT Ii U (zC U (Ri qU) U (zk 6 U (zo U (aO U U U (bC aZ kO)) ?_)))))));by_cases hb:4096<data.length
 .skip;exact zB U dc Q<|zk 7 U (WP.ret ⟨aa,_,U,2,ε,_,_,.big hb,U,s0⟩)
 .have qy:data.length<=4096:=Y;refine zC U dc Q<|zk 7 U (zY s 0 ue kU U (zc U (AZ hT (s.ae [4])) ?_));rintro v h ⟨rfl,rfl⟩;refine zk 2 U ?_;cases hd:ε.2.2.dead with
  |true =>
   exact zK 5 U (WP.ret ⟨aa,_,U,9,ε,_,_,.dead qy hd,U,s0⟩)
  |false =>
   refine zj U (WP.skip (zg U (zk 2 U (zf U (jA _ _) (zl U (by exact s.ld 0 U mw U)<|zc U (qp hT (s.ae [3]) kQ.lg.size) ?_)))));rintro v h ⟨rfl,rfl⟩;refine zk 7 U (zY s 0 ql vZ U (zc U (Xf hT (s.ae [2]) hm hk) λav h s=>?_));have hl:(bj ε.1.bI).length=ε.1.bI.length:=by rw[bj,(fB _).length_eq,cL]
   refine zo U (aO U U U (s.fo ((bj ε.1.bI).length) (j:=0) U (by rw[CA]) O Co))<|zk 2 U (WP.block<|abn hT (ks:=bj ε.1.bI) Y (bj ε.1.bI).length 0 (ε.2.1.base+ε.2.1.b.length) _ _ _ Y s ⟨U,U,U,U,U,U,U,aa⟩ (λE' h' fg s'=>?_));rw[kj] at fg;have fg:Has E' [(0,.ptr a 0),(1,.int .u64 (lo:Int)),(2,x),(7,.int .u64 (iC ε:Nat))]:=fg;have s:=s'.del 0;have A0:iC ε<18446744073709551616:=by
    grind[IP,iC]
   refine WP.has fg (zw ?_);have ZU:=adJ (data:=data) kQ Rj hz;have s:=s.pK;have s0:=s;have O3:=fO kO;refine WP.drawn [some (0,3),some (0,3),some (0,3),some (0,3),none,none,some (0,2),af,af,af,af,af,af,af,af] U bo bo<|zM U (zN U (zF U (jA _ _) (zL U (s.ld 2 U mw U) (zM U (ah.any U U U U (OpR.call U U U U (qS (z:=8) hT s O cb)) λv1 h s=>?_)))));rw[iQ] at s;have s1:=s;obtain⟨lw,hlw⟩:∃lw,lw=le 8 (iC ε):=⟨_,U⟩;have aiP:lw.length=8:=by rw[hlw,dI]
   have eck:jG ε data=bx ε.2 8 0 0 0 (lw++data) []:=by rw[hlw];rfl
   rw[<-hlw] at s;refine zM U (ah.any U U U U (OpR.sW U (s.ae [0,5]) hX U U U U Y) λv2 h s=>?_);obtain⟨vi,vo,vc,rfl⟩:=jf (s.buf (k:=0) U).view Q;have s2:=s;refine zO U (cE U (by rw[vY];rfl)) ?_;have s:Sat h (.arr 4 .aP []::c6 [] []::_):=(s.eF (φ:=True) aa).jr;refine ah.any U U U U (OpR.call U U U U (LQ (kd:=8) (tx:=0) (pv:=0) (nx:=0) (ch:=.aP) hT (s.ae [7,7,2,0,0]) (bh _ _) ⟨by simp[Au],O,O,O,Q⟩ kQ.lg kQ.dk)) ?_;rintro v h ⟨rfl,s⟩;rw[show bx (ε.2.1,ε.2.2) 8 0 0 0 (lw++data) []=jG ε data from eck.symm] at s ⊢;obtain⟨y1,Ma⟩:∃y1,y1=jG ε data:=⟨_,U⟩;rw[<-Ma] at s ZU ⊢;refine zM U (zO U (c_ U U) (zO U (c_ U U) (zA U (zA U<|ah.nil ⟨⟨λ_ _=>.inr ⟨U,⟨_,aD U⟩,aA _ U⟩,λ_ _=>.inr ⟨U,⟨_,jq U⟩,aA _ U⟩,λ_ _=>.inr ⟨U,⟨_,gy U (jA _ _)⟩,aA _ U⟩,lT (.inr ⟨U,⟨_,o_load U (s0.ld 2 U mw U)⟩,aA _ U⟩) (.inr ⟨U,⟨_,o_load U (s1.ld 2 U mw U)⟩,aA _ U⟩) (.inr ⟨U,⟨_,o_load U (s2.ld 3 U mw U)⟩,aA _ U⟩),aa,aa,λ_ _=>.inr ⟨U,⟨_,aD U⟩,O3⟩,dq 9⟩,?_⟩))));have s:=((s.del 4).del 3).del 2;have s:=(bV.2 ⟨dv,s.ae [4,4]⟩).ae [1,1,1,0];refine abo hT hX qy s ZU.1 ZU.2.1 ZU.2.2 A0 tw ⟨U,U,U,U,U,U,aa⟩ (λe y' I J E' h' hc l6 s2=>?_);subst Ma;exact⟨aa,_,jk l6,e,(ε.1,y'),I,J,.go e y' I J qy hd hc,U,s2.ae [3,3,0,0,0]⟩
end
theorem Rn : ∀ {l:List Nat},(∀b∈l,b<256)->bytesOf (ofBytes l)=some l:=by
 intro l;induction l<;>grind[List.mem_cons_self,ofBytes,bytesOf]
theorem cvS {v:V}(I:View h v l): convV prog h 23 9 v=some (.str l,h):=by
 obtain⟨hb,(⟨rfl|⟨ea,rfl⟩,rfl⟩|⟨id,off,cap,n,cs,st,rfl,J,hl,ho,hc,_⟩)⟩:=I
 .simp[convV]
 .simp[convV]
 .have e:rdN h id off l.length=some (ofBytes l):=by rw[qP J hl ho,hc]
  simp_all[convV,Rn]
def ZV (l:List Nat): List Nat:=if l.length≠512\/l=List.replicate 512 0 then[] else l.drop 12
structure DK (δ Rc:Dk): Prop where
 dead:Rc.dead=δ.dead
 a_:Rc.a_=δ.a_
 aU:Rc.aU=δ.aU
 now:Rc.now=δ.now
theorem DK.refl (δ:Dk): DK δ δ:=⟨U,U,U,U⟩
theorem DK.at (h:DK δ Rc)(n:Int): Rc.at n=δ.at n:=by rw[Dk.at,Dk.at,h.now,h.aU]
structure DA (N:Nat)(δ:Dk): Prop where
 alive:δ.dead=false
 a_:δ.a_<0
 aU:δ.aU.length=N
 keys:∀k:Int,k∈δ.now.map (·.1)->0<=k/\k<N
 nodup:(δ.now.map (·.1)).Nodup
 good:∀n:Int,0<=n->n<N->jt (δ.at n)=0
theorem DA.of (h:DA N δ)(k:DK δ Rc): DA N Rc :=
 ⟨k.dead.trans h.alive,by rw[k.a_];exact h.a_,by rw[k.aU];exact h.aU,by rw[k.now];exact h.keys,by rw[k.now];exact h.nodup,λn a b=>by rw[k.at];exact h.good n a b⟩
theorem lY (h:δ.a_<0): δ.bZ=δ:=by
 have:(if 0<δ.a_ then δ.a_-1 else δ.a_)=δ.a_:=ax Y;rw[Dk.bZ,this]
theorem Mb (h:DA N δ): δ.gR=(0,{ δ with bP:=δ.log.length }):=by
 rw[Dk.gR,ax (by rw[h.alive];decide),ax (by have:=h.a_;omega),lY h.a_]
theorem abq (h:DA N δ)(I:b.length<=64): δ.s_ b=(0,{ δ with mark:=b }):=by
 rw[Dk.s_,ax (by rw[h.alive];decide),ax Y,ax (by have:=h.a_;omega),lY h.a_]
theorem JL {x:LD}{n:Nat}(h:DA N x.2): (bL x n).1=0/\DK x.2 (bL x n).2.2:=by
 unfold bL;split
 .exact⟨U,DK.refl _⟩
 .rw[Mb h,ax cb];exact⟨U,U,U,U,U⟩
theorem XI (h:DA N δ)(h0:0<=n)(h1:n<N)(hb:b.length=512)(hc:jt b=0):
  (δ.dY n b).1=0/\DA N (δ.dY n b).2/\∀m,(δ.dY n b).2.at m=if n=m then b else δ.at m:=by
 have e:δ.dY n b=(0,δ.wr n b):=by
  rw[Dk.dY,ax (by rw[h.alive];decide),ax (not_not_intro ⟨h0,by rw[h.aU];exact h1,hb⟩),ax (by have:=h.a_;omega)]
 have qD:(δ.wr n b).now=dM n b δ.now:=rfl;have ig:(δ.wr n b).aU=δ.aU:=rfl;have I:∀m,(δ.wr n b).at m=if n=m then b else δ.at m:=λm=>by
  grind[Dk.at,mN]
 have J:(δ.wr n b).a_=δ.a_:=by
  show δ.bZ.a_=δ.a_;rw[lY h.a_]
 rw[e];refine⟨U,⟨h.alive,by rw[J];exact h.a_,h.aU,λx hx=>?_,?_,λm a c=>?_⟩,I⟩
 .rcases xy.1 hx with rfl|hx
  .omega
  .exact h.keys x hx
 .exact nY h.nodup
 .rw[I];by_cases hm:n=m
  .grind
  .rw[ax hm];exact h.good m a c
theorem laidP_get : ∀ {l:List (Int×List Nat)} {m:List (Option (List Nat))} {n:Int} {N:Nat},m.length=N->(l.map (·.1)).Nodup->(∀k:Int,k∈l.map (·.1)->0<=k/\k<N)->0<=n->(laidP l m)[n.toNat]?=match lookL n l with
  |some b=>some (some b)
  |none=>m[n.toNat]?:=by
 intro l;induction l with
 |nil=>intro m n N _ _ _ _;rfl
 |cons e l ih =>
  intro m n N hm hd J hn;have I:e.1∉l.map (·.1)/\(l.map (·.1)).Nodup:=List.nodup_cons.1 hd;have h1:=J e.1 cb;rw[laidP,ih (N:=N) Q I.2 (λx hx=>J x Q) hn];grind[lookL,kX]
theorem abr (h:DA N δ): δ.k8.1=0/\DA N δ.k8.2/\∀m,0<=m->δ.k8.2.at m=δ.at m:=by
 have e:δ.k8=(0,δ.sync):=by rw[Dk.k8,ax (by rw[h.alive];decide),ax (by have:=h.a_;omega),lY h.a_]
 have I:∀m,0<=m->δ.sync.at m=δ.at m:=λm hm=>by
  rw[Dk.at,Dk.at];rw[show δ.sync.aU=laidP δ.now δ.aU from U,laidP_get h.aU h.nodup h.keys hm];cases hq:lookL m δ.now with
  |some b=>rfl
  |none=>rfl
 rw[e];refine⟨U,⟨h.alive,h.a_,by rw[show δ.sync.aU=laidP δ.now δ.aU from U,CD];exact h.aU,λx J=>(by cases J),tW,λm a c=>?_⟩,I⟩;rw[I m a];exact h.good m a c
theorem Oo {m:List Nat}{b:Nat}(h1:a+m.length<=l.length)(h2:a+m.length<=b): (bJ l a m).drop b=l.drop b:=by
 have I:(l.take a).length=a:=Q;rw[bJ,<-gX,Dt,mA Q,iQ,List.drop_drop,fL,I];congr 1;omega
theorem G8 {m:List Nat}(h:a+m.length<=l.length): (bJ l a m)[i]?=if a<=i/\i<a+m.length then m[i-a]? else l[i]?:=by
 grind[bJ]
theorem A9 {m:List Nat}(I:l.drop 12=m.drop 12)(J:12<=a): dU l a z=dU m a z:=by
 have e:∀l:List Nat,(l.take (a+z)).drop a=((l.drop 12).drop (a-12)).take z:=λl=>by
  simp_all[HV]
 rw[dU,dU,e,e,I]
theorem Oq {m:List Nat}(I:l.drop 12=m.drop 12){low:Nat}: ∀(n i:Nat) (t:List Bool),cellsL l low n i t=cellsL m low n i t:=by
 intro n;induction n<;>grind[ej,A9,jW,cellsL]
theorem Ro {m:List Nat}(J:l.length=m.length)(I:l.drop 12=m.drop 12): cH l=cH m:=by
 have e1:oU l=oU m:=A9 I Y;have e2:mW l=mW m:=A9 I Y;have e3:l.getD 13 0=m.getD 13 0:=by
  have:∀l:List Nat,l[13]?=(l.drop 12)[1]?:=λl=>by simp
  grind
 grind[cH,Oq]
theorem CP : ∀(k n:Nat),leN (le k n)=n%256^k:=by
 intro k;induction k<;>grind[le,leN,Nat.mod_mul]
theorem JM {n:Nat}(J:b.length=512): (dW b n).drop 12=b.drop 12/\(dW b n).length=512/\(dW b n).drop 4=(ry b n).drop 4/\dU (dW b n) 0 4=GO 0 ((ry b n).drop 4)%4294967296:=by
 have h1:=A1 (n:=n) J;have h2:(dW b n).length=512:=by grind[dW,dH,dI]
 have I:(dW b n).drop 4=(ry b n).drop 4:=by rfl
 have h4:(ry b n).drop 12=b.drop 12:=by grind[ry,Oo,dI]
 refine⟨?_,h2,I,?_⟩
 .have:=gY (List.drop 8) I;grind[List.drop_drop]
 .have e:(dW b n).take 4=le 4 (GO 0 ((ry b n).drop 4)):=by
   rfl
  grind[dU,CP]
theorem abt {n:Nat}(I:∀x∈b,x<256): ∀x∈ry b n,x<256:=Jx I (QZ _ _)
theorem T8 {n:Nat}(I:cH b=true)(hb:∀x∈b,x<256): jt (dW b n)=0/\cH (dW b n)=true/\ZV (dW b n)=b.drop 12:=by
 have J:=iU I;obtain⟨h1,h2,h3,h4⟩:=JM (n:=n) J;have Pb:cH (dW b n)=true:=by grind[Ro]
 have hz:cH (List.replicate 512 0)=false:=by decide +kernel
 grind[Fu,abt,jt,ZV]
def pgA (ε:bn)(n:Int): List Nat:=match lookL n ε.1.aM with
 |some i=>match ε.1.ai[i.toNat]? with
  |some f=>f.b
  |none=>ε.2.2.at n
 |none=>ε.2.2.at n
structure XJ (N:Nat)(δ:Dk)(aM:List (Int×Int))(i:Nat)(f:Fm): Prop where
 lt:f.bA<N
 here:lookL f.bA aM=some (i:Int)
 aF:jt f.b=0
 same:f.changed=false->f.b=δ.at f.bA
 qz:f.changed=true->cH f.b=true
structure EC (N:Nat)(ε:bn): Prop where
 dk:DA N ε.2.2
 nodup:(ε.1.aM.map (·.1)).Nodup
 lW:∀(n i:Int),lookL n ε.1.aM=some i->0<=n/\∃(j:Nat) (f:Fm),i=j/\ε.1.ai[j]?=some f/\f.bA=n
 back:∀(i:Nat) (f:Fm),ε.1.ai[i]?=some f->f.bA<0\/XJ N ε.2.2 ε.1.aM i f
 xI:∀k:Int,k∈ε.1.bI.map (·.1)->0<=k/\k<N
 ES:(ε.1.bI.map (·.1)).Nodup
theorem rC (h:lookL n ε.1.aM=some (j:Int))(I:ε.1.ai[j]?=some f): pgA ε n=f.b:=by
 grind[pgA]
theorem rD (h:lookL n ε.1.aM=none): pgA ε n=ε.2.2.at n:=by simp only[pgA,h]
theorem EC.cases (h:EC N ε)(n:Int): (∃(j:Nat) (f:Fm),lookL n ε.1.aM=some (j:Int)/\ε.1.ai[j]?=some f/\f.bA=n/\0<=n/\XJ N ε.2.2 ε.1.aM j f/\pgA ε n=f.b)\/(lookL n ε.1.aM=none/\pgA ε n=ε.2.2.at n):=by
 cases J:lookL n ε.1.aM with
 |none=>grind[rD]
 |some i =>
  obtain⟨h0,j,f,rfl,I,hp⟩:=h.lW n i J;refine .inl ⟨j,f,U,I,hp,h0,?_,rC J I⟩;rcases h.back j f I with h1|h1
  .omega
  .exact h1
theorem yE {m:List Fm}{g x:Fm}(I:m[i]?=some f)(J:(m.set i g)[j]?=some x): (i=j/\x=g)\/(i≠j/\m[j]?=some x):=by
 grind
theorem EC.set {g:Fm}{y:Lg}(h:EC N ε)(hf:ε.1.ai[i]?=some f)(hp:g.bA=f.bA)(J:DA N δ)
 (hg:g.bA<0\/XJ N δ ε.1.aM i g)(ho:∀(j:Nat) (x:Fm),i≠j->ε.1.ai[j]?=some x->0<=x.bA->δ.at x.bA=ε.2.2.at x.bA)(hd:∀k:Int,k∈d.map (·.1)->0<=k/\k<N)(mR:(d.map (·.1)).Nodup):
  EC N ({ ε.1 with ai:=ε.1.ai.set i g,bI:=d },(y,δ)):=by
 refine⟨J,h.nodup,λn k hk=>?_,λj x I=>?_,hd,mR⟩
 .obtain⟨h0,j,x,rfl,I,Mc⟩:=h.lW n k hk<;>grind
 .rcases yE hf I with⟨rfl,rfl⟩|⟨uU,I⟩
  .exact hg
  .rcases h.back j x I with h1|h1
   .omega
   .by_cases h2:x.bA<0
    .omega
    .refine .inr ⟨h1.lt,h1.here,h1.aF,λhc=>?_,h1.qz⟩;rw[ho j x uU I Y];exact h1.same hc
theorem Py {g:Fm}{x:LD}(I:ε.1.ai[i]?=some f)(J:g.b=f.b)(hx:lookL n ε.1.aM=none->x.2.at n=ε.2.2.at n)(hy:∀j:Int,lookL n ε.1.aM=some j->∃f',ε.1.ai[j.toNat]?=some f'):
  pgA ({ ε.1 with ai:=ε.1.ai.set i g,bI:=d },x) n=pgA ε n:=by
 unfold pgA;grind
theorem EC.there (h:EC N ε): ∀j:Int,lookL n ε.1.aM=some j->∃f',ε.1.ai[j.toNat]?=some f':=λj I=>by
 obtain⟨_,k,f,rfl,J,_⟩:=h.lW n j I<;>grind
theorem EC.out (h:EC N ε)(I:ε.1.ai[i]?=some f):
  (outF ε i).1=0/\EC N (outF ε i).2/\(∀n,pgA (outF ε i).2 n=pgA ε n)/\(outF ε i).2.1.aM=ε.1.aM/\∃g,(outF ε i).2.1.ai[i]?=some g/\g.bA=f.bA/\(0<=g.bA->g.changed=false):=by
 have hi:=(List.getElem?_eq_some_iff.1 I).1;unfold outF;rw[I];simp only;by_cases hc:f.bA<0\/f.changed=false
 .grind
 .rw[ax hc];have J:0<=f.bA:=Y;have sH:f.changed=true:=Q;have ho:=(h.back i f I).resolve_left Y;have hg:=ho.qz sH;rw[ax Q];obtain⟨e1,k1⟩:=JL (x:=ε.2) (n:=dU f.b 4 8) h.dk;rw[ax Y];obtain⟨e2,k2,k3⟩:=XI (h.dk.of k1) J ho.lt (iU hg) ho.aF;rw[ax Y];have yC:∀m,f.bA≠m->((bL ε.2 (dU f.b 4 8)).2.2.dY f.bA f.b).2.at m=ε.2.2.at m:=λm hm=>by rw[k3,ax hm,k1.at]
  refine⟨U,h.set I U k2 (.inr ⟨ho.lt,ho.here,ho.aF,λ_=>?_,λhq=>(by cases hq)⟩) (λj x uU hx h0=>yC _ λT9=>?_) (λk hk=>?_) (nY h.ES),λn=>?_,U,_,mB hi,U,λ_=>U⟩
  .grind
  .rcases h.back j x hx with h1|h1
   .omega
   .have:=h1.here;rw[<-T9,ho.here] at this;grind
  .rcases xy.1 hk with rfl|hk
   .exact⟨J,ho.lt⟩
   .exact h.xI k hk
  .exact Py I (by rfl) (λhn=>yC n λe=>by rw[<-e,ho.here] at hn;cases hn) h.there
theorem gO.back (I:gO π cu){x:Fm}(J:cu.ai[i]?=some x): ∃f t,π.ai[i]?=some f/\x={ f with gS:=t }:=by
 have hi:=(List.getElem?_eq_some_iff.1 J).1;rw[I.len] at hi;have hf:π.ai[i]?=some (π.ai[i]'hi):=aI _;obtain⟨t,ht⟩:=I.get i _ hf<;>grind
theorem EC.vF (h:EC N ε)(I:gO ε.1 cu): EC N (cu,ε.2)/\∀n,pgA (cu,ε.2) n=pgA ε n:=by
 refine⟨⟨h.dk,by rw[I.aM];exact h.nodup,λn i hi=>?_,λi x hx=>?_,by rw[I.bI];exact h.xI,by rw[I.bI];exact h.ES⟩,λn=>?_⟩
 .rw[I.aM] at hi;obtain⟨h0,j,f,rfl,J,hp⟩:=h.lW n i hi;obtain⟨t,ht⟩:=I.get j f J;exact⟨h0,j,_,U,ht,hp⟩
 .obtain⟨f,t,J,rfl⟩:=I.back hx;rcases h.back i f J with h1|h1
  .grind
  .exact .inr ⟨h1.lt,by rw[I.aM];exact h1.here,h1.aF,h1.same,h1.qz⟩
 .unfold pgA;simp only[I.aM];cases hl:lookL n ε.1.aM with
  |none=>rfl
  |some i =>
   obtain⟨h0,j,f,rfl,J,hp⟩:=h.lW n i hl;obtain⟨t,ht⟩:=I.get j f J<;>grind
theorem EC.eo {g:Fm}(h:EC N ε)(hg:ε.1.ai[i]?=some g)(hp:g.bA=f.bA)(hc:0<=g.bA->g.changed=false): EC N (eo ε.1 i f,ε.2)/\(∀n,pgA (eo ε.1 i f,ε.2) n=pgA ε n) /\
  (eo ε.1 i f).ai[i]?=some fD/\∀n,lookL n ε.1.aM=none->lookL n (eo ε.1 i f).aM=none:=by
 have hi:=(List.getElem?_eq_some_iff.1 hg).1;have J:(ε.1.ai.set i fD)[i]?=some fD:=mB hi;have T_:∀n,lookL n (Am.eo ε.1 i f).aM=if 0<=f.bA/\f.bA=n then none else lookL n ε.1.aM:=λn=>by
  rw[Am.eo];by_cases I:f.bA<0
  .grind
  .rw[ax I,Jz h.nodup];simp_all
 refine⟨⟨h.dk,?_,λn k hk=>?_,λj x hx=>?_,h.xI,h.ES⟩,λn=>?_,J,λn hn=>?_⟩
 .rw[Am.eo];by_cases I:f.bA<0
  .rw[bk I];exact h.nodup
  .rw[ax I];exact AX h.nodup
 .rw[T_] at hk;split at hk
  .cases hk
  .obtain⟨I,j,x,rfl,hx,Mc⟩:=h.lW n k hk;refine⟨I,j,x,U,?_,Mc⟩;show(ε.1.ai.set i fD)[j]?=some x;grind
 .rcases yE hg hx with⟨rfl,rfl⟩|⟨uU,hx⟩
  .exact .inl O
  .rcases h.back j x hx with h1|h1
   .omega
   .by_cases ZW:x.bA<0
    .omega
    refine .inr ⟨h1.lt,?_,h1.aF,h1.same,h1.qz⟩;rw[T_,ax]
    .exact h1.here
    .rintro⟨I,T9⟩;rcases h.back i g hg with h2|h2
     .omega
     .have e:=h2.here;rw[hp,T9,h1.here] at e;grind
 .rcases h.cases n with⟨j,x,hl,hx,Mc,I,ho,e⟩|⟨hl,e⟩
  .rw[e];by_cases T9:f.bA=n
   .have uU:i=j:=by
     rcases h.back i g hg with h2|h2
     .omega
     .have e:=h2.here;grind
    subst uU;rw[hg] at hx;have:=fY hx;subst this;rw[rD Q];rw[ho.same (hc Y),hp,T9]
   .refine rC (j:=j) Q ?_;show(ε.1.ai.set i fD)[j]?=some x;grind
  grind[rD]
 .grind
theorem EC.j8 {e:Fm}(h:EC N ε)(he:ε.1.ai[i]?=some e)(hp:e.bA<0)(hl:lookL n ε.1.aM=none)(h0:0<=n)(h1:n<N): EC N (j8 ε.1 i n (ε.2.2.at n),ε.2)/\∀m,pgA (j8 ε.1 i n (ε.2.2.at n),ε.2) m=pgA ε m:=by
 have hi:=(List.getElem?_eq_some_iff.1 he).1;have I:(ε.1.ai.set i ⟨n,ε.2.2.at n,1,true,false⟩)[i]?=some ⟨n,ε.2.2.at n,1,true,false⟩:=mB hi;have T_:∀m,lookL m (Am.j8 ε.1 i n (ε.2.2.at n)).aM=if n=m then some (i:Int) else lookL m ε.1.aM:=λm=>mN _;refine⟨⟨h.dk,nY h.nodup,λm k hk=>?_,λj x hx=>?_,h.xI,h.ES⟩,λm=>?_⟩
 .rw[T_] at hk;split at hk
  .rename_i J;have:=fY hk;subst this;subst J;exact⟨h0,i,_,U,I,U⟩
  .obtain⟨h0,j,x,rfl,hx,Mc⟩:=h.lW m k hk;refine⟨h0,j,x,U,?_,Mc⟩;show(ε.1.ai.set i _)[j]?=some x;grind
 .rcases yE he hx with⟨rfl,rfl⟩|⟨uU,hx⟩
  .exact .inr ⟨h1,Q,h.dk.good n h0 h1,λ_=>U,λhq=>(by cases hq)⟩
  .rcases h.back j x hx with h2|h2
   .omega
   .refine .inr ⟨h2.lt,?_,h2.aF,h2.same,h2.qz⟩;rw[T_,ax]
    .exact h2.here
    .rintro rfl;rw[h2.here] at hl;cases hl
 .by_cases J:n=m
  .subst J;rw[rC (j:=i) Q I,rD hl]
  .rcases h.cases m with⟨j,x,ir,hx,Mc,_,ho,e2⟩|⟨ir,e2⟩
   .rw[e2];refine rC (j:=j) Q ?_;show(ε.1.ai.set i _)[j]?=some x;grind
   grind[rD]
theorem EC.frame {g:Fm}(h:EC N ε)(hf:ε.1.ai[i]?=some f)(I:g.bA=f.bA)(J:g.b=f.b)(hc:g.changed=f.changed): EC N ({ ε.1 with ai:=ε.1.ai.set i g },ε.2)/\∀n,pgA ({ ε.1 with ai:=ε.1.ai.set i g },ε.2) n=pgA ε n:=by
 refine⟨h.set (y:=ε.2.1) (δ:=ε.2.2) hf I h.dk ?_ (λ_ _ _ _ _=>U) h.xI h.ES,λn=>Py hf J (λ_=>U) h.there⟩;rcases h.back i f hf with h1|h1
 .omega
 .exact .inr ⟨by rw[I];exact h1.lt,by rw[I];exact h1.here,by rw[J];exact h1.aF,by rw[I,J,hc];exact h1.same,by rw[J,hc];exact h1.qz⟩
theorem gP.ec (hr:gP ε n e b aj)(h:EC N ε): EC N aj/\(∀m,pgA aj m=pgA ε m)/\(0<=n->n<N->e=0/\b=pgA ε n)/\(¬(0<=n/\n<N)->e=1/\aj=ε):=by
 have ig:=h.dk.aU;cases hr with
 |arg I=>grind
 |Cy i f h1 h2 hl J =>
  obtain⟨k1,k2⟩:=h.frame (g:={ f with gS:=true,pins:=f.pins+1 }) J U U U<;>grind[rC]
 |out cu i f h1 h2 hl I J hh he=>exact absurd ((h.vF I).1.out J).1 he
 |read cu i f h1 h2 hl I J hh he hr =>
  obtain⟨k1,k2,k3,k4,g,k5,k6,k7⟩:=(h.vF I).1.out J;refine absurd ?_ hr;rw[ig] at h2;rw[Dk.uO,ax (by rw[k2.dk.alive];decide),ax (by rw[k2.dk.aU];exact not_not_intro ⟨h1,h2⟩)]
 |bad cu i f h1 h2 hl I J hh he hr hc =>
  obtain⟨k1,k2,k3,k4,g,k5,k6,k7⟩:=(h.vF I).1.out J;rw[ig] at h2;exact absurd (k2.dk.good n h1 h2) hc
 |load cu i f h1 h2 hl I J hh he hr hc =>
  obtain⟨n1,n2⟩:=h.vF I;obtain⟨k1,k2,k3,k4,g,k5,k6,k7⟩:=n1.out J;rw[ig] at h2;obtain⟨f1,f2,f3,f4⟩:=k2.eo k5 k6 k7;have ir:lookL n (outF (cu,ε.2) i).2.1.aM=none:=by rw[k4];rw[I.aM];exact hl
  obtain⟨l1,l2⟩:=f1.j8 f3 O (f4 n ir) h1 h2;exact⟨l1,λm=>Q,λ_ _=>⟨U,by grind[rD]⟩,λI=>absurd ⟨h1,h2⟩ I⟩
theorem Ua {x:LD}(h:EC N (π,x)): EC N ((unpinF π n).2,x)/\∀m,pgA ((unpinF π n).2,x) m=pgA (π,x) m:=by
 unfold unpinF;split
 .grind
 .split
  .grind
  .rename_i i hi f I;exact h.frame (g:={ f with pins:=f.pins-1 }) I U U U
theorem o_.ec (I:o_ ε n e b aj)(h:EC N ε)(J:∀f∈ε.1.ai,f.pins=0): EC N aj/\(∀m,pgA aj m=pgA ε m)/\(0<=n->n<N->e=0/\b=pgA ε n)/\(¬(0<=n/\n<N)->e=1/\aj=ε):=by
 cases I with
 |dead hd=>rw[h.dk.alive] at hd;cases hd
 |kP e b aj hd I he =>
  obtain⟨k1,k2,k3,k4⟩:=I.ec h<;>grind
 |A4 b aj hd I he=>exact absurd (I.FC J).1 he
 |read b aj hd I he =>
  obtain⟨k1,k2,k3,k4⟩:=I.ec h<;>grind[Ua]
theorem GRd.ec (I:GRd ε now false n e b aj)(h:EC N ε)(J:∀f∈ε.1.ai,f.pins=0): EC N aj/\(∀m,pgA aj m=pgA ε m) /\
  (0<=n->n<N->e=0/\b=(match lookL n now with|some b=>b|none=>pgA ε n))/\(¬(0<=n/\n<N)->e=1):=by
 have ig:=h.dk.aU;cases I with
 |arg hn=>grind
 |cn _ _ ho=>cases ho
 |own b h1 h2 _ hl=>grind
 |read e b aj h1 h2 _ hl I =>
  obtain⟨k1,k2,k3,k4⟩:=I.ec h J<;>grind
theorem yF : ∀(N:Nat) (l:List Int),l.Nodup->(∀n∈l,0<=n/\n<N)->l.length<=N:=by
 intro N;induction N with
 |zero =>
  intro l _ h;cases l<;>grind[List.mem_cons_self]
 |succ N I =>
  intro l hd h;have h1:=I (l.erase (N:Int)) (hd.erase _) λn J=>by
   grind
  grind
structure NW (N:Nat)(now:List (Int×List Nat)): Prop where
 good:∀e∈now,cH e.2=true/\∀x∈e.2,x<256
 keys:∀k:Int,k∈now.map (·.1)->0<=k/\k<N
 nodup:(now.map (·.1)).Nodup
theorem NW.nil (N:Nat): NW N []:=⟨λe h=>(by cases h),λk h=>(by cases h),tW⟩
theorem Rp {a:α}: ∀ {l:List (Int×α)} {e:Int×α},e∈dM n a l->e=(n,a)\/e∈l:=by
 intro l;induction l<;>grind[dM]
theorem NW.put (h:NW N now)(J:0<=n)(h1:n<N)(hg:cH b=true)(hb:∀x∈b,x<256): NW N (dM n b now):=by
 refine⟨λe he=>?_,λk I=>?_,nY h.nodup⟩
 .rcases Rp he with rfl|he
  .grind
  .exact h.good e he
 .rcases xy.1 I with rfl|I
  .omega
  .exact h.keys k I
theorem NW.len (h:NW N now): now.length<=N:=by
 have:=yF N _ h.nodup h.keys
 rwa [cL] at this
theorem NW.look (h:NW N now)(I:lookL n now=some b): cH b=true/\∀x∈b,x<256:=h.good _ (j7 I)
theorem xG.ec (I:xG ε now false n b e dR aj)(h:EC N ε)(J:∀f∈ε.1.ai,f.pins=0): EC N aj/\(∀m,pgA aj m=pgA ε m) /\
  (¬(0<=n/\n<N)->e=1/\dR=now)/\(0<=n->n<N->cH b=false->e=4/\dR=now)/\(0<=n->n<N->cH b=true->e=0/\dR=dM n b now):=by
 cases I with
 |may e c aj I he =>
  obtain⟨k1,k2,k3,k4⟩:=I.ec h J<;>grind
 |bad c aj I hg =>
  obtain⟨k1,k2,k3,k4⟩:=I.ec h J<;>grind
 |done c aj I hg =>
  obtain⟨k1,k2,k3,k4⟩:=I.ec h J<;>grind
theorem kD.ec {l:List Int}{cs:List cU}(I:kD now l ε e cs aj): EC N ε->ja ε->(∀n∈l,0<=n/\n<N)->EC N aj/\(∀m,pgA aj m=pgA ε m)/\e=0:=by
 induction I with
 |nil ε=>grind
 |err n l ε e b aj I he =>
  intro h J hl;obtain⟨k1,k2,k3,k4⟩:=I.ec h J.pins<;>grind
 |part n l ε gv b aj c e cs nP I hb hd hc jE ht ih =>
  intro h J hl;obtain⟨k1,k2,k3,k4⟩:=I.ec h J.pins;obtain⟨i1,i2,i3⟩:=ih k1 (I.mQ J) λm hm=>hl m (ki _ hm)<;>grind
 |whole n l ε gv b aj e cs nP I hb hd ht ih =>
  intro h J hl;obtain⟨k1,k2,k3,k4⟩:=I.ec h J.pins;obtain⟨i1,i2,i3⟩:=ih k1 (I.mQ J) λm hm=>hl m (ki _ hm)<;>grind
theorem EC.log {x:LD}(h:EC N ε)(k:DK ε.2.2 x.2): EC N (ε.1,x)/\∀m,pgA (ε.1,x) m=pgA ε m:=by
 refine⟨⟨h.dk.of k,h.nodup,h.lW,λi f I=>?_,h.xI,h.ES⟩,λm=>?_⟩
 .rcases h.back i f I with h1|h1
  .omega
  .exact .inr ⟨h1.lt,h1.here,h1.aF,λJ=>by rw[k.at];exact h1.same J,h1.qz⟩
 .unfold pgA;simp only[k.at]
theorem EC.put (h:EC N ε)(hl:lookL n ε.1.aM=some (i:Int))(I:ε.1.ai[i]?=some f)(hg:cH b=true)(hb:∀x∈b,x<256)(h0:0<=n)(h1:n<N):
  EC N (FE ε.1 n i f b aL,ε.2)/\∀m,pgA (FE ε.1 n i f b aL,ε.2) m=if m=n then dW b aL else pgA ε m:=by
 obtain⟨s1,s2,s3⟩:=T8 (n:=aL) hg hb;have hi:=(List.getElem?_eq_some_iff.1 I).1;have hp:f.bA=n:=by
  obtain⟨_,j,x,uU,hx,J⟩:=h.lW n i hl<;>grind
 have ho:=(h.back i f I).resolve_left Y;refine⟨h.set (y:=ε.2.1) (δ:=ε.2.2) I U h.dk (.inr ⟨ho.lt,ho.here,s1,λhq=>(by cases hq),λ_=>s2⟩) (λ_ _ _ _ _=>U) (λk hk=>?_) (nY h.ES),λm=>?_⟩
 .rcases xy.1 hk with rfl|hk
  .omega
  .exact h.xI k hk
 .by_cases hm:m=n
  .subst hm;rw[bk U];exact rC (ε:=(FE ε.1 m i f b aL,ε.2)) hl (mB hi)
  .rcases h.cases m with⟨j,x,ir,hx,J,_,_,e2⟩|⟨ir,e2⟩<;>grind[rC,FE,rD]
theorem PtR.ec {l:List Int}(I:PtR now aL l ε e aj): EC N ε->ja ε->NW N now->(∀n∈l,0<=n/\n<N)->EC N aj/\e=0 /\
  ∀m,pgA aj m=if m∈l then(match lookL m now with|some b=>dW b aL|none=>pgA ε m) else pgA ε m:=by
 induction I with
 |nil ε=>grind
 |kP n l ε e b aj I he =>
  intro h J hn hl;have:=hl n iu;exact absurd ((I.ec h).2.2.1 this.1 this.2).1 he
 |bad n l ε b0 b aj I hb he =>
  exact λh J hn hl=>absurd ((I.put (b:=b) (aL:=aL) J).2.2 (hn.look hb).1) he
 |put n l ε b0 b aj e nP I hb he ht ih =>
  intro h J hn hl;have Lh:=hl n iu;obtain⟨k1,k2,k3,k4⟩:=I.ec h;obtain⟨i,f,p1,p2,p3,p4,p5⟩:=I.at J.pins;have hg:=hn.look hb;have e1:=A7 (aL:=aL) p1 p2 p3 hg.1;obtain⟨q1,q2⟩:=k1.put (aL:=aL) p1 p2 hg.1 hg.2 Lh.1 Lh.2;have OL:=(I.put (b:=b) (aL:=aL) J).1;rw[e1] at ih OL;obtain⟨i1,i2,i3⟩:=ih q1 OL hn λm hm=>hl m (ki _ hm);refine⟨i1,i2,λm=>?_⟩;rw[i3,q2];by_cases hm:m=n
  .grind
  .grind
theorem CQ : ∀ {l:List Int} {ε:bn},EC N ε->(∀n∈l,(lookL n ε.1.aM).isSome=true)->(writeAllF l ε).1=0/\EC N (writeAllF l ε).2/\(∀m,pgA (writeAllF l ε).2 m=pgA ε m):=by
 intro l;induction l with
 |nil=>intro ε h _;exact⟨U,h,λ_=>U⟩
 |cons n l ih =>
  intro ε h hl;cases I:lookL n ε.1.aM with
  |none=>grind
  |some i =>
   obtain⟨_,j,f,rfl,J,hp⟩:=h.lW n i I;obtain⟨k1,k2,k3,k4,_⟩:=h.out J<;>grind[fS,Int.toNat_natCast,writeAllF]
theorem Ub (h:EC N ε): (gE ε.1 ε.2.2).1=0/\EC N ((gE ε.1 ε.2.2).2.1,(ε.2.1,(gE ε.1 ε.2.2).2.2))/\∀m,0<=m->pgA ((gE ε.1 ε.2.2).2.1,(ε.2.1,(gE ε.1 ε.2.2).2.2)) m=pgA ε m:=by
 obtain⟨s1,s2,s3⟩:=abr h.dk;have e:gE ε.1 ε.2.2=(0,{ ε.1 with bI:=ε.1.bI.filter λe=>e.2.2 },ε.2.2.k8.2):=by grind[gE]
 rw[e];have I:∀k,k∈((ε.1.bI.filter λe=>e.2.2).map (·.1))->k∈ε.1.bI.map (·.1):=λk J=>by
  grind
 refine⟨U,⟨s2,h.nodup,h.lW,λi f hf=>?_,λk J=>h.xI k (I k J),(List.filter_sublist.map _).nodup h.ES⟩,λm hm=>?_⟩
 .rcases h.back i f hf with h1|h1
  .omega
  .by_cases h0:f.bA<0
   .omega
   .exact .inr ⟨h1.lt,h1.here,h1.aF,λhc=>by rw[s3 _ Y];exact h1.same hc,h1.qz⟩
 .grind[pgA]
structure EL (K:Nat)(x:LD): Prop where
 log:x.1.b=x.2.log
 cert:x.1.forced<=x.2.bP
 size:x.1.base+x.1.b.length<=K
theorem EL.force {x:LD}{n:Nat}(h:EL K x): EL K (bL x n).2:=by
 unfold bL Dk.gR;split
 .exact h
 .by_cases hd:x.2.dead=true
  .grind
  .rw[ax hd];by_cases I:x.2.a_=0
   .rw[bk I,bk (show(9:Int)≠0 by decide)];exact⟨h.log,h.cert,h.size⟩
   .rw[ax I,ax (show ¬(0:Int)≠0 by decide)];exact⟨h.log,by rw[h.log];exact az _,h.size⟩
theorem EL.write {x:LD}(h:EL K x): EL K (x.1,(x.2.dY n b).2):=by
 unfold Dk.dY;split
 .exact h
 .split
  .exact h
  .split<;>exact⟨h.log,h.cert,h.size⟩
theorem wU (K:Nat): nF (EL K):=⟨λ_ _ h=>h.force,λ_ _ _ h=>h.write⟩
theorem EL.out (h:EL K ε.2): EL K (outF ε i).2.2:=(wU K).out h
theorem o_.el (I:o_ ε n e b aj)(h:EL K ε.2): EL K aj.2:=(wU K).rd I h
theorem GRd.el {cn:Bool}(I:GRd ε now cn n e b aj)(h:EL K ε.2): EL K aj.2:=(wU K).CN I h
theorem xG.el {cn:Bool}(I:xG ε now cn n b e dR aj)(h:EL K ε.2): EL K aj.2:=(wU K).T3 I h
theorem kD.el {l:List Int}{cs:List cU}(I:kD now l ε e cs aj)(h:EL K ε.2): EL K aj.2:=(wU K).ch I h
theorem PtR.el {l:List Int}(I:PtR now aL l ε e aj)(h:EL K ε.2): EL K aj.2:=(wU K).pt I h
theorem IQ : ∀ {l:List Int} {ε:bn},EL K ε.2->ja ε->EL K (writeAllF l ε).2.2/\ja (writeAllF l ε).2/\cC (writeAllF l ε).2<=cC ε:=by
 intro l;induction l with
 |nil=>intro ε h I;exact⟨h,I,az _⟩
 |cons n l J =>
  intro ε h I;have step:EL K (fS ε n).2.2/\ja (fS ε n).2/\cC (fS ε n).2<=cC ε:=by
   unfold fS;split
   .grind
   .exact⟨h.out,⟨uA I.ok,vj I.pins,vh I.full⟩,L5⟩
  grind[writeAllF]
structure EI (N B:Nat)(ε:bn): Prop where
 ok:ja ε
 ec:EC N ε
 el:EL (B*1048600) ε.2
 cC:cC ε<=B*65536
theorem EI.more (h:EI N B ε){I:Nat}(J:B<=I): EI N I ε :=
 ⟨h.ok,h.ec,⟨h.el.log,h.el.cert,b7 h.el.size (pV _ J)⟩,b7 h.cC (pV _ J)⟩
theorem EI.rd (h:EI N B ε)(I:o_ ε n e b aj): EI N B aj :=
 ⟨I.mQ h.ok,(I.ec h.ec h.ok.pins).1,I.el h.el,b7 I.cC h.cC⟩
theorem EI.CN (h:EI N B ε)(I:GRd ε now false n e b aj): EI N B aj :=
 ⟨I.mQ h.ok,(I.ec h.ec h.ok.pins).1,I.el h.el,b7 I.cC h.cC⟩
theorem EI.T3 (h:EI N B ε)(I:xG ε now false n b e dR aj): EI N B aj :=
 ⟨I.mQ h.ok,(I.ec h.ec h.ok.pins).1,I.el h.el,b7 I.cC h.cC⟩
theorem EI.many (h:EI N B ε): N<=65536:=by
 have:=h.ok.ok.dk.many
 rwa [h.ec.dk.aU] at this
theorem EI.aM (h:EI N B ε): (∀n:Int,n∈ε.1.aM.map (·.1)->0<=n/\n<N)/\ε.1.aM.length<=N:=by
 have I:∀n:Int,n∈ε.1.aM.map (·.1)->0<=n/\n<N:=λn hn=>by
  cases J:lookL n ε.1.aM with
  |none=>grind[kX]
  |some i =>
   obtain⟨h0,j,f,rfl,hf,hp⟩:=h.ec.lW n i J;have:=(h.ec.back j f hf).resolve_left Y;exact⟨h0,hp ▸ this.lt⟩
 have:=yF N _ h.ec.nodup I;grind
theorem EI.bI (h:EI N B ε): ε.1.bI.length<=N:=by
 have:=yF N _ h.ec.ES h.ec.xI
 rwa [cL] at this
theorem EI.writeAll (h:EI N B ε): (writeAllF (bj ε.1.aM) ε).1=0/\EI N B (writeAllF (bj ε.1.aM) ε).2/\∀m,pgA (writeAllF (bj ε.1.aM) ε).2 m=pgA ε m:=by
 obtain⟨w1,w2,w3⟩:=CQ (l:=bj ε.1.aM) h.ec λn J=>by
  cases hq:lookL n ε.1.aM<;>grind[jF,kX]
 obtain⟨k1,k2,I⟩:=IQ (l:=bj ε.1.aM) h.el h.ok;exact⟨w1,⟨k2,w2,k1,b7 I h.cC⟩,w3⟩
theorem EI.sync (h:EI N B ε): (gE ε.1 ε.2.2).1=0/\EI N B ((gE ε.1 ε.2.2).2.1,(ε.2.1,(gE ε.1 ε.2.2).2.2))/\∀m,0<=m->pgA ((gE ε.1 ε.2.2).2.1,(ε.2.1,(gE ε.1 ε.2.2).2.2)) m=pgA ε m:=by
 obtain⟨p1,p2,p3⟩:=Ub h.ec;refine⟨p1,?_,p3⟩;have e0:ε.2.2.k8=(0,ε.2.2.sync):=by rw[Dk.k8,ax (by rw[h.ec.dk.alive];decide),ax (by have:=h.ec.dk.a_;omega),lY h.ec.dk.a_]
 have e:gE ε.1 ε.2.2=(0,{ ε.1 with bI:=ε.1.bI.filter λe=>e.2.2 },ε.2.2.sync):=by grind[gE]
 rw[e] at p2 ⊢;have hd:=h.ok.ok.dk;have J:∀(i:Nat) (b:List Nat),(laidP ε.2.2.now ε.2.2.aU)[i]?=some (some b)->b.length=512:=λi b I=>by
  have h1:=laidP_get (n:=(i:Int)) h.ec.dk.aU h.ec.dk.nodup h.ec.dk.keys Y;rw[cN] at h1;rw[h1] at I;cases hq:lookL (i:Int) ε.2.2.now with
  |some x=>rw[hq] at I;have:=fY (fY I);subst this;exact hd.now _ (j7 hq)
  |none=>rw[hq] at I;exact hd.aU i b I
 refine⟨⟨⟨⟨h.ok.ok.pl.hand,h.ok.ok.pl.many,h.ok.ok.pl.aM,h.ok.ok.pl.len,h.ok.ok.pl.pins⟩,h.ok.ok.lg,⟨hd.a_,hd.len,hd.room,λe he=>(by cases he),J,hd.bP,by show(laidP _ _).length<=_;rw[CD];exact hd.many⟩⟩,h.ok.pins,⟨h.ok.full.nodup,h.ok.full.lW⟩⟩,p2,⟨h.el.log,h.el.cert,h.el.size⟩,?_⟩;have:=h.cC;simp only[Am.cC] at this ⊢;have e2:ε.2.2.sync.waiting.length=0:=rfl;omega
theorem EI.clean (h:EI N B ε): (jK ε).1=0/\EI N B (jK ε).2/\∀m,0<=m->pgA (jK ε).2 m=pgA ε m:=by
 obtain⟨w1,w2,w3⟩:=h.writeAll;obtain⟨p1,p2,I⟩:=w2.sync;have e:jK ε=((gE (writeAllF (bj ε.1.aM) ε).2.1 (writeAllF (bj ε.1.aM) ε).2.2.2).1,((gE (writeAllF (bj ε.1.aM) ε).2.1 (writeAllF (bj ε.1.aM) ε).2.2.2).2.1,((writeAllF (bj ε.1.aM) ε).2.2.1,(gE (writeAllF (bj ε.1.aM) ε).2.1 (writeAllF (bj ε.1.aM) ε).2.2.2).2.2))):=by
  rw[jK,ax (by rw[h.ec.dk.alive];decide),ax Y]
 rw[e];exact⟨p1,p2,λm hm=>Q⟩
theorem EI.force {n:Nat}(h:EI N B ε): (bL ε.2 n).1=0/\EI N B (ε.1,(bL ε.2 n).2)/\∀m,pgA (ε.1,(bL ε.2 n).2) m=pgA ε m:=by
 obtain⟨f1,f2⟩:=JL (n:=n) h.ec.dk;obtain⟨l1,l2⟩:=h.ec.log f2;refine⟨f1,⟨⟨⟨h.ok.ok.pl,yT h.ok.ok.lg,qq h.ok.ok.dk⟩,h.ok.pins,h.ok.full⟩,l1,h.el.force,?_⟩,l2⟩;have:=h.cC;grind[Am.cC,tc]
theorem EI.app {kd:Int}{c:List cU}(h:EI N B ε)(hB:B<=4000)(hg:eH kd c=true):
  EI N (B+1) (ε.1,(bx ε.2 kd tx pv nx data c).2)/\(∀m,pgA (ε.1,(bx ε.2 kd tx pv nx data c).2) m=pgA ε m) /\
  (((bx ε.2 kd tx pv nx data c).1.2=0/\bx ε.2 kd tx pv nx data c=((ε.2.1.base+ε.2.1.b.length,0),(ε.2.1.app (dZ ε.2.1 kd tx pv nx data c),{ ε.2.2 with log:=ε.2.2.log++dZ ε.2.1 kd tx pv nx data c }))) \/
   (bx ε.2 kd tx pv nx data c).1.2=7\/((bx ε.2 kd tx pv nx data c).1.2=2/\1048576<(cV kd tx pv nx data c).length)):=by
 have hs:=h.el.size;have J:=yU (kd:=kd) (tx:=tx) (pv:=pv) (nx:=nx) (data:=data) (c:=c) h.ok.ok.lg h.ok.ok.dk h.el.log Y;have CL:Am.cC (ε.1,(bx ε.2 kd tx pv nx data c).2)<=(B+1)*65536:=by
  have e:Am.cC (ε.1,(bx ε.2 kd tx pv nx data c).2)=Am.cC ε:=by grind[Am.cC]
  rw[e];exact b7 h.cC (pV _ (z7 B))
 have eR:(bx ε.2 kd tx pv nx data c).2.1.base+(bx ε.2 kd tx pv nx data c).2.1.b.length<=(B+1)*1048600:=by
  omega
 have main:∀(hk:DK ε.2.2 (bx ε.2 kd tx pv nx data c).2.2) (hc:(bx ε.2 kd tx pv nx data c).2.1.forced<=(bx ε.2 kd tx pv nx data c).2.2.bP),EI N (B+1) (ε.1,(bx ε.2 kd tx pv nx data c).2)/\∀m,pgA (ε.1,(bx ε.2 kd tx pv nx data c).2) m=pgA ε m:=λhk hc=>by
  obtain⟨l1,l2⟩:=h.ec.log hk;exact⟨⟨⟨⟨h.ok.ok.pl,J.1,J.2.1⟩,h.ok.pins,h.ok.full⟩,l1,⟨J.2.2.1,hc,eR⟩,CL⟩,l2⟩
 rcases jh ε.2 kd tx pv nx data c with⟨e,he,hc,I⟩|⟨hd,hf,I⟩|⟨_,_,hd,fJ,hf,I⟩
 .obtain⟨m1,m2⟩:=main (by rw[I];exact DK.refl _) (by rw[I];exact h.el.cert);refine⟨m1,m2,.inr ?_⟩;rw[I];rcases hc with⟨_,hb⟩|⟨rfl,hb⟩|⟨_,hb⟩|⟨rfl,hb⟩
  .grind
  .grind
  .rw[h.ec.dk.alive] at hb;cases hb
  .simp
 .have:=h.ec.dk.a_;omega
 .rw[lY h.ec.dk.a_] at I;obtain⟨m1,m2⟩:=main (by rw[I];exact⟨U,U,U,U⟩) (by rw[I];exact h.el.cert);exact⟨m1,m2,.inl ⟨by rw[I],I⟩⟩
theorem EI.done {kd:Int}{cl:Bool}(h:EI N B ε)(hB:B<=4000)(hn:NW N now)(h1:1<=kd)(h2:kd<=7)(hr:DnR ε now kd tx pv nx data 0 aL e cl aj):
  (cl=false/\(e=7\/e=2)/\EI N (B+2) aj/\∀m,pgA aj m=pgA ε m) \/
  (cl=true/\e=0/\EI N (B+2) aj/\∀m,pgA aj m=match lookL m now with|some b=>dW b aL|none=>pgA ε m):=by
 have I:∀n∈bj now,0<=n/\n<N:=λn hq=>hn.keys n (jF.1 hq);have hN:=h.many;have fJ:∀ {c:List cU} {aj:bn} {e:Int},kD now (bj now) ε e c aj->eH kd c=true:=λJ=>by
  refine FF ⟨h1,Y⟩ (J.fit (λx hx=>iU (hn.good x hx).1) λn hq=>?_)<;>grind
 cases hr with
 |arg hq=>omega
 |dead _ _ _ hd=>rw[h.ec.dk.alive] at hd;cases hd
 |qz e c aj _ _ _ hd J he=>exact absurd (J.ec h.ec h.ok I).2.2 he
 |app c aj _ _ _ hd J he =>
  obtain⟨c1,c2,c3⟩:=J.ec h.ec h.ok I;have hi:EI N B aj:=⟨J.mQ h.ok,c1,J.el h.el,b7 J.cC h.cC⟩;obtain⟨a1,a2,a3⟩:=hi.app (kd:=kd) (tx:=tx) (pv:=pv) (nx:=nx) (data:=data) (c:=c) hB (fJ J);refine .inl ⟨U,?_,a1.more Y,λm=>Q⟩<;>grind
 |put c aj e nP _ _ _ hd J ha hp =>
  obtain⟨c1,c2,c3⟩:=J.ec h.ec h.ok I;have hi:EI N B aj:=⟨J.mQ h.ok,c1,J.el h.el,b7 J.cC h.cC⟩;obtain⟨a1,a2,a3⟩:=hi.app (kd:=kd) (tx:=tx) (pv:=pv) (nx:=nx) (data:=data) (c:=c) hB (fJ J);obtain⟨p1,p2,p3⟩:=hp.ec a1.ec a1.ok hn I;have hl:(bj now).length<=N:=by
   have:=hn.len;rw[bj,(fB _).length_eq,cL];exact this
  have hpt:=hp.cC a1.ok;have x_:=a1.cC;refine .inr ⟨U,p2,⟨hp.mQ a1.ok,p1,?_,Y⟩,λm=>?_⟩
  .have:=hp.el a1.el;exact⟨this.log,this.cert,b7 this.size (pV _ Y)⟩
  .grind[jF,kX]
theorem yW (n:Nat): (digits 9 n).length<=10:=JJ 9 n
theorem Ot {kd:Int}(hd:data.length<=4104): (cV kd tx pv nx data []).length<=1048576:=by
 grind[yW,cV]
theorem IS {x:LD}{n:Nat}(h:DA N x.2)(I:n<x.1.base+x.1.b.length): n<(bL x n).2.1.base+(bL x n).2.1.forced:=by
 grind[bL,Mb]
theorem XK : (μ.app b).hasB (μ.base+μ.b.length)=true:=by
 grind[Lg.hasB,Lg.app]
theorem Lg.Ok.cut {n:Nat}(h:μ.Ok)(h1:μ.base<=n)(h2:n<=μ.base+μ.b.length): (μ.cut n).Ok:=by
 have hs:=h.size;have hf:=h.forced;have hl:=h.len;have hd:(μ.b.drop (n-μ.base)).length=μ.b.length-(n-μ.base):=HS;have I:∀s,s∈yV μ n->∃t∈μ.br,n<=μ.base+t/\s=t-(n-μ.base):=λs hs=>by
  obtain⟨t,ht,rfl⟩:=List.mem_map.1 hs<;>grind
 refine⟨?_,?_,λs hs=>?_,?_,?_,?_,h.check⟩
 .show n+(μ.b.drop (n-μ.base)).length<=_;omega
 .show(yV μ n).length<=_;rw[yV,cL];exact b7 (List.length_filter_le _ _) h.many
 .obtain⟨t,J,h4,rfl⟩:=I s hs;have:=h.low t J;show _<(μ.b.drop (n-μ.base)).length;omega
 .show(yV μ n).Pairwise (·< ·);rw[yV,HQ];refine(h.A2.filter _).imp_of_mem λ{a b} ha hb jS=>?_<;>grind
 .show μ.forced-(n-μ.base)<=(μ.b.drop (n-μ.base)).length;omega
 .show(μ.b.drop (n-μ.base)).length<=_;omega
theorem EI.log {x:LD}(h:EI N B ε)(h1:x.1.Ok)(h2:x.2.Ok)(I:DK ε.2.2 x.2)(J:EL (B*1048600) x)(hw:x.2.waiting=ε.2.2.waiting): EI N B (ε.1,x)/\∀m,pgA (ε.1,x) m=pgA ε m:=by
 obtain⟨l1,l2⟩:=h.ec.log I;refine⟨⟨⟨⟨h.ok.ok.pl,h1,h2⟩,h.ok.pins,h.ok.full⟩,l1,J,?_⟩,l2⟩;have e:Am.cC (ε.1,x)=Am.cC ε:=by simp only[Am.cC,hw]
 rw[e];exact h.cC
theorem EI.check {n:Nat}(h:EI N B ε)(hn:ε.2.1.hasB n=true/\n<ε.2.1.base+ε.2.1.forced): (jC ε.2 n).1=0/\(jC ε.2 n).2.1={ ε.2.1 with check:=n }/\EI N B (ε.1,(jC ε.2 n).2)/\∀m,pgA (ε.1,(jC ε.2 n).2) m=pgA ε m:=by
 have hm:=abq (b:=fC ε.2.1.base n) h.ec.dk (by rw[r_];decide);have e:jC ε.2 n=(0,({ ε.2.1 with check:=n },{ ε.2.2 with mark:=fC ε.2.1.base n })):=by
  grind[jC]
 have hf:=h.ok.ok.lg.forced;have hs:=h.ok.ok.lg.size;obtain⟨I,J⟩:=G7 (n:=n) h.ok.ok.lg h.ok.ok.dk Y;rw[e] at I J ⊢;exact⟨U,U,h.log I J ⟨U,U,U,U⟩ ⟨h.el.log,h.el.cert,h.el.size⟩ U⟩
theorem EI.cut {n:Nat}(h:EI N B ε)(hn:ε.2.1.hasB n=true)(hf:n<=ε.2.1.base+ε.2.1.forced)(hc:ε.2.1.check=0\/n<=ε.2.1.check): (iB ε.2 n).1=0/\EI N B (ε.1,(iB ε.2 n).2)/\∀m,pgA (ε.1,(iB ε.2 n).2) m=pgA ε m:=by
 have h1:=IN hn;have ZX:=h.ok.ok.lg.forced;have J:=h.el.cert;have I:=h.ok.ok.dk;have ZY:=I.bP;have TZ:=I.len;have eR:=h.el.size;have e1:ε.2.2.pN ((n-ε.2.1.base:Nat):Int) (fC n ε.2.1.check)=(0,{ ε.2.2 with log:=ε.2.2.log.drop (n-ε.2.1.base),bP:=ε.2.2.bP-(n-ε.2.1.base),mark:=fC n ε.2.1.check }):=by
  rw[Dk.pN,ax (by rw[h.ec.dk.alive];decide),ax (not_not_intro ⟨Y,Y,by rw[r_];decide⟩),ax (by have:=h.ec.dk.a_;omega),lY h.ec.dk.a_,cN]
 have e:iB ε.2 n=(0,(ε.2.1.cut n,{ ε.2.2 with log:=ε.2.2.log.drop (n-ε.2.1.base),bP:=ε.2.2.bP-(n-ε.2.1.base),mark:=fC n ε.2.1.check })):=by
  grind[iB]
 rw[e];have hd:(ε.2.2.log.drop (n-ε.2.1.base)).length=ε.2.2.log.length-(n-ε.2.1.base):=HS;have hd2:(ε.2.1.b.drop (n-ε.2.1.base)).length=ε.2.1.b.length-(n-ε.2.1.base):=HS;refine⟨U,h.log (h.ok.ok.lg.cut h1 Y) ⟨I.a_,Q,I.room,I.now,I.aU,Q,I.many⟩ ⟨U,U,U,U⟩ ⟨?_,?_,?_⟩ U⟩
 .show ε.2.1.b.drop _=ε.2.2.log.drop _;rw[h.el.log]
 .show ε.2.1.forced-_<=ε.2.2.bP-_;omega
 .show n+(ε.2.1.b.drop _).length<=_;omega
theorem EI.agS {lo:Nat}{J:List Nat}{nG:Nat}(h:EI N B ε)(hB:B<=1000)(hr:Px ε lo data cO aF e aj J nG):
  EI N (B+1) aj/\(∀m,pgA aj m=pgA ε m)/\((e=2/\4096<data.length/\J=cO)\/(e=7/\J=cO)\/(e=0/\J=data)):=by
 cases hr with
 |big hb=>exact⟨h.more Y,λ_=>U,.inl ⟨U,hb,U⟩⟩
 |dead _ hd=>rw[h.ec.dk.alive] at hd;cases hd
 |go e y J nG hb hd hc =>
  have hw:=dI 8 (iC ε);obtain⟨a1,a2,a3⟩:=h.app (kd:=8) (tx:=0) (pv:=0) (nx:=0) (data:=le 8 (iC ε)++data) (c:=[]) Y O;have ey:bx ε.2 8 0 0 0 (le 8 (iC ε)++data) []=jG ε data:=rfl;rw[ey] at a1 a2 a3;have a3:((jG ε data).1.2=0/\jG ε data=((ε.2.1.base+ε.2.1.b.length,0),(ε.2.1.app (dZ ε.2.1 8 0 0 0 (le 8 (iC ε)++data) []),{ ε.2.2 with log:=ε.2.2.log++dZ ε.2.1 8 0 0 0 (le 8 (iC ε)++data) [] })))\/(jG ε data).1.2=7:=by
   grind[Ot]
  have A0:iC ε<=ε.2.1.base+ε.2.1.b.length:=IP _ _ _;have hkp:vl ε lo<=ε.2.1.base+ε.2.1.b.length:=by
   rw[vl];split<;>omega
  rcases a3 with⟨a0,a3⟩|a3
  .have GV:8<=(dZ ε.2.1 8 0 0 0 (le 8 (iC ε)++data) []).length:=by rw[dZ,lV];omega
   generalize dZ ε.2.1 8 0 0 0 (le 8 (iC ε)++data) []=rc at GV a3;generalize jG ε data=I at *;have n1:I.1.1=ε.2.1.base+ε.2.1.b.length:=by rw[a3]
   have n2:I.2.1=ε.2.1.app rc:=by rw[a3]
   -- the log is forced
   obtain⟨f1,f2,f3⟩:=a1.force (n:=I.1.1);have f1:(lX I).1=0:=f1;have f2:EI N (B+1) (ε.1,(lX I).2):=f2;have f3:∀m,pgA (ε.1,(lX I).2) m=pgA (ε.1,I.2) m:=f3;have CI:I.1.1<I.2.1.base+I.2.1.b.length:=by
    rw[n1,n2];show _<ε.2.1.base+(ε.2.1.b++rc).length;rw[fL];omega
   have f4:I.1.1<(lX I).2.1.base+(lX I).2.1.forced:=IS a1.ec.dk CI;have f5:=CM (π:=ε.1) (x:=I.2) (n:=I.1.1);have f6:(lX I).2.1.base=I.2.1.base:=f5.base;have f7:(lX I).2.1.br=I.2.1.br:=f5.br;have f8:(lX I).2.1.hasB I.1.1=true:=by
    grind[XK,Lg.hasB]
   -- the mark
   obtain⟨c1,c2,c3,c4⟩:=f2.check (n:=I.1.1) ⟨f8,f4⟩;have c1:(ji I).1=0:=c1;have c2:(ji I).2.1={ (lX I).2.1 with check:=I.1.1 }:=c2;have c3:EI N (B+1) (ε.1,(ji I).2):=c3;have c4:∀m,pgA (ε.1,(ji I).2) m=pgA (ε.1,(lX I).2) m:=c4;have ig:∀m,pgA (ε.1,(ji I).2) m=pgA ε m:=λm=>by grind
   cases hc with
   |app he=>omega
   |force _ he=>omega
   |check _ _ he=>omega
   |cut t _ _ _ ht bY _ =>
    have Fw:I.1.1<(ji I).2.1.base+(ji I).2.1.b.length:=by
     have:=c3.ok.ok.lg.forced;grind
    have XL:(ji I).2.1.hasB t=true/\t<=vl ε lo:=by
     grind
    have e3:(ji I).2.1.check=I.1.1:=by rw[c2]
    obtain⟨k1,k2,k3⟩:=c3.cut XL.1 Q (.inr Q);exact⟨k2,λm=>(k3 m).trans (ig m),.inr (.inr ⟨k1,U⟩)⟩
   |iF _ _ _ _=>grind
  .cases hc<;>simp_all
def tA (π:Pl)(n:Int)(b:List Nat): Prop:=∃(i:Nat) (f:Fm),π.ai[i]?=some f/\f.bA=n/\0<=n/\f.changed=true/\f.b=b
abbrev VP := (Int->List Nat->Prop)->List (Int×(Nat×Bool))->LD->Prop
abbrev vw (P:VP)(ε:bn): Prop:=P (tA ε.1) ε.1.bI ε.2
theorem XM (hn:gO π cu): tA cu=tA π:=by
 funext n b;refine propext ⟨λ⟨i,x,hx,h1,I,h2,J⟩=>?_,λ⟨i,f,hf,h1,I,h2,J⟩=>?_⟩
 .obtain⟨f,t,hf,rfl⟩:=hn.back hx;exact⟨i,f,hf,h1,I,h2,J⟩
 .obtain⟨t,ht⟩:=hn.get i f hf;exact⟨i,_,ht,h1,I,h2,J⟩
theorem Eb {g:Fm}(J:π.ai[i]?=some f)(hs:∀n b,(f.bA=n/\0<=n/\f.changed=true/\f.b=b)↔(g.bA=n/\0<=n/\g.changed=true/\g.b=b)){w:List (Int×Int)}{hd:Nat}: tA ⟨π.ai.set i g,w,d,hd⟩=tA π:=by
 have hi:=(List.getElem?_eq_some_iff.1 J).1;funext n b;refine propext ⟨λ⟨j,x,I,h⟩=>?_,λ⟨j,x,I,h⟩=>?_⟩
 .rcases yE J I with⟨rfl,rfl⟩|⟨_,I⟩
  .exact⟨i,f,J,(hs n b).2 h⟩
  .exact⟨j,x,I,h⟩
 .by_cases hj:i=j
  .subst hj;rw[J] at I;have:=fY I;subst this;exact⟨i,g,mB hi,(hs n b).1 h⟩
  .exact⟨j,x,Q,h⟩
theorem Uc {g:Fm}(I:π.ai[i]?=some g)(J:0<=g.bA->g.changed=false): tA (eo π i f)=tA π :=
 Eb I λn b=>⟨(λ⟨h1,h0,h2,_⟩=>Q),λ⟨_,_,h2,_⟩=>(by cases h2)⟩
theorem Rq {e:Fm}(he:π.ai[i]?=some e)(I:e.bA<0): tA (j8 π i n b)=tA π :=
 Eb he λm c=>⟨λ⟨h1,J,_⟩=>Y,λ⟨_,_,h2,_⟩=>(by cases h2)⟩
structure qE (N:Nat)(P:VP): Prop where
 one:∀(ε:bn) (i:Nat) (f:Fm),EC N ε->ε.1.ai[i]?=some f->0<=f.bA->f.changed=true->vw P ε->vw P (outF ε i).2
theorem nF.A_ (h:nF R)(N:Nat): qE N (λ_ _ x=>R x):=⟨λ_ _ _ _ _ _ _ I=>h.out I⟩
section
variable {P:VP} {l:List Int} {cs:List cU}
theorem qE.out (h:qE N P)(he:EC N ε)(I:ε.1.ai[i]?=some f)(J:vw P ε): vw P (outF ε i).2:=by
 by_cases hc:f.bA<0\/f.changed=false
 .grind[outF]
 .exact h.one ε i f he I Y Q J
theorem qE.kP (h:qE N P)(hr:gP ε n e b aj)(he:EC N ε)(hv:vw P ε): vw P aj:=by
 cases hr with
 |arg I=>exact hv
 |Cy i f h1 h2 hl J =>
  grind[Eb]
 |out cu i f h1 h2 hl I J hh hq=>exact absurd ((he.vF I).1.out J).1 hq
 |read cu i f h1 h2 hl I J hh hq hr =>
  obtain⟨k1,k2,k3,k4,g,k5,k6,k7⟩:=(he.vF I).1.out J;refine absurd ?_ hr;rw[he.dk.aU] at h2;rw[Dk.uO,ax (by rw[k2.dk.alive];decide),ax (by rw[k2.dk.aU];exact not_not_intro ⟨h1,h2⟩)]
 |bad cu i f h1 h2 hl I J hh hq hr hc =>
  obtain⟨k1,k2,k3,k4,g,k5,k6,k7⟩:=(he.vF I).1.out J;rw[he.dk.aU] at h2;exact absurd (k2.dk.good n h1 h2) hc
 |load cu i f h1 h2 hl I J hh hq hr hc =>
  obtain⟨n1,n2⟩:=he.vF I;have GQ:vw P (cu,ε.2):=by show P (tA cu) cu.bI ε.2;rw[XM I,I.bI];exact hv
  have yq:=h.out (ε:=(cu,ε.2)) n1 J GQ;grind[Uc,eo,outF,fD,j8,Rq]
theorem Ud : tA (unpinF π n).2=tA π/\(unpinF π n).2.bI=π.bI:=by
 grind[unpinF,Eb]
theorem qE.rd (h:qE N P)(I:o_ ε n e b aj)(he:EC N ε)(J:vw P ε): vw P aj:=by
 cases I<;>grind[kP,Ud]
theorem qE.CN (h:qE N P)(I:GRd ε now false n e b aj)(he:EC N ε)(J:vw P ε): vw P aj:=by
 cases I with
 |arg hn=>exact J
 |cn _ _ ho=>cases ho
 |own b h1 h2 _ hl=>exact J
 |read e b aj h1 h2 _ hl I=>exact h.rd I he J
theorem qE.T3 (h:qE N P)(I:xG ε now false n b e dR aj)(he:EC N ε)(J:vw P ε): vw P aj:=by
 cases I with
 |may e c aj I _=>exact h.CN I he J
 |bad c aj I hg=>exact h.CN I he J
 |done c aj I hg=>exact h.CN I he J
theorem qE.ch (h:qE N P)(I:kD now l ε e cs aj): EC N ε->ja ε->vw P ε->vw P aj:=by
 induction I with
 |nil ε=>simp
 |err n l ε e b aj I _=>exact λhe _ J=>h.rd I he J
 |part n l ε gv b aj c e cs nP I hb hd hc jE ht ih=>exact λhe h3 J=>ih (I.ec he h3.pins).1 (I.mQ h3) (h.rd I he J)
 |whole n l ε gv b aj e cs nP I hb hd ht ih=>exact λhe h3 J=>ih (I.ec he h3.pins).1 (I.mQ h3) (h.rd I he J)
end
def rowA (k:Nat)(v:V)(cs:List V): aH:=.xs λo:Option (Nat×Nat×Nat)=>match o with
 |none=>.pu ((v=.aP\/∃a,v=.sle a)/\cs=[])
 |some (id,len,cap)=>.an (.ro id (.cells cs.length cs true)) (.pu (v=.sl id 0 len (.exact cap)/\cs.length=len*k))
section
variable {v:V} {cs:List V}
theorem Sat.rowAt (s:Sat h S)(J:getA S j=some (rowA k v cs)): ((v=.aP\/∃a,v=.sle a)/\cs=[])\/∃id len cap,v=.sl id 0 len (.exact cap)/\cs.length=len*k/\T.get h.tr id=some (.cells cs.length cs true):=by
 obtain⟨m,r,h1,h2,o,I⟩:=s.at J;cases o with
 |none=>exact .inl I
 |some x=>exact .inr ⟨x.1,x.2.1,x.2.2,I.2.1,I.2.2,h2 _ _ I.1⟩
theorem Sat.Me {n:Nat}{e:TypeId}(s:Sat h S)(I:getA S j=some (rowA k v cs))(hn:cs.length=n*k)(hk:1<=k)(hu:P.underlying t=some (.slice e)): lenV P h t v=some (.int .i64 n):=by
 rcases s.rowAt I with⟨J,rfl⟩|⟨id,len,cap,rfl,hl,_⟩
 .have:n=0:=by
   cases n<;>grind
  subst this;rcases J with rfl|⟨a,rfl⟩
  .exact DN hu
  .simp only[lenV,hu];rfl
 grind[Nat.eq_of_mul_eq_mul_right,Gt]
theorem Sat.afB {e:TypeId}(s:Sat h S)(J:getA S j=some (rowA k v cs))(hi:i*k+k<=cs.length)(hk:1<=k)(hu:P.underlying t=some (.slice e))(I:bf P e=some k)(ha:isAggT P e=some true):
  ∃id off,indexAddrV P t v (.int .i64 (i:Int))=some (.ptr id off)/\loadV P h e (.ptr id off)=some (.agg ((cs.drop (i*k)).take k)):=by
 rcases s.rowAt J with⟨_,rfl⟩|⟨id,len,cap,rfl,hl,hg⟩
 .grind
 .refine⟨id,i*k,?_,Tj ha I hg U hi⟩;simp only[indexAddrV,hu,I,cN];have:i<len:=by
   have h4:i*k+k=(i+1)*k:=Q;rw[h4,hl] at hi;exact Dr (tT hi hk)
  grind
end
def tot : List (List Nat)->Nat
 |[]=>0
 |c::l=>c.length+tot l
theorem IT {a b:List (List Nat)}: tot (a++b)=tot a+tot b:=by
 induction a<;>grind[tot]
theorem pQ : ∀ {cs:List (List Nat)} {i:Nat} {c:List Nat},cs[i]?=some c->tot (cs.take (i+1))=tot (cs.take i)+c.length:=by
 intro cs;induction cs<;>grind[tot]
theorem Mf (h:i<=j): tot (cs.take i)<=tot (cs.take j):=by
 grind[List.take_append_drop,IT]
theorem tB {cs:List (List Nat)}{i:Nat}: tot (cs.take i)<=tot cs:=by
 grind[IT,List.take_append_drop]
theorem abu : ∀ {cs:List (List Nat)} {i:Nat} {c c':List Nat},cs[i]?=some c->c'.length=c.length->∀k,tot ((cs.set i c').take k)=tot (cs.take k):=by
 intro cs;induction cs with
 |nil=>simp
 |cons x cs I =>
  intro i c c' h J k;cases i with
  |zero =>
   simp at h;subst h;cases k<;>grind[tot]
  |succ i=>cases k<;>grind[tot]
theorem mS {l m:List Nat}{a i:Nat}(h:a+m.length<=l.length)(hi:i<a\/a+m.length<=i): (bJ l a m)[i]?=l[i]?:=by
 grind[G8]
theorem CR {l m:List Nat}{a i:Nat}(h:a+m.length<=l.length)(hi:i<m.length): (bJ l a m)[a+i]?=m[i]?:=by
 grind[G8]
theorem rE {l m:List Nat}{a z:Nat}(h:∀i,a<=i->i<a+z->l[i]?=m[i]?): dU l a z=dU m a z:=by
 unfold dU;congr 1;apply rJ;simp_all[List.getElem?_take]
theorem Ec {m:List Nat}{b:Nat}(h:a+m.length<=l.length)(I:b+z<=a\/a+m.length<=b): dU (bJ l a m) b z=dU l b z :=
 by grind[rE,mS]
theorem Ax {l:List Nat}{a z n:Nat}(h:a+z<=l.length)(I:n<256^z): dU (bJ l a (le z n)) a z=n:=by
 have e:((bJ l a (le z n)).take (a+z)).drop a=le z n:=by
  apply rJ;grind[CR,dI]
 grind[dU,CP,Nat.mod_eq_of_lt]
theorem sj {l m:List Nat}{i:Nat}(h:l[i]?=m[i]?): l.getD i 0=m.getD i 0:=Q
structure PgD (b:List Nat)(k link extra:Nat)(cs:List (List Nat)): Prop where
 len:b.length=512
 Ue:b.getD 13 0=0
 kind:b.getD 12 0=k
 link:dU b 18 4=link
 extra:dU b 22 4=extra
 bZ:oU b=cs.length
 low:mW b+tot cs=512
 fits:26+4*cs.length+tot cs<=512
 slot:∀i c,cs[i]?=some c->ej b i+tot (cs.take (i+1))=512/\jW b i=c.length/\∀j,j<c.length->b[ej b i+j]?=c[j]?
theorem XN : ∀(z k:Nat) (t:List Bool),k+z<=t.length->(∀j,k<=j->j<k+z->t.getD j false=false)->∃t',markL z k t=some t'/\t'.length=t.length/\∀j,(j<k\/k+z<=j)->t'.getD j false=t.getD j false:=by
 intro z;induction z with
 |zero=>intro k t _ _;exact⟨t,U,U,λ_ _=>U⟩
 |succ z I =>
  intro k t h1 h2;obtain⟨t',J,e2,e3⟩:=I (k+1) (t.set k true) Q (λj a b=>Q)<;>grind[markL]
section
theorem PgD.cells (h:PgD b k link extra cs): ∀(n i:Nat) (t:List Bool),i+n=cs.length->t.length=512->(∀j,j+tot (cs.take i)<512->t.getD j false=false)->cellsL b (mW b) n i t=true:=by
 intro n;induction n with
 |zero=>intro i t _ _ _;rfl
 |succ n J =>
  intro i t hi ht hf;have I:cs[i]?=some (cs[i]' Y):=aI _;generalize (cs[i]' Y)=c at I;obtain⟨s1,s2,s3⟩:=h.slot i c I;have h1:=pQ I;have h2:=tB (cs:=cs) (i:=i+1);have h3:=h.low;obtain⟨t',e1,e2,e3⟩:=XN c.length (ej b i) t Y (λj _ _=>hf j Y);rw[cellsL,s2,ax Y,e1];exact J (i+1) t' Y Y (λj hj=>Q)
theorem PgD.good (h:PgD b k link extra cs): cH b=true:=by
 have h1:=h.low;have h2:=h.fits;rw[cH,lH h.len,lH h.Ue,lH (by rw[h.bZ];omega),h.cells _ _ _ (by rw[h.bZ];omega) lF λj I=>?_]
 .rfl
 grind
theorem PgD.tail (h:PgD b k link extra cs){b':List Nat}(hl:b'.length=512)(J:b'.drop 12=b.drop 12): PgD b' k link extra cs:=by
 have hg:∀i,12<=i->b'[i]?=b[i]?:=λi hi=>by
  have:=gY (λl:List Nat=>l[i-12]?) J;grind
 have I:∀a z,12<=a->dU b' a z=dU b a z:=λa z q=>A9 J q;refine⟨hl,?_,?_,?_,?_,?_,?_,h.fits,λi c hc=>?_⟩
 .rw[sj (hg 13 O)];exact h.Ue
 .rw[sj (hg 12 O)];exact h.kind
 .rw[I _ _ O];exact h.link
 .rw[I _ _ O];exact h.extra
 .rw[oU,I _ _ O];exact h.bZ
 .rw[mW,I _ _ O];exact h.low
 .obtain⟨s1,s2,s3⟩:=h.slot i c hc;have e1:ej b' i=ej b i:=I _ _ Y;have e2:jW b' i=jW b i:=I _ _ Y;have fJ:=h.fits;grind[tB]
def yX (k:Nat): List Nat:=bJ ((List.replicate 512 0).set 12 k) 16 (le 2 512)
theorem PgD.new : PgD (yX k) k 0 0 []:=by
 have hle:∀n,(le 2 n).length=2:=λn=>dI 2 n;have I:∀i,i<16\/18<=i->(yX k)[i]?=((List.replicate 512 0).set 12 k)[i]?:=λi hi=>mS Q Q;have J:∀a z,a+z<=512->(18<=a\/(13<=a/\a+z<=16))->dU (yX k) a z=dU (List.replicate 512 0) a z:=λa z h1 h2=>rE λi h3 h4=>by grind
 refine⟨by grind[yX,dH],?_,?_,?_,?_,?_,?_,O,λi c hc=>Q⟩
 .rfl
 .rfl
 .rfl
 .rfl
 .rfl
 .rfl
def yY (b:List Nat)(x y:Nat): List Nat:=bJ (bJ b 18 (le 4 x)) 22 (le 4 y)
theorem PgD.set (h:PgD b k link extra cs){x y:Nat}(hx:x<4294967296)(hy:y<4294967296): PgD (yY b x y) k x y cs:=by
 have hlen:=h.len;have hle:∀n,(le 4 n).length=4:=λn=>dI 4 n;have l1:(bJ b 18 (le 4 x)).length=512:=by grind[dH]
 have l2:(yY b x y).length=512:=by grind[yY,dH]
 have I:∀i,i<18\/26<=i->(yY b x y)[i]?=b[i]?:=λi hi=>by
  grind[yY,mS]
 have J:∀a z,a+z<=18\/26<=a->dU (yY b x y) a z=dU b a z:=λa z h2=>rE λi h3 h4=>I i Y;refine⟨l2,?_,?_,?_,?_,?_,?_,h.fits,λi c hc=>?_⟩
 .rw[sj (I 13 O)];exact h.Ue
 .rw[sj (I 12 O)];exact h.kind
 .grind[yY,Ec,Ax]
 .grind[yY,Ax]
 .rw[oU,J _ _ O];exact h.bZ
 .rw[mW,J _ _ O];exact h.low
 .obtain⟨s1,s2,s3⟩:=h.slot i c hc;have e1:ej (yY b x y) i=ej b i:=J _ _ Y;have e2:jW (yY b x y) i=jW b i:=J _ _ Y;have fJ:=h.fits;grind[tB]
def CS (b:List Nat)(i f z:Nat): List Nat:=bJ (bJ b (26+4*i) (le 2 f)) (26+4*i+2) (le 2 z)
section
variable {f:Nat}
theorem Pz (I:b.length=512)(hi:30+4*i<=512): (CS b i f z).length=512:=by
 grind[dI,CS,dH]
theorem PA (I:b.length=512)(hi:30+4*i<=512){j:Nat}(J:j<26+4*i\/30+4*i<=j): (CS b i f z)[j]?=b[j]?:=by
 grind[dI,CS,mS,dH]
theorem Uf (I:b.length=512)(hi:30+4*i<=512)(J:f<65536)(hz:z<65536): ej (CS b i f z) i=f/\jW (CS b i f z) i=z:=by
 grind[dI,dH,ej,CS,Ec,Ax,jW]
end
def Ba (b:List Nat)(n lo:Nat)(c:List Nat): List Nat:=CS (bJ (bJ (bJ b 14 (le 2 (n+1))) lo c) 16 (le 2 lo)) n lo c.length
theorem PgD.ins (h:PgD b k link extra cs){c:List Nat}{lo:Nat}(hf:26+4*(cs.length+1)+(tot cs+c.length)<=512)(tw:lo+(tot cs+c.length)=512): PgD (Ba b cs.length lo c) k link extra (cs++[c]):=by
 have hlen:=h.len;have hle:∀n,(le 2 n).length=2:=λn=>dI 2 n;have l1:(bJ b 14 (le 2 (cs.length+1))).length=512:=by grind[dH]
 have l2:(bJ (bJ b 14 (le 2 (cs.length+1))) lo c).length=512:=by rw[dH Y,l1]
 have l3:(bJ (bJ (bJ b 14 (le 2 (cs.length+1))) lo c) 16 (le 2 lo)).length=512:=by grind[dH]
 have l4:(Ba b cs.length lo c).length=512:=Pz l3 Y;have o3:∀i,i<16\/18<=i->(bJ (bJ (bJ b 14 (le 2 (cs.length+1))) lo c) 16 (le 2 lo))[i]?=(bJ (bJ b 14 (le 2 (cs.length+1))) lo c)[i]?:=λi hi=>mS Q Q;have o4:∀i,i<26+4*cs.length\/30+4*cs.length<=i->(Ba b cs.length lo c)[i]?=(bJ (bJ (bJ b 14 (le 2 (cs.length+1))) lo c) 16 (le 2 lo))[i]?:=λi hi=>PA l3 Y hi
 -- what is neither count, low, the slot nor the cell
 have I:∀i,(i<14\/18<=i)->(i<26+4*cs.length\/30+4*cs.length<=i)->(i<lo\/lo+c.length<=i)->(Ba b cs.length lo c)[i]?=b[i]?:=λi h1 h2 h3=>by
  grind[mS]
 have yC:∀a z,(a+z<=14\/18<=a)->a+z<=26+4*cs.length->dU (Ba b cs.length lo c) a z=dU b a z:=λa z h1 h2=>rE λi h3 h4=>I i Y Y Y;have kI:ej (Ba b cs.length lo c) cs.length=lo/\jW (Ba b cs.length lo c) cs.length=c.length:=Uf l3 Y Y Y;have adQ:tot (cs++[c])=tot cs+c.length:=by rw[IT];simp[tot]
 refine⟨l4,?_,?_,?_,?_,?_,?_,Q,λi x J=>?_⟩
 .rw[sj (I 13 Y Y Y)];exact h.Ue
 .rw[sj (I 12 Y Y Y)];exact h.kind
 .rw[yC _ _ Y Y];exact h.link
 .rw[yC _ _ Y Y];exact h.extra
 .have e:dU (Ba b cs.length lo c) 14 2=dU (bJ b 14 (le 2 (cs.length+1))) 14 2:=rE λi h1 h2=>by
   grind[mS]
  grind[oU,Ax]
 .have e:dU (Ba b cs.length lo c) 16 2=dU (bJ (bJ (bJ b 14 (le 2 (cs.length+1))) lo c) 16 (le 2 lo)) 16 2:=rE λi h1 h2=>o4 i Y;grind[mW,Ax]
 .by_cases hi:i<cs.length
  .rw[OI hi] at J;obtain⟨s1,s2,s3⟩:=h.slot i x J<;>grind[ej,jW,tB]
  .have fH:i=cs.length:=by
    grind
   subst fH;rw[HK (az _),Dz] at J;have J:c=x:=fY J;subst J;rw[kI.1,kI.2,kg cb,adQ];exact⟨tw,U,λj hj=>by grind[CR]⟩
def Bb (b:List Nat)(i f:Nat)(c:List Nat): List Nat:=CS (bJ b f c) i f c.length
theorem PgD.rep (h:PgD b k link extra cs){c:List Nat}(hc:cs[i]?=some c)(hl:c'.length=c.length): PgD (Bb b i (ej b i) c') k link extra (cs.set i c'):=by
 obtain⟨s1,s2,s3⟩:=h.slot i c hc;have hlen:=h.len;have hi:=(List.getElem?_eq_some_iff.1 hc).1;have A0:=h.low;have fJ:=h.fits;have LU:=tB (cs:=cs) (i:=i+1);have Ug:=pQ hc;have l1:(bJ b (ej b i) c').length=512:=by grind[dH]
 have l2:(Bb b i (ej b i) c').length=512:=Pz l1 Y;have o2:∀j,j<26+4*i\/30+4*i<=j->(Bb b i (ej b i) c')[j]?=(bJ b (ej b i) c')[j]?:=λj hj=>PA l1 Y hj;have I:∀j,(j<26+4*i\/30+4*i<=j)->(j<ej b i\/ej b i+c.length<=j)->(Bb b i (ej b i) c')[j]?=b[j]?:=λj h1 h2=>by grind[mS]
 have J:∀a z,(a+z<=26+4*i\/30+4*i<=a)->a+z<=26+4*cs.length->dU (Bb b i (ej b i) c') a z=dU b a z:=λa z h1 h2=>rE λj h3 h4=>I j Y Y;have kI:ej (Bb b i (ej b i) c') i=ej b i/\jW (Bb b i (ej b i) c') i=c'.length:=Uf l1 Y Y Y;have xZ:∀k,tot ((cs.set i c').take k)=tot (cs.take k):=abu hc hl;have adQ:tot (cs.set i c')=tot cs:=by
  have:=xZ cs.length;grind[List.length_set]
 refine⟨l2,?_,?_,?_,?_,?_,?_,Q,λj x hx=>?_⟩
 .rw[sj (I 13 Y Y)];exact h.Ue
 .rw[sj (I 12 Y Y)];exact h.kind
 .rw[J _ _ Y Y];exact h.link
 .rw[J _ _ Y Y];exact h.extra
 .rw[oU,J _ _ Y Y,ff];exact h.bZ
 .grind[mW]
 .rw[xZ];by_cases vJ:i=j
  .subst vJ;rw[mB hi] at hx;have hx:c'=x:=fY hx;subst hx;rw[kI.1,kI.2];exact⟨s1,U,λq hq=>by rw[o2 _ Y,CR Y hq]⟩
  .rw[List.getElem?_set_ne vJ] at hx;obtain⟨r1,r2,r3⟩:=h.slot j x hx;have hj:=(List.getElem?_eq_some_iff.1 hx).1;have e1:ej (Bb b i (ej b i) c') j=ej b j:=J _ _ Y Y;have e2:jW (Bb b i (ej b i) c') j=jW b j:=J _ _ Y Y;have ht2:=pQ hx;have htj:=tB (cs:=cs) (i:=j+1);rw[e1,e2];refine⟨r1,r2,λq hq=>?_⟩;rw[I _ Y ?_]
   .grind
   .rcases Nat.lt_or_gt_of_ne vJ with q1|q1
    .have:=Mf (cs:=cs) (i:=i+1) (j:=j) Y;omega
    .have:=Mf (cs:=cs) (i:=j+1) (j:=i) Y;omega
theorem PgD.cell (h:PgD b k link extra cs){c:List Nat}(I:cs[i]?=some c): (b.drop (ej b i)).take c.length=c:=by
 obtain⟨s1,s2,J⟩:=h.slot i c I;apply rJ;grind
end
section
variable {v w:V} {m:List Nat}
theorem Mg {n b:Nat}{cap:Cap}(J:a<=b)(hb:b<=n): ∃off I,slR (.sl id 0 n cap) a b=.sl id off (b-a) I/\off<=n:=by
 cases cap with
 |exact c =>
  simp only[slR];grind
 |rest e alt=>exact⟨0+a*1,_,U,Y⟩
theorem PB {n:Nat}{cs:List V}(I:T.get h.tr id=some (.cells n cs false))(ho:off<=n)(J:cs.length=n): wrN h id off []=some (h.put id (some (.cells n cs false))):=by
 simp only[wrN,I,eN];grind[aN,beq_iff,List.take_append_drop]
theorem Uh (s:Sat h (bu v l::X::S))(hX:cQ X (cT w m)){b:Nat}(jS:a<=b)(hb:b<=l.length)(hl:1<=l.length):
  ∃h',copyV prog h 23 (slR v a b) w=some (.int .i64 (min m.length (b-a):Nat),h')/\Sat h' (bu v (bJ l a (m.take (b-a)))::X::S):=by
 by_cases h1:a<b/\1<=m.length
 .grind[Lu]
 .have hm:min m.length (b-a)=0:=Y;have ht:m.take (b-a)=[]:=tS Q;have CO:bJ l a (m.take (b-a))=l:=by rw[ht,bJ];simp
  have hw:=(s.aQ 1 U hX).2;have hv:=(s.buf (k:=0) U).view;obtain⟨id,c,cap,rest,rfl,s1,hc,hf⟩:=s.g8 hl;obtain⟨off,VZ,e1,e2⟩:=Mg (id:=id) (cap:=cap) jS hb;rw[e1,CO,hm];have hg:=s1.row (k:=0) U;have Pc:=PB (off:=off) hg Y (by grind[gn]);have I:Sat (h.put id (some (.cells c (ofBytes l++rest) false))) (bu (.sl id 0 l.length cap) l::X::S):=hf _ _ U hv.1 (s1.put (k:=0) U);rcases hw with⟨rfl|⟨x,rfl⟩,_⟩|⟨Aq,J,QV,n2,cs2,Zz,rfl,Pb,q1,q2,q3,q4⟩
  .grind[copyV,underlying23,fK]
  .grind[copyV,underlying23,fK]
  .refine⟨_,?_,I⟩;have hr:rdN h Aq J 0=some []:=by
    grind[rdN,aN,beq_iff]
   grind[copyV,underlying23,fK]
theorem Ui (s:Sat h (bu v l::S)){b:Nat}(ha:a<=l.length)(hb:b<=l.length)(hl:1<=l.length):
  ∃h',copyV prog h 23 (slR v a a) (slR v b b)=some (.int .i64 0,h')/\Sat h' (bu v l::S):=by
 have hv:=(s.buf (k:=0) U).view;obtain⟨id,c,cap,rest,rfl,s1,hc,hf⟩:=s.g8 hl;obtain⟨off,VZ,e1,e2⟩:=Mg (id:=id) (cap:=cap) (az _) ha;obtain⟨I,QV,e3,e4⟩:=Mg (id:=id) (cap:=cap) (az _) hb;rw[e1,e3];have hg:=s1.row (k:=0) U;have hle:(ofBytes l++rest).length=c:=by grind[gn]
 have J:=PB (off:=off) hg Y hle;refine⟨_,?_,hf _ _ U hv.1 (s1.put (k:=0) U)⟩;have hr:rdN h id I 0=some []:=by
  simp only[rdN,hg,wF];grind[aN,beq_iff]
 simp only[copyV,aZ,fK,Dz];rw[show Nat.min 0 0=0 from U,Nat.zero_mul,hr];simp only;rw[J];rfl
end
section
variable {v:V} {m:List Nat}
theorem OpR.ZZ {b:Nat}(hP:C.P=prog)(s:Sat h (bu v l::X::S))(hX:cQ X (cT u m))(I:o.op=.call cl)(hc:cl.callee=.builtin .copy)(J:cl.argTypes = #[23,23])(ha:lookArgs E cl.args.toList=some [slR v a b,u])
 (jS:a<=b)(hb:b<=l.length)(hl:1<=l.length): OpR C E h o λ_ h₁=>Sat h₁ (bu v (bJ l a (m.take (b-a)))::X::S):=by
 obtain⟨h₁,e1,e2⟩:=Uh s hX jS hb hl;refine OpR.builtin I hc ha ⟨.int .i64 (min m.length (b-a):Nat),h₁,?_,e2⟩;simp only[builtinV,hP,J,e1]
theorem OpR.afC {b:Nat}(hP:C.P=prog)(s:Sat h (bu v l::S))(I:o.op=.call cl)(hc:cl.callee=.builtin .copy)(J:cl.argTypes = #[23,23])(hx:lookArgs E cl.args.toList=some [slR v a a,slR v b b])
 (ha:a<=l.length)(hb:b<=l.length)(hl:1<=l.length): OpR C E h o λ_ h₁=>Sat h₁ (bu v l::S):=by
 obtain⟨h₁,e1,e2⟩:=Ui s ha hb hl;refine OpR.builtin I hc hx ⟨.int .i64 0,h₁,?_,e2⟩;simp only[builtinV,hP,J,e1]
end
section
variable {told:bU} {v:V} {c:List Nat} {kd:Nat}
theorem G9 (I:W told){f:Nat}(s:Sat h (bu v b::S))(hl:b.length=512)(hi:30+4*i<=512)(hf:f<65536)(hz:z<65536):
  Call ⟨prog,told⟩ 194 [.agg [v],.int .i64 (i:Int),.int .i64 (f:Int),.int .i64 (z:Int)] h λr h'=>r=.aR []/\Sat h' (bu v (CS b i f z)::S):=by
 have hle:∀n,(le 2 n).length=2:=λn=>dI 2 n;have l1:(bJ b (26+4*i) (le 2 f)).length=512:=by grind[dH]
 obtain⟨J,_,cap,_,rfl,_⟩:=s.g8 Y;have e1:(26:Int)+4*(i:Int)=((26+4*i:Nat):Int):=Y;have e2:(26:Int)+4*(i:Int)+2=((26+4*i+2:Nat):Int):=Y;refine Call.of_wp (I.free _ U) func194 U U (zg U<|aq.bG s U U U (c7 U U) (λp4 h s=>(zk 4 U (zb U (by exact jM ay)<|zb U (by exact aT ay)<|zk 4 U (zl U (s.bW (k:=0) U cG bN) (zk 2 U (zo U (bQ U (by exact ie bB bS eB)) ?_)))))));rw[e1];refine zc U (sZ (a:=26+4*i) (z:=2) (n:=f) I (s.ae [1]) O O Y Y) ?_;rintro r h ⟨rfl,s⟩;have s:=s.ae [1,0];refine zk 2 U (zl U (s.bW (k:=0) U cG bN) (zm U (zo U (ag (r:=.int .i64 ((26+4*i+2:Nat):Int)) U U (by grind[aT,ay]))<|zm U (zo U (bQ U (by exact ie bB bS eB))<|zc U (sZ (a:=26+4*i+2) (z:=2) (n:=z) I (s.ae [1]) O O Y Y) ?_))));rintro r h ⟨rfl,s⟩;exact zv ⟨aa,_,U,U,s.del 1⟩
theorem IU (hT:W told)(s:Sat h S)(hk:getA S k=some X)(J:cQ X (cT v b))(hp:PgD b kd link extra cs)(hc:cs[i]?=some c):
  Call ⟨prog,told⟩ 202 [.agg [v],.int .i64 (i:Int)] h λr h'=>∃f,r=slR3 v f (f+c.length) (f+c.length)/\cQ X (cT r c)/\Sat h' S:=by
 have hv:=s.aQ _ hk J;have hl:=hp.len;have hi:=(List.getElem?_eq_some_iff.1 hc).1;have fJ:=hp.fits;obtain⟨s1,s2,s3⟩:=hp.slot i c hc;have LU:=tB (cs:=cs) (i:=i+1);have Ug:=pQ hc;have I:=hp.cell hc;generalize hf:ej b i=f at s1 s3 I;obtain⟨pi,po,pc,rfl⟩:=jf hv;refine Call.of_wp (hT.free _ U) func202 U U (zg U<|aq.bG s U U U (c7 U U) (λp2 h s=>(zk 4 U (zl U (s.bW (k:=0) U cG bN) (zm U (zc U (D8 hT s (oG hk) J hl Y) ?_))))));rintro r h' ⟨rfl,s⟩;rw[hf,s2];refine zk 8 U (zY s 0 iT cF U (zk 3 U (zb U (by exact aT ay)<|zk 2 U (zb U (by exact aT ay) ?_))));have e1:(f:Int)+(c.length:Int)=((f+c.length:Nat):Int):=Y;have kI:=EJ (s.aQ _ (oG hk) J) (a:=f) (b:=f+c.length) (c:=f+c.length) Y (az _) Y Y;rw[e1];refine zo U (bR (p:=some (.int .i64 (f:Int))) (q:=some (.int .i64 ((f+c.length:Nat):Int))) (m:=some (.int .i64 ((f+c.length:Nat):Int))) (p':=some f) (q':=some (f+c.length)) (m':=some (f+c.length)) U U U U (by rfl) (by rfl) (by rfl) kI)<|zk 2 U (zR U ⟨f,U,?_,s.drop⟩);have:=Jy J (a:=f) (b:=f+c.length) (c:=f+c.length) Y (az _) Y Y;rw[HV,show f+c.length-f=c.length by omega,I] at this;exact this
theorem abv (J:W told)(s:Sat h S)(hk:getA S k=some X)(hX:cQ X (cT v b))(I:PgD b kd link extra cs):
  Call ⟨prog,told⟩ 196 [.agg [v]] h λr h'=>r=.int .i64 (486-(4*(cs.length:Int)+(tot cs:Int)))/\Sat h' S:=by
 have hv:=s.aQ _ hk hX;have hl:=I.len;have fJ:=I.fits;have A0:=I.low;obtain⟨pi,po,pc,rfl⟩:=jf hv;refine Call.of_wp (J.free _ U) func196 U U (zg U<|aq.bG s U U U (c7 U U) (λp1 h s=>(zk 3 U ?_)));have s0:=s;refine WP.drawn [none,none,some (1,2),some (0,2),af,af,af,af] U bo bo<|zL U (s.bW (k:=0) U cG bN) (ah.any U U U U (OpR.call U U U U (LK J s (oG hk) hX hl)) ?_);rintro r h' ⟨rfl,s⟩;have s1:=s;refine zO U (ag U U (by exact gz ay))<|zL U (s.bW (k:=0) U cG bN) (ah.any U U U U (OpR.call U U U U (mX J s (oG hk) hX hl)) ?_);rintro r h' ⟨rfl,s⟩;rw[I.bZ];exact zO U (ag U U (by exact jM ay))<|zO U (ag U U (by exact gz ay))<|zA U<|ah.nil ⟨⟨aa,aa,λ_ _=>.inr ⟨U,⟨_,ag U U (by exact gz ay)⟩,aA _ U⟩,cY (.inr ⟨U,⟨_,o_load U (s0.bW (k:=0) U cG bN)⟩,aA _ U⟩) (.inr ⟨U,⟨_,o_load U (s1.bW (k:=0) U cG bN)⟩,aA _ U⟩),dq 5⟩,WP.ret ⟨aa,_,U,⟨gY (V.int .i64) Y,s.drop⟩⟩⟩
noncomputable def pfL : Code:=aV [1,1,0,1,0,0] ((f195.body).getD .skip)
theorem Rr (hT:W told){p1:Nat}(hX:cQ X (cT x b))(Le:x.cells=[x])(J:PgD b kd link extra cs): ∀(m i:Nat) (h:H) (E:List (Nat×V)) (a8:Ex->List (Nat×V)->H->Prop),i+m=cs.length ->
  Sat h (pt p1 (.cells 1 [x] false)::X::S)->Has E [(1,.ptr p1 0),(3,.int .i64 (486-(4*(cs.length:Int)+(tot (cs.take i):Int)))),(12,.int .i64 (cs.length:Int)),(13,.int .i64 (i:Int))] ->
  (∀E' h',Has E' [(3,.int .i64 (486-(4*(cs.length:Int)+(tot cs:Int))))]->Sat h' (pt p1 (.cells 1 [x] false)::X::S)->a8 (.exit 0) E' h')->WP ⟨prog,told⟩ 27 (.loop pfL) E h a8:=by
 have hl:=J.len;have fJ:=J.fits;intro m;induction m with
 |zero =>
  refine λi h E a8 hi s hE hq=>WP.loop (WP.has hE (zg U (zC U aG Q<|zk 3 U (WP.exit<|hq _ _ ⟨?_,aa⟩ s))));rw[show cs.take i=cs from kg Y];rfl
 |succ m ih =>
  intro i h E a8 hi s hE hq;have I:cs[i]?=some (cs[i]' Y):=aI _;generalize (cs[i]' Y)=c at I;obtain⟨s1,s2,s3⟩:=J.slot i c I;have Ug:=pQ I;refine WP.loop (WP.has hE (zg U (zB U aG Q<|zk 5 U (WP.block (zK 7 U (zl U (s.bW (k:=0) U cG bN) (zm U (zc U (D8 hT (i:=i) s (k:=1) U hX hl Y) ?_))))))));rintro r h' ⟨rfl,s⟩;rw[s2];exact zk 9 U (zb U (by exact gz ay)<|za U (zv (zr U (zb U (by exact aT ay)<|zm U (zv<|ih (i+1) _ _ a8 Y s ⟨U,gY (λz=>some (V.int .i64 z)) Y,U,U,aa⟩ hq)))))
theorem XO (J:W told)(s:Sat h (X::S))(hX:cQ X (cT v b))(I:PgD b kd link extra cs):
  Call ⟨prog,told⟩ 195 [.agg [v]] h λr h'=>r=.int .i64 (486-(4*(cs.length:Int)+(tot cs:Int)))/\Sat h' (X::S):=by
 have hv:=s.aQ 0 U hX;have hl:=I.len;have fJ:=I.fits;obtain⟨pi,po,pc,rfl⟩:=jf hv;refine Call.of_wp (J.free _ U) func195 U U (zg U<|aq.bG s U U U (c7 U U) (λp1 h s=>(zk 4 U (zl U (s.bW (k:=0) U cG bN) (zc U (mX J s (k:=1) U hX hl) ?_)))));rintro r h' ⟨rfl,s⟩;rw[I.bZ];refine zb U (by exact jM ay)<|zb U (by exact gz ay)<|zk 5 U (zl U (s.bW (k:=0) U cG bN) (zc U (mX J s (k:=1) U hX hl) ?_));rintro r h' ⟨rfl,s⟩;rw[I.bZ];refine zk 2 U (WP.block<|Rr J hX U I cs.length 0 _ _ _ Y s ⟨U,?_,U,U,aa⟩ (λE' h' hE s'=>?_))
 .rfl
 have s:=s';exact WP.has hE (zK 5 U (zR U ⟨U,s.del 0⟩))
theorem XP (I:W told){lo:Nat}(s:Sat h (bu v b::X::S))(J:cQ X (cT x c))(hl:b.length=512)(hi:30+4*i<=512)(tw:mW b=lo+c.length)(aiQ:lo+c.length<=512):
  Call ⟨prog,told⟩ 198 [.agg [v],.int .i64 (i:Int),x] h λr h'=>r=.aR []/\Sat h' (bu v (CS (bJ (bJ b lo c) 16 (le 2 lo)) i lo c.length)::X::S):=by
 have hle:∀n,(le 2 n).length=2:=λn=>dI 2 n;have l1:(bJ b lo c).length=512:=by rw[dH Y,hl]
 have l2:(bJ (bJ b lo c) 16 (le 2 lo)).length=512:=by grind[dH]
 obtain⟨Ar,_,cap,_,rfl,_⟩:=s.g8 Y;have hxv:=s.aQ 1 U J;have hx:=hxv.cells;refine Call.of_wp (I.free _ U) func198 U U (zg U<|aq.bG s U U U (c7 U U) (λp3 h s=>(zk 3 U (zl U (s.bW (k:=0) U cG bN) (zc U (LK I s (k:=1) U (bh _ _) hl) ?_)))));rintro r h' ⟨rfl,s⟩;rw[tw];refine zm U (zo U (aO U U U (bC aZ (s.aQ 2 U J))) (zo U (ag (r:=.int .i64 (lo:Int)) U U (by grind[gz,ay]))<|zk 4 U (zY s 0 iT cF U (zm U ?_))));have kI:=iy (s.aQ 1 U (bh _ _)) (a:=lo) Y;refine zo U (bR (p:=some (.int .i64 (lo:Int))) (q:=none) (m:=none) (p':=some lo) (q':=none) (m':=none) U U U U (by rfl) U U kI.1)<|zm U (aq.any U U U (OpR.ZZ U (s.ae [1,1]) J U U U U Y (az _) Y) λr h s=>?_);rw[kg Y] at s;have s:=s.ae [2,0,0];refine zk 3 U (zl U (s.bW (k:=0) U cG bN) (zm U (zo U (bQ U (by exact ie bB bS eB))<|zc U (sZ (a:=16) (z:=2) (n:=lo) I (s.ae [1]) O O Y Y) ?_)));rintro r h ⟨rfl,s⟩;have s:=s.ae [1,0,0];refine zk 2 U (zl U (s.bW (k:=0) U cG bN) (zk 3 U (zo U (aO U U U (bC aZ (s.aQ 2 U J))) (zc U (G9 (i:=i) (f:=lo) (z:=c.length) I (s.ae [1]) l2 hi Y Y) ?_))));rintro r h ⟨rfl,s⟩;exact zv ⟨aa,_,U,U,s.del 1⟩
end
section
variable {told:bU} {v:V} {c:List Nat} {kd:Nat}
theorem JN (J:W told)(s:Sat h S)(hkd:kd<=255):
  Call ⟨prog,told⟩ 39 [.int .i64 (kd:Int)] h λr h'=>∃u,r=.aR [u,.int .i64 0]/\Sat h' (bu u (yX kd)::S):=by
 refine Call.of_wp (J.free _ U) func39 U U (zK 9 U (zC U aG cb ?_));refine zk 2 U (zC U dc Q ?_);refine zk 6 U (aq.any U U U (OpR.GD U s U U U U O) λu h s=>?_);have hl:(List.replicate 512 0).length=512:=lF;have hn:yX kd=bJ ((List.replicate 512 0).set 12 kd) 16 (le 2 512):=rfl;generalize List.replicate 512 0=l at hl hn s;obtain⟨Ar,_,cap,_,rfl,_⟩:=s.g8 Y;refine zo U (cE U (by rw[DY];rfl)) ?_;refine aq.bG s U U U (bK kW) (λp4 h s=>(zS U (s.dS (j:=0) U bN U U) (λh s=>(zk 3 U (zY s 0 iT cF U (zm U (zo U (bQ U (by exact ie bB underlying5 An)) ?_)))))));have s:=s.ae [1,0];obtain⟨Aq,I,e3,h2,e4,s2⟩:=qN s (i:=12) (b:=kd) Y Y;have ir:(l.set 12 kd).length=512:=Q;refine zo U (aJ (.ptr Aq I) U U e3) (zS U (⟨h2,e4,s2⟩) ?_);rintro h s;have s:=s.ae [1,0];refine zk 3 U (zl U (s.bW (k:=0) U cG bN) (zc U (sZ (a:=16) (z:=2) (n:=512) J (s.ae [1]) O O Y Y) ?_));rintro r h ⟨rfl,s⟩;have s:=s.ae [1,0];refine zk 3 U (zY s 0 iT cF U (zk 3 U (zR U ⟨_,U,?_⟩)));rw[hn];exact s.drop
theorem Mh (J:W told)(s:Sat h S)(I:kd<=255):
  Call ⟨prog,told⟩ 39 [.int .i64 (kd:Int)] h λr h'=>∃u b,r=.aR [u,.int .i64 0]/\PgD b kd 0 0 []/\Sat h' (bu u b::S) :=
 (JN J s I).mono λr h' ⟨u,e,s⟩=>⟨u,_,e,PgD.new (k:=kd),s⟩
theorem PC (I:W told){lk ex:Nat}(s:Sat h (X::S))(hX:cQ X (cT v b))(J:PgD b kd link extra cs)(BE:lk<4294967296)(hex:ex<4294967296):
  Call ⟨prog,told⟩ 151 [v,.int .i64 (lk:Int),.int .i64 (ex:Int)] h λr h'=>∃u b',r=.aR [u,.int .i64 0]/\PgD b' kd lk ex cs/\Sat h' (bu u b'::X::S):=by
 have hl:=J.len;have hle:∀n,(le 4 n).length=4:=λn=>dI 4 n;have l1:(bJ b 18 (le 4 lk)).length=512:=by grind[dH]
 refine Call.of_wp (I.free _ U) func151 U U (zK 8 U (zc U (yz I s hX Y) ?_));rintro r h' (⟨hg,u,rfl,s⟩|⟨hg,rfl,s⟩)
 .obtain⟨Ar,_,cap,_,rfl,_⟩:=s.g8 Y;refine zk 3 U<|aq.bG s U U U (bK kW) (λp8 h s=>?_);dsimp only[V.cells,List.length_cons,List.length_nil,Nat.reduceAdd] at s;refine zS U (s.dS (j:=0) U bN U U) (λh s=>?_);dsimp only[setA] at s;refine zk 3 U (WP.block (zK 3 U (zC U aE U (zk 6 U (zC U aG cb<|zk 2 U (zC U dc Q<|zk 3 U (zC U aG cb<|zk 3 U (zC U dc Q<|zk 2 U (zv (zj U (WP.skip (zg U (zl U (by exact s.bW (k:=0) U cG bN)<|zm U (zo U (bQ U (by exact ie bB bS eB))<|zc U (sZ (a:=18) (z:=4) (n:=lk) I (s.ae [1]) O O Y Y) ?_))))))))))))));rintro r h' ⟨rfl,s⟩;have s:=s.ae [1,0];refine zk 3 U (zl U (s.bW (k:=0) U cG bN) (zm U (zo U (bQ U (by exact ie bB bS eB))<|zc U (sZ (a:=22) (z:=4) (n:=ex) I (s.ae [1]) O O Y Y) ?_)));rintro r h' ⟨rfl,s⟩;have s:=s.ae [1,0];exact zk 3 U (zY s 0 iT cF U (zk 3 U (zR U ⟨_,_,U,J.set BE hex,s.drop⟩)))
 .rw[J.good] at hg;cases hg
theorem CT (J:W told)(s:Sat h (X::S))(I:cQ X (cT v l))(hl:l.length<1073741824):
  Call ⟨prog,told⟩ 201 [v] h λr h'=>Sat h' (bu r l::X::S):=by
 have hv:=s.aQ 0 U I;refine Call.of_wp (J.free _ U) func201 U U (zK 7 U (zo U (aO U U U (bC aZ (s.aQ 0 U I))) (aq.any U U U (OpR.xx U s U U U U Y) λu h s=>zm U (aq.any U U U (OpR.sW U s I U U U U Q) λu2 h s=>?_))));rw[iQ] at s;exact zk 2 U (zR U s)
theorem Mi (I:W told)(s:Sat h (X::S))(hX:cQ X (cT v b))(J:PgD b kd link extra cs)(hc:cs[i]?=some c):
  Call ⟨prog,told⟩ 141 [v,.int .i64 (i:Int)] h λr h'=>∃u,r=.aR [u,.int .i64 0]/\Sat h' (bu u c::X::S):=by
 have hl:=J.len;have hv:=s.aQ 0 U hX;have hi:=(List.getElem?_eq_some_iff.1 hc).1;have fJ:=J.fits;have LU:=tB (cs:=cs) (i:=i+1);have Ug:=pQ hc;obtain⟨pi,po,pc,rfl⟩:=jf hv;refine Call.of_wp (I.free _ U) func141 U U (zK 8 U (zc U (xB I s hX Y) ?_));rintro r h' ⟨s,(⟨hg,rfl⟩|⟨hg,rfl⟩)⟩
 .refine aq.op U U U (aD U)<|zk 2 U<|aq.bG s U U U (bK kW) (λp6 h s=>?_);dsimp only[V.cells,List.length_cons,List.length_nil,Nat.reduceAdd] at s;refine zS U (s.dS (j:=0) U bN U U) (λh s=>?_);dsimp only[setA] at s;refine zk 3 U (WP.block (zK 3 U (zC U aE U (zk 6 U (zC U aG cb<|zk 2 U (zl U (s.bW (k:=0) U cG bN) (zc U (mX I s (k:=1) U hX hl) ?_)))))));rintro r h' ⟨rfl,s⟩;rw[J.bZ];refine zC U dO Q<|zk 2 U (zv (zj U (WP.skip (zg U (zl U (by exact s.bW (k:=0) U cG bN)<|zm U (zc U (IU (i:=i) I s (k:=1) U hX J hc) ?_))))));rintro r h' ⟨f,rfl,hr,s⟩;exact zc U (CT I (s.ae [1]) hr Y) λu h s=>zk 3 U (zR U ⟨_,U,s.del 2⟩)
 .rw[J.good] at hg;cases hg
end
theorem XQ : ∃i,prog.info? 23=some i/\i.size=1/\i.bytes=24 :=
 ⟨_,(show prog.info? 23=some ((prog.info? 23).getD default) by kernel_rfl),bo,bo⟩
section
variable {told:bU} {v:V} {c:List Nat} {kd:Nat}
theorem PD (I:W told)(s:Sat h (X::aw::S))(hX:cQ X (cT v b))(hY:cQ aw (cT x c))(hp:PgD b kd link extra cs)(hf:26+4*(cs.length+1)+(tot cs+c.length)<=512):
  Call ⟨prog,told⟩ 152 [v,.int .i64 (cs.length:Int),x] h λr h'=>∃u b',r=.aR [u,.int .i64 0]/\PgD b' kd link extra (cs++[c])/\Sat h' (bu u b'::X::aw::S):=by
 have hl:=hp.len;have A0:=hp.low;have hle:∀n,(le 2 n).length=2:=λn=>dI 2 n;generalize hn:cs.length=n at hf;have J:=hp.bZ;have tw:∃lo,lo+(tot cs+c.length)=512:=⟨512-(tot cs+c.length),Y⟩;obtain⟨lo,tw⟩:=tw;have l1:(bJ b 14 (le 2 (n+1))).length=512:=by grind[dH]
 have ir:mW (bJ b 14 (le 2 (n+1)))=lo+c.length:=by
  grind[mW,Ec]
 refine Call.of_wp (I.free _ U) func152 U U (zK 8 U (zc U (yz I s hX Y) ?_));rintro r h' (⟨hg,u,rfl,s⟩|⟨hg,rfl,s⟩)
 .obtain⟨Ar,_,cap,_,rfl,_⟩:=s.g8 Y;refine zk 3 U<|aq.bG s U U U (bK kW) (λp8 h s=>?_);dsimp only[V.cells,List.length_cons,List.length_nil,Nat.reduceAdd] at s;refine zS U (s.dS (j:=0) U bN U U) (λh s=>?_);dsimp only[setA] at s;refine zk 3 U (WP.block (zK 3 U (zC U aE U (zk 6 U (zC U aG cb<|zk 2 U (zl U (s.bW (k:=0) U cG bN) (zc U (mX I s (k:=1) U (bh _ _) hl) ?_)))))));rintro r h' ⟨rfl,s⟩;rw[J,hn];refine zC U dc cb<|zk 6 U (zl U (s.bW (k:=0) U cG bN) (zc U (XO I (s.ae [1]) (bh _ _) hp) ?_));rintro r h' ⟨rfl,s⟩;have s:=s.ae [1,0];dsimp only[aB,bringA,getA] at s;rw[hn];refine zm U (zo U (aO U U U (bC aZ (s.aQ 3 U hY))) (zb U (by exact aT ay)<|zC U aG Q<|za U (zv (zj U (WP.skip (zw (zg U (zl U (by exact s.bW (k:=0) U cG bN)<|zc U (abv I s (k:=1) U (bh _ _) hp) ?_))))))));rintro r h' ⟨rfl,s⟩;rw[hn];refine zm U (zo U (aO U U U (bC aZ (s.aQ 3 U hY))) (zb U (by exact aT ay)<|zC U aG Q<|zv (zj U (WP.skip (zg U (zl U (by exact s.bW (k:=0) U cG bN)<|zc U (mX I s (k:=1) U (bh _ _) hl) ?_))))));rintro r h' ⟨rfl,s⟩;rw[J,hn];refine zk 3 U ?_;have q1:((26:Int)+4*((n:Int)+1)).toNat=30+4*n:=Y;have q2:((26:Int)+4*(n:Int)).toNat=26+4*n:=Y;have s0:=s;refine WP.drawn [af,af,af,af,af,af,af,af,af,af,af,af,af,af,af,af,af,af,af,af,af] U bo bo<|zF U (iT _ _) (zL U (s.ld 0 U cF U) (zM U (zO U (ag U U (by exact aT ay))<|zO U (ag U U (by exact jM ay))<|zO U (ag U U (by exact aT ay))<|zM U (zO U (ag U U (by exact aT ay))<|zO U (ag U U (by exact jM ay))<|zO U (ag U U (by exact aT ay))<|zO U (bR (p:=some (.int .i64 (26+4*((n:Int)+1)))) (q:=some (.int .i64 (26+4*((n:Int)+1)))) (m:=none) (p':=some (30+4*n)) (q':=some (30+4*n)) (m':=none) U U U U (by rw[fb,q1]) (by rw[fb,q1]) U (dm (s.buf (k:=1) U).view (az _) Y).1)<|zF U (iT _ _) (zL U (s.ld 0 U cF U) (zM U (zO U (ag U U (by exact jM ay))<|zO U (ag U U (by exact aT ay))<|zM U (zO U (ag U U (by exact jM ay))<|zO U (ag U U (by exact aT ay))<|zO U (bR (p:=some (.int .i64 (26+4*(n:Int)))) (q:=some (.int .i64 (26+4*(n:Int)))) (m:=none) (p':=some (26+4*n)) (q':=some (26+4*n)) (m':=none) U U U U (by rfl) (by rfl) U (dm (s.buf (k:=1) U).view (az _) Y).1)<|ah.any U U U U (OpR.afC U (s.ae [1]) U U U U Y Y Y) λr h s=>?_))))))));have s:=s.ae [1,0];refine ah.nil ⟨(dq 22),zg U (zl U (s.bW (k:=0) U cG bN) (zm U (zb U (by exact aT ay)<|zo U (bQ U (by exact ie bB bS eB)) ?_)))⟩;have en:(n:Int)+1=((n+1:Nat):Int):=Y;rw[en];refine zc U (sZ (a:=14) (z:=2) (n:=n+1) I (s.ae [1]) O O Y Y) ?_;rintro r h ⟨rfl,s⟩;have s:=s.ae [1,0];refine zk 3 U (zl U (s.bW (k:=0) U cG bN) (zk 2 U (zc U (XP (i:=n) (lo:=lo) I (s.ae [1,2]) hY l1 Y ir Y) ?_)));rintro r h ⟨rfl,s⟩;have s:=s.ae [2,0,1,0];refine zk 3 U (zY s 0 iT cF U (zk 3 U (zR U ?_)));subst hn;exact⟨_,_,U,hp.ins hf tw,s.drop⟩
 .rw[hp.good] at hg;cases hg
theorem Ed (hT:W told)(s:Sat h (X::aw::S))(hX:cQ X (cT v b))(hY:cQ aw (cT x c'))(J:PgD b kd link extra cs)(hc:cs[i]?=some c)(ZY:c'.length=c.length):
  Call ⟨prog,told⟩ 134 [v,.int .i64 (i:Int),x] h λr h'=>∃u b',r=.aR [u,.int .i64 0]/\PgD b' kd link extra (cs.set i c')/\Sat h' (bu u b'::X::aw::S):=by
 have hl:=J.len;have fJ:=J.fits;have hi:=(List.getElem?_eq_some_iff.1 hc).1;have Ug:=pQ hc;have I:=J.rep hc ZY;obtain⟨s1,s2,s3⟩:=J.slot i c hc;generalize hf:ej b i=f at s1 s3 I;have l1:(bJ b f c').length=512:=by rw[dH Y,hl]
 refine Call.of_wp (hT.free _ U) func134 U U (zK 8 U (zc U (yz hT s hX Y) ?_));rintro r h' (⟨hg,u,rfl,s⟩|⟨hg,rfl,s⟩)
 .obtain⟨Ar,_,cap,_,rfl,_⟩:=s.g8 Y;refine zk 3 U<|aq.bG s U U U (bK kW) (λp8 h s=>?_);dsimp only[V.cells,List.length_cons,List.length_nil,Nat.reduceAdd] at s;refine zS U (s.dS (j:=0) U bN U U) (λh s=>?_);dsimp only[setA] at s;refine zk 3 U (WP.block (zK 3 U (zC U aE U (zk 6 U (zC U aG cb<|zk 2 U (zl U (s.bW (k:=0) U cG bN) (zc U (mX hT s (k:=1) U (bh _ _) hl) ?_)))))));rintro r h' ⟨rfl,s⟩;rw[J.bZ];refine zC U dO Q<|zk 2 U (zv (zj U (WP.skip (zg U (zl U (by exact s.bW (k:=0) U cG bN)<|zm U (zc U (D8 (i:=i) hT s (k:=1) U (bh _ _) hl Y) ?_))))));rintro r h' ⟨rfl,s⟩;rw[hf,s2];refine zk 10 U (zo U (aO U U U (bC aZ (s.aQ 3 U hY))) (zm U (zB U rj Q<|zk 4 U (zY s 0 iT cF U (zm U ?_)))));have kI:=iy (s.aQ 1 U (bh _ _)) (a:=f) Y;refine zo U (bR (p:=some (.int .i64 (f:Int))) (q:=none) (m:=none) (p':=some f) (q':=none) (m':=none) U U U U (by rfl) U U kI.1)<|zm U (aq.any U U U (OpR.ZZ U (s.ae [1,2]) hY U U U U Y (az _) Y) λr h s=>?_);rw[kg Y] at s;have s:=s.ae [2,0,1,0];refine zk 3 U (zl U (s.bW (k:=0) U cG bN) (zk 3 U (zo U (aO U U U (bC aZ (s.aQ 3 U hY))) (zc U (G9 (i:=i) (f:=f) (z:=c'.length) hT (s.ae [1]) l1 Y Y Y) ?_))));rintro r h ⟨rfl,s⟩;have s:=s.ae [1,0];exact zk 3 U (zY s 0 iT cF U (zk 3 U (WP.ret ⟨aa,_,U,_,_,U,I,s.drop⟩)))
 .rw[J.good] at hg;cases hg
theorem Rs (I:W told){c0 c1:List Nat}(s:Sat h (X::S))(hX:cQ X (cT v b))(J:PgD b kd link extra [c0,c1]):
  Call ⟨prog,told⟩ 203 [v] h λr h'=>∃w u0 u1,r=.aR [w,.int .i64 0]/\Sat h' (.arr 1 w [u0,u1]::bu u0 c0::bu u1 c1::X::S):=by
 have hl:=J.len;have hv:=s.aQ 0 U hX;have fJ:=J.fits;simp only[tot,cK,eN] at fJ;obtain⟨pi,po,pc,rfl⟩:=jf hv;obtain⟨i1,gD,fH,gu⟩:=XQ;refine Call.of_wp (I.free _ U) func203 U U (zK 8 U (zc U (xB I s hX Y) ?_));rintro r h' ⟨s,(⟨hg,rfl⟩|⟨hg,rfl⟩)⟩
 .refine aq.op U U U (aD U)<|zk 2 U<|aq.bG s U U U (bK kW) (λp4 h s=>?_);dsimp only[V.cells,List.length_cons,List.length_nil,Nat.reduceAdd] at s;refine zS U (s.dS (j:=0) U bN U U) (λh s=>?_);dsimp only[setA] at s;refine zk 6 U (zC U aE U (zk 5 U (zl U (s.bW (k:=0) U cG bN) (zc U (mX I s (k:=1) U hX hl) ?_))));rintro r h' ⟨rfl,s⟩;rw[show oU b=2 from J.bZ];obtain⟨wv,h1,e3,s1⟩:=yt (P:=prog) s jg gD vE fH Y U O O (n:=0) (c:=2) O O;refine aq.any U U U (OpR.of (R:=λv h'=>v=wv/\h'=h1) (uL U U e3) ⟨U,U⟩) ?_;rintro w0 h ⟨rfl,rfl⟩;have s:Sat h (.arr 1 w0 []::_):=s1;have s:=s.ae [1,1,0];dsimp only[bringA,getA,aB] at s;refine zk 5 U (zl U (s.bW (k:=0) U cG bN) (zc U (mX I s (k:=1) U hX hl) ?_));rintro r h' ⟨rfl,s⟩;rw[show oU b=2 from J.bZ];refine zk 2 U (WP.block (WP.loop (zg U (zB U aG O<|zk 5 U (WP.block (zK 7 U (zl U (s.bW (k:=0) U cG bN) (zm U (zc U (IU (i:=0) (c:=c0) I s (k:=1) U hX J U) ?_)))))))));rintro r h' ⟨f,rfl,hr,s⟩;refine zc U (CT I (s.ae [1]) hr Y) λu0 h s=>?_;have hu0:=(s.buf (k:=0) U).view.cells;have s:=s.ae [3];dsimp only[aB,bringA,getA] at s;obtain⟨iv,h1,vb,s1⟩:=fP prog (k:=1) (x:=u0) s jg vE jN U O O Q Q;rw[hu0.1] at s1;refine aq.any U U U (OpR.of (R:=λv h'=>v=iv/\h'=h1) (jj U vb) ⟨U,U⟩) ?_;rintro v' h' ⟨rfl,rfl⟩;obtain⟨av,h2,tg,s2⟩:=dV (s1.ae [1,0]) jg gD vE fH Y U O cb;dsimp only[List.nil_append,aB,bringA] at s2;refine aq.any U U U (OpR.of (R:=λv h'=>v=av/\h'=h2) (fN U U tg) ⟨U,U⟩) ?_;rintro v' h ⟨rfl,rfl⟩;have s:=(s2.del 1).ae [3,2,0,0];dsimp only[aB,bringA,getA] at s;refine za U (zv (zr U (zb U (by exact aT ay)<|zm U (zv (WP.loop (zg U (zt U (ag U U aG) O<|zk 5 U (WP.block (zK 7 U (zl U (s.bW (k:=0) U cG bN) (zm U (zc U (IU (i:=1) (c:=c1) I s (k:=1) U hX J U) ?_))))))))))));rintro r h' ⟨f1,rfl,Lh,s⟩;refine zc U (CT I (s.ae [1]) Lh Y) λu1 h s=>?_;have hu1:=(s.buf (k:=0) U).view.cells;have s:=s.ae [3];dsimp only[aB,bringA,getA] at s;obtain⟨iv1,h1,vb,s1⟩:=fP prog (k:=1) (x:=u1) s jg vE jN U O O Q Q;rw[hu1.1] at s1;refine aq.any U U U (OpR.of (R:=λv h'=>v=iv1/\h'=h1) (jj U vb) ⟨U,U⟩) ?_;rintro v' h' ⟨rfl,rfl⟩;obtain⟨av1,h2,tg,s2⟩:=dV (s1.ae [1,0]) jg gD vE fH Y U O cb;dsimp only[List.cons_append,List.nil_append,aB,bringA] at s2;refine aq.any U U U (OpR.of (R:=λv h'=>v=av1/\h'=h2) (fN U U tg) ⟨U,U⟩) ?_;rintro v' h ⟨rfl,rfl⟩;have s:=(s2.del 1).ae [3,2,0,1,0];dsimp only[aB,bringA,getA] at s;exact za U (zv (zr U (zb U (by exact aT ay)<|zm U (zv (WP.loop (zg U (zh U (ag U U aG) O<|zk 3 U (WP.exit (zK 6 U (zR U ⟨_,_,_,U,(s.ae [2,2,2,1]).del 4⟩))))))))))
 .rw[J.good] at hg;cases hg
end
def Sm (N:Nat)(ε aj:bn): Prop:=(∀m,pgA aj m=pgA ε m)/\(∀P:VP,qE N P->vw P ε->vw P aj)/\cC aj<=cC ε
theorem Sm.refl (N:Nat)(ε:bn): Sm N ε ε:=⟨λ_=>U,λ_ _ h=>h,az _⟩
theorem Sm.trans {a b c:bn}(h:Sm N a b)(g:Sm N b c): Sm N a c:=⟨λm=>(g.1 m).trans (h.1 m),λP I J=>g.2.1 P I (h.2.1 P I J),b7 g.2.2 h.2.2⟩
structure G_ (told : bU) (N B : Nat) (rv : V) (A : bn → aH) (pg : bn → Int → List Nat) : Prop where
 iface : ∃ ty u f, rv = .iface ty u ∧ methV Tryz.prog ty "Read" = some f ∧ ∀ {h : H} {S : List aH} {ε : bn} {n : Int}, EI N B ε → 0 ≤ n → n < N → Sat h (A ε :: S) →
  Call ⟨Tryz.prog, told⟩ f [u, .int .i64 n] h fun v h' => ∃ w aj, v = .aR [w, .int .i64 0] ∧ EI N B aj ∧ Sm N ε aj ∧ Sat h' (bu w (pg ε n) :: A aj :: S)
 same : ∀ {ε aj : bn}, Sm N ε aj → ∀ m, pg aj m = pg ε m
structure PE (told : bU) (N : Nat) (lv dd : bn → Prop) (sm : bn → bn → Prop) (rv : V) (A : bn → aH) (pg : bn → Int → List Nat) : Prop where
 iface : ∃ ty u f, rv = .iface ty u ∧ methV Tryz.prog ty "Read" = some f ∧ ∀ {h : H} {S : List aH} {ε : bn} {n : Int}, lv ε → 0 ≤ n → n < N → Sat h (A ε :: S) →
  Call ⟨Tryz.prog, told⟩ f [u, .int .i64 n] h fun v h' => (∃ aj, v = .aR [.aP, .int .i64 9] ∧ dd aj ∧ Sat h' (A aj :: S)) ∨ ∃ w aj, v = .aR [w, .int .i64 0] ∧ lv aj ∧ sm ε aj ∧ Sat h' (bu w (pg ε n) :: A aj :: S)
 same : ∀ {ε aj : bn}, sm ε aj → ∀ m, pg aj m = pg ε m
 tr : ∀ {a b c : bn}, sm a b → sm b c → sm a c
abbrev noD : bn->Prop:=λ_=>False
theorem G_.m {told:bU}{pg:bn->Int->List Nat}(I:G_ told N B rv A pg): PE told N (EI N B) noD (Sm N) rv A pg:=by
 obtain⟨ty,u,f,e,hm,J⟩:=I.iface;exact⟨⟨ty,u,f,e,hm,λa b c s=>(J a b c s).mono λ_ _ k=>.inr k⟩,I.same,Sm.trans⟩
section
variable {v c:V} {cs:List V} {te t':TypeId}
theorem Sat.CU (s:Sat h S)(J:getA S k=some (.arr 1 v cs))(hi:cs[i]?=some c)(hu:P.underlying t=some (.slice te))(I:bf P te=some 1)(e:indexAddrV P t v (.int .i64 (i:Int))=some (.ptr id off))(ha:isAggT P t'=some false): loadV P h t' (.ptr id off)=some c:=by
 grind[dB]
theorem abw {s d:TypeId}{x:Operand}{r:V}{h₁:H}(I:bp E x=some v)(h1:convV P h s d v=none)(h2:convB P h s d v=some (r,h₁)): opE P E h (.convert s d x)=some (r,h₁):=by
 grind[opE,kq]
end
def gI : List Nat:=[109,117,110,105,109,101,110,116]
theorem XR : buildSliceV prog h 23 8 [(0,.int .u8 109),(1,.int .u8 117),(2,.int .u8 110),(3,.int .u8 105),(4,.int .u8 109),(5,.int .u8 101),(6,.int .u8 110),(7,.int .u8 116)]=some (.sl h.next 0 8 (.exact 8),newRow h (ofBytes gI)):=by
 simp only[buildSliceV,aZ,fK,xp,V.cells];rfl
theorem He {x:Operand}{b:Nat}(I:0<b)(hw:a<9223372036854775808): binV P h .quo t x y (.int .i64 (a:Int)) (.int .i64 (b:Int))=some (.int .i64 ((a/b:Nat):Int)):=by
 simp only[binV,ikBeq,ak,intV];have:intBeq (b:Int) 0=false:=by rw[nW];simp;omega
 have h2:a/b<=a:=Nat.div_le_self a b;grind[ay]
section
variable {told:bU} {n:Nat} {v y:V} {c R M:List Nat} {kd:Nat} {pg:bn->Int->List Nat} {lv dd:bn->Prop} {sm:bn->bn->Prop}
theorem Mj (I:W told)(s:Sat h S): Call ⟨prog,told⟩ 148 [] h λr h'=>Sat h' (.dL r gI::S):=by
 refine Call.of_wp (I.free _ U) func148 U U (zK 6 U (aq.any U U U (OpR.of (R:=λv h'=>v=.sl h.next 0 8 (.exact 8)/\h'=newRow h (ofBytes gI)) (jj U XR) ⟨U,U⟩) ?_))
 rintro v h1 ⟨rfl,rfl⟩;have s1:Sat (newRow h (ofBytes gI)) (pt h.next (.cells 8 (ofBytes gI) false)::S):=s.new _
 generalize newRow h (ofBytes gI)=h1 at s1;generalize h.next=id at s1
 have J:=s1.row (k:=0) U;have e1:convB prog h1 23 23 (.sl id 0 8 (.exact 8))=some (.sl id 0 8 (.exact 8),h1.put id (some (.cells 8 (ofBytes gI) true))):=by
  simp only[convB,aZ,underlying5,J];rfl
 have e0:convV prog h1 23 23 (.sl id 0 8 (.exact 8))=none:=by
  simp only[convV,aZ]
 have s2:Sat (h1.put id (some (.cells 8 (ofBytes gI) true))) (pt id (.cells 8 (ofBytes gI) true)::S):=s1.put (k:=0) U;have s3:Sat (h1.put id (some (.cells 8 (ofBytes gI) true))) (.dL (.sl id 0 8 (.exact 8)) gI::S):=s2.freeze.iX (B:=.dL (.sl id 0 8 (.exact 8)) gI) λm r hm=>⟨O,.inr ⟨id,0,.exact 8,8,_,true,U,hm,U,O,U,O⟩⟩;refine aq.any U U U (OpR.of (R:=λv h'=>v=.sl id 0 8 (.exact 8)/\h'=h1.put id (some (.cells 8 (ofBytes gI) true))) (abw U e0 e1) ⟨U,U⟩) ?_;rintro v h2 ⟨rfl,rfl⟩;exact zk 2 U (zR U s3)
theorem Uj (J:W told)(hx:View h x l)(hy:View h y c): Call ⟨prog,told⟩ 204 [x,y] h λr h'=>r=.bool (decide (l=c))/\h'=h:=by
 refine Call.of_wp (J.free _ U) func204 U U (zK 7 U (zo U (bQ U (cvS hx)) (zm U (zo U (bQ U (cvS hy)) ?_))));by_cases I:l=c
 .skip;exact zB U Zr (decide_eq_true I) (zk 2 U (zR U ⟨by rw[lH I],U⟩))
 .skip;exact zC U Zr (decide_eq_false I) (zk 2 U (zR U ⟨by rw[mE I],U⟩))
theorem Uk (I:W told)(h1:1<=n)(h2:n<=3000): Call ⟨prog,told⟩ 146 [.int .i64 (n:Int)] h λr h'=>r=.int .i64 2/\h'=h:=by
 have e:(n+2999)/3000=1:=Y;refine Call.of_wp (I.free _ U) func146 U U (zK 7 U (zb U (by exact aT ay)<|zb U (by exact gz ay) ?_));refine zo U (ag (r:=.int .i64 (((n+2999)/3000:Nat):Int)) U U (by rw[show(n:Int)+3000-1=((n+2999:Nat):Int) by omega];exact He O Y)) ?_;rw[e];exact zb U (by exact aT ay)<|zk 2 U (zR U ⟨U,U⟩)
theorem abx (hT:W told)(hR:PE told N lv dd sm rv A pg)(kQ:lv ε)(hN:1<=N)(hp:PgD (pg ε 0) 201 n extra [gI,R])(Mk:R.length=64)(s:Sat h (A ε::S)):
  Call ⟨prog,told⟩ 144 [rv] h λv h'=>(∃aj,v=.aR [.aP,.int .i64 0,.bool false,.int .i64 9]/\Sat h' (A aj::S)/\dd aj)\/∃u aj,v=.aR [u,.int .i64 (n:Int),.bool true,.int .i64 0]/\lv aj/\sm ε aj/\Sat h' (bu u R::A aj::S):=by
 obtain⟨ty,u,f,rfl,hm,mZ⟩:=hR.iface;refine Call.of_wp (hT.free _ U) func144 U U (zK 10 U (aq.any U U U (OpR.invoke U U U hm U (mZ kQ O Y s)) ?_));rintro v h (⟨aj,rfl,hd,s⟩|⟨u,aj,rfl,T0,hs,s⟩)
 .skip;exact zk 10 U (zB U aE O<|zk 10 U (WP.ret ⟨aa,_,U,.inl ⟨aj,U,s,hd⟩⟩))
 refine zk 10 U (zC U aE U (zk 6 U (zc U (Rs hT s (bh _ _) hp) ?_)));rintro v h ⟨w,u0,u1,rfl,s⟩;obtain⟨Ul,I,g1,g2⟩:=dB (P:=prog) s (k:=0) (i:=0) (c:=u0) U U jg jN;obtain⟨id1,J,g3,g4⟩:=dB (P:=prog) s (k:=0) (i:=1) (c:=u1) U U jg jN;have hbw:=(s.cz 0 U).2.2;have w8:=fO (s.buf (k:=1) U).view;refine zk 8 U ?_;have s0:=s;refine WP.drawn [af,af,af,af,af,af,af,af,some (0,2),some (0,2),some (0,2),af,af,af,af,af,af,af,af,af,af,af] U bo bo<|zM U (ah.kK U U U U (ag U U aE) O<|zM U (zM U (zO U (aO U U U (s.fo 2 (j:=0) U U O jg))<|ah.kK U U U U (ag U U aE) O<|zO U (lI U U) (zM U (zM U (zO U (aJ (.ptr Ul I) U U g1) (zL U (s.CU (k:=0) (i:=0) U U jg jN g1 cF) (ah.any U U U U (OpR.call U U U U (Mj hT s)) λmv h s=>?_))))))));have s:=s.ae [1,1,1,1,1,0];have s1:=s;refine ah.any U U U U (OpR.call U U U U (Uj hT (s.buf (k:=1) U).view (s.aQ 5 U (fX _ _)))) ?_;rintro r h' ⟨rfl,rfl⟩;rw[show decide (gI=gI)=true from lH U];refine zO U (cI U U) (zO U (lI U U) (zM U (zM U (zO U (aJ (.ptr id1 J) U U g3) (zL U (s.CU (k:=0) (i:=1) U U jg jN g3 cF) (zO U (aO U U U (bC aZ (s.aQ 2 U (bh _ _)))) ?_))))));rw[Mk];refine ah.kK U U U U (ag U U aE) O<|zO U (lI U U)<|ah.nil ⟨⟨aa,aa,aa,aa,aa,aa,aa,aa,λ_ _=>.inr ⟨U,⟨_,aD U⟩,hbw⟩,λ_ _=>.inr ⟨U,⟨_,aJ (.ptr Ul I) U U g1⟩,aA _ U⟩,cY (.inr ⟨U,⟨_,o_load U (s0.CU (k:=0) (i:=0) U U jg jN g1 cF)⟩,w8⟩) (.inr ⟨U,⟨_,o_load U (s1.CU (k:=0) (i:=0) U U jg jN g1 cF)⟩,w8⟩),dq 12⟩,zK 5 U ?_⟩;have ED:=hp.len;refine zc U (Ph hT (s.ae [3]) (bh _ _) Y) ?_;rintro v h ⟨s,(⟨hg,rfl⟩|⟨hg,rfl⟩)⟩
 .rw[show(pg ε 0).getD 12 0=201 from hp.kind,show dU (pg ε 0) 18 4=n from hp.link];have s:=s.ae [1,1,1,1,0];exact zk 16 U (zC U aE O<|zk 6 U (zo U (aJ (.ptr id1 J) U U g3) (zl U (s.CU (k:=0) (i:=1) U U jg jN g3 cF) (zk 6 U (zR U (.inr ⟨_,aj,U,T0,hs,(((((s.ae [2,2]).del 5).del 4).del 3).del 2)⟩))))))
 .rw[hp.good] at hg;cases hg
theorem Ml (hT:W told)(hR:PE told N lv dd sm rv A pg)(J:lv ε)(hN:1<=N)(hp:PgD (pg ε 0) 201 n extra [gI,R])(Mk:R.length=64)(s:Sat h (A ε::S)):
  Call ⟨prog,told⟩ 200 [rv] h λv h'=>(∃aj,v=.aR [.aP,.int .i64 0,.int .i64 9]/\Sat h' (A aj::S)/\dd aj)\/∃u aj,v=.aR [u,.int .i64 (n:Int),.int .i64 0]/\lv aj/\sm ε aj/\Sat h' (bu u R::A aj::S):=by
 refine Call.of_wp (hT.free _ U) func200 U U (zK 9 U (zc U (abx hT hR J hN hp Mk s) ?_));rintro v h (⟨aj,rfl,s,hd⟩|⟨u,aj,rfl,I,hs,s⟩)
 .skip;exact zk 11 U (WP.block (zK 3 U (zB U aE O<|zk 10 U (WP.ret ⟨aa,_,U,.inl ⟨aj,U,s,hd⟩⟩))))
 exact zk 9 U (zv (zw (WP.block (zg U (zm U (zh U (ag U U aE) U (za U (zv (zj U (zg U (zm U (zo U (cI U U) (za U (zv (zj U (WP.skip (zg U (zk 5 U (zv<|WP.ret ⟨aa,_,U,.inr ⟨u,aj,U,I,hs,s⟩⟩)))))))))))))))))))
theorem aby (hT:W told)(hR:G_ told N B rv A pg)(I:EI N B ε)(hN:1<=N)(hp:PgD (pg ε 0) 201 n extra [gI,R])(J:R.length=64)(s:Sat h (A ε::S)):
  Call ⟨prog,told⟩ 200 [rv] h λv h'=>∃u aj,v=.aR [u,.int .i64 (n:Int),.int .i64 0]/\EI N B aj/\Sm N ε aj/\Sat h' (bu u R::A aj::S) :=
 (Ml hT hR.m I hN hp J s).mono λ_ _ k=>k.resolve_left λ⟨_,_,_,q⟩=>q
theorem PF (hT:W told)(hR:PE told N lv dd sm rv A pg)(J:lv ε)(hN:2<=N)(hp:PgD (pg ε 1) kd link extra [M])(hM:M.length=375)(s:Sat h (A ε::S)):
  Call ⟨prog,told⟩ 222 [rv,.int .i64 0] h λv h'=>(∃aj,v=.aR [.aP,.aP,.int .i64 9]/\Sat h' (A aj::S)/\dd aj)\/∃w u aj,v=.aR [w,u,.int .i64 0]/\lv aj/\sm ε aj/\Sat h' (bu u M::bu w (pg ε 1)::A aj::S):=by
 obtain⟨ty,u,f,rfl,hm,mZ⟩:=hR.iface;refine Call.of_wp (hT.free _ U) func222 U U (zK 11 U (zb U (by exact aT ay)<|aq.any U U U (OpR.invoke U U U hm U (mZ (n:=1) J O Y s)) ?_));rintro v h (⟨aj,rfl,hd,s⟩|⟨w,aj,rfl,I,hs,s⟩)
 .skip;exact zk 9 U (zB U aE O<|zk 9 U (WP.ret ⟨aa,_,U,.inl ⟨aj,U,s,hd⟩⟩))
 refine zk 9 U (zC U aE U (zk 6 U (zc U (Mi (i:=0) hT s (bh _ _) hp U) ?_)));rintro v h ⟨u,rfl,s⟩;refine zk 10 U (zC U aE U (zk 2 U (zo U (aO U U U (bC aZ (s.aQ 0 U (bh _ _)))) ?_)));rw[hM];exact zC U aE O<|zk 12 U (zR U (.inr ⟨w,u,aj,U,I,hs,s⟩))
theorem PG (J:W told)(hR:G_ told N B rv A pg)(kQ:EI N B ε)(hN:1<=N)(hp:PgD (pg ε 0) 201 n extra [gI,R])(Mk:R.length=64){i:Int}(ZJ : -1<=i)(gD:i<=16)(s:Sat h (A ε::S)):
  Call ⟨prog,told⟩ 140 [rv,.int .i64 i] h λv h'=>∃aj,v=(if 0<=i/\i<16 then .aR [.int .i64 (dU R (4*i.toNat) 4:Nat),.int .i64 0] else .aR [.int .i64 0,.int .i64 1])/\EI N B aj/\Sm N ε aj/\Sat h' (A aj::S):=by
 refine Call.of_wp (J.free _ U) func140 U U (zK 8 U (zc U (aby J hR kQ hN hp Mk s) ?_));rintro v h ⟨u,aj,rfl,I,hs,s⟩;refine zk 9 U (WP.block (zK 3 U (zC U aE U (zk 6 U ?_))));by_cases h0:i<0
 .skip;exact zB U aG Q<|zk 12 U (WP.ret ⟨aa,_,U,aj,Q,I,hs,s.drop⟩)
 .skip;refine zC U aG Q<|zk 2 U ?_;by_cases h1:16<=i
  .skip;exact zB U dO Q<|zk 9 U (WP.ret ⟨aa,_,U,aj,Q,I,hs,s.drop⟩)
  .skip;refine zC U dO Q<|zk 2 U (zv (zj U (WP.skip (zg U (zk 2 U (zb U (by exact jM ay)<|zm U (zb U (by exact aT ay)<|zb U (by exact jM ay) ?_)))))));obtain⟨k,rfl⟩:∃k:Nat,i=k:=⟨i.toNat,Y⟩;have hv:=(s.buf (k:=0) U).view;have q1:(4*(k:Int)).toNat=4*k:=Y;have q2:(4*((k:Int)+1)).toNat=4*k+4:=Y;refine zo U (bR (p:=some (.int .i64 (4*(k:Int)))) (q:=some (.int .i64 (4*((k:Int)+1)))) (m:=none) (p':=some (4*k)) (q':=some (4*k+4)) (m':=none) U U U U (by rfl) (by rfl) U (dm hv Y Y).1)<|zc U (rZ J s (k:=0) U (lU (bh _ _) (a:=4*k) (b:=4*k+4) Y Y) Q) ?_;rintro v h' ⟨rfl,rfl⟩;have bY:=Cq (a:=4*k) (z:=4) hv.1;have ea:leN ((R.take (4*k+4)).drop (4*k))=dU R (4*k) 4:=rfl;rw[ea];exact zo U (bQ U (by exact ie bS bB ay))<|zk 3 U (zR U ⟨aj,Q,I,hs,s.drop⟩)
end
end Go.Proofs.YtiojppeahfoiaaaGreat.Am
