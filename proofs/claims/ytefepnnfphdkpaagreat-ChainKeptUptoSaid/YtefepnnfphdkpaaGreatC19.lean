/- ChainKept: a part of its proof; conditions: its statement's. -/
import Derived.Test.YtefepnnfphdkpaaGreatC18
namespace Go.Proofs.YtefepnnfphdkpaaGreat.Am
open Go
section
variable {told:cN} {h:H} {S:List aq} {X:aq} {p:Nat} {δ:Dk}
def Dk.wr (δ:Dk)(n:Int)(b:List Nat): Dk:={ δ.fZ with waiting:=δ.waiting++[(n.toNat,b)],now:=dg n b δ.now }
theorem OS : ∃i,Tryz.prog.info? 151=some i∧i.size=2∧i.bytes=32 :=
 ⟨_,(show Tryz.prog.info? 151=some ((Tryz.prog.info? 151).getD default) by kernel_rfl),by kernel_rfl,by kernel_rfl⟩
theorem Sat.Rn {cs:List V}{m:List Wr}{u:V}{x:Wr}(s:Sat h (.cu u x.2::zW cs m::S))(hu:u≠.bp): Sat h (zW (cs++[.int .i64 (x.1:Int),u]) (m++[x])::S) :=
 s.two (aS.cu _ _) (aS.wr _ _) fun _ _ I J=>OP J hu I
theorem JO (hT:W told){n:Int}{x:V}{b:List Nat}(s:Sat h (bx p δ::X::S))(hX:cO X (cR x b))(hb:b.length<1073741824)(hf:δ.bP<4294967296)(hw:δ.waiting.length≤268435456):
  Call ⟨Tryz.prog,told⟩ 138 [.ptr p 0,.int .i64 n,x] h fun v h' =>
  (δ.dead=true∧v=.int .i64 9∧Sat h' (bx p δ::X::S)) ∨
  (δ.dead=false∧¬(0≤n∧n<δ.bg.length∧b.length=512)∧v=.int .i64 1∧Sat h' (bx p δ::X::S)) ∨
  (δ.dead=false∧0≤n∧n<δ.bg.length∧b.length=512∧δ.bP=0∧v=.int .i64 9∧Sat h' (bx p { δ.die with Bn:=some (n.toNat,b) }::X::S)) ∨
  (δ.dead=false∧0≤n∧n<δ.bg.length∧b.length=512∧δ.bP≠0∧v=.int .i64 0∧Sat h' (bx p (δ.wr n b)::X::S)):=by
 have J:=s
 obtain ⟨pg,wt,nw,lg,mk,tn,tl,ops,s⟩:=cI.1 s
 refine Call.of_wp (hT.free _ rfl) Tryz.func138 rfl rfl (zK 5 rfl (WP.block (zK 4 rfl (zf rfl (mN _ _) ?_))))
 refine zd rfl (aU rfl (s.ld (k:=0) rfl nD rfl)) ?_ ?_
 ·intro hd
  exact zk 7 rfl (WP.ret ⟨aa,_,rfl,.inl ⟨hd,rfl,J⟩⟩)
 ·intro hd
  refine zk 7 rfl (zc rfl (JM hT J) ?_)
  rintro v h' ⟨rfl,(⟨zY,oZ,rfl⟩ | ⟨hn,rfl⟩)⟩
  ·skip
   refine zo rfl (fo rfl rfl) (zk 2 rfl (zo rfl (aM rfl rfl rfl (aW aG (s.aH (k:=8) rfl hX))) ?_))
   refine zd rfl (ag rfl rfl aJ) ?_ ?_
   ·intro I
    have I:b.length≠512:=by simp at I; omega
    exact zk 8 rfl (WP.ret ⟨aa,_,rfl,.inr (.inl ⟨hd,fun q=>I q.2.2,rfl,J⟩)⟩)
   ·intro I
    have I:b.length=512:=by simp at I; omega
    refine zk 2 rfl (zv (zj rfl (WP.skip (zg rfl (zk 2 rfl (zc rfl (lN hT (J.ae [1]) hX hb) ?_))))))
    intro u h s
    obtain ⟨kg,_,cap,_,rfl,_⟩:=s.eF (by omega)
    have s:=s.gF
    have TS:((n.toNat:Nat):Int)=n:=by omega
    refine zo rfl (cW rfl (by rw [SG]; rfl)) ?_
    refine az.cG s rfl rfl rfl (cA Hx) (fun p7 h s => ?_)
    refine zS rfl (s.hG (j:=0) rfl Hw rfl rfl) (fun h s => ?_)
    refine zk 5 rfl (zc rfl (vl hT (s.ae [3]) hf) ?_)
    rintro v h (⟨h0,rfl,s⟩ | ⟨h0,rfl,s⟩)
    ·skip
     obtain ⟨pg,wt,nw,lg,mk,tn,tl,ops,s⟩:=cI.1 s
     refine zo rfl (fo rfl rfl) (zk 6 rfl (zf rfl (LN _ _) ?_))
     refine zS rfl (by exact s.iF (k:=0) rfl SD rfl (by decide) rfl rfl) (fun h s => ?_)
     dsimp only [JL,V.cells,List.length_cons,List.length_nil,Nat.reduceAdd,aV,bringA,List.take,List.drop,List.cons_append,List.nil_append,setA,List.set] at s
     refine zk 5 rfl (WP.ret ⟨aa,_,rfl,?_⟩)
     have s1:=s.ae [8,8,8]
     have s2:Sat h (zX _ (some (n.toNat,b))::_):=j4.2 ⟨_,j4.2 ⟨_,c6.2 (qB.2 ⟨rfl,by rw [TS]; exact s1⟩)⟩⟩
     have s3:=(s2.del 8).ae [2,2,2,2,2,2,0,1,0]
     exact .inr (.inr (.inl ⟨hd,zY,oZ,I,h0,rfl,cI.2 ⟨_,_,_,_,_,_,_,_,s3⟩⟩))
    ·skip
     obtain ⟨pg,wt,nw,lg,mk,tn,tl,ops,s⟩:=cI.1 s
     dsimp only [Dk.fZ] at s
     obtain ⟨cs,sw⟩:=vj.1 (s.ae [2])
     have s:=sw.ae [2,8,0,0]
     dsimp only [JL,V.cells,List.length_cons,List.length_nil,Nat.reduceAdd,aV,bringA,List.take,List.drop,List.cons_append,List.nil_append,setA,getA] at s
     have J:=s
     have NG:=(s.kY (j:=2) rfl).2.2
     refine zo rfl (fo rfl rfl) (zk 4 rfl (WP.drawn [some (0,3),some (0,2),some (0,2),some (0,2),some (0,2),ak,ak,ak,ak,ak,ak] rfl (by kernel_rfl) (by kernel_rfl) ?_))
     refine zM rfl (zM rfl (zN rfl (zF rfl (Bd _ _) (zL rfl (s.ld (k:=0) rfl Hv rfl) (zL rfl (s.cX (k:=1) rfl SF Hw) ?_)))))
     obtain ⟨i1,jb,gi,tc⟩:=OS
     obtain ⟨sv,h1,e1,s1⟩:=j7 (P:=Tryz.prog) (x:=.agg [.int .i64 n,.sl kg 0 b.length cap]) s Tryz.underlying146 Hx Hw rfl (by decide) (by decide) rfl rfl
     dsimp only [V.cells] at s1
     refine aC.any rfl rfl rfl rfl (OpR.of (R:=fun v h'=>v=sv∧h'=h1) (kn rfl e1) ⟨rfl,rfl⟩) ?_
     rintro v h' ⟨rfl,rfl⟩
     have jf:cs.length=δ.waiting.length*2:=by
      obtain ⟨a,b,q1,q2,q3⟩:=s.at (k:=3) rfl
      exact OQ q3
     obtain ⟨WN,h2,e2,s2⟩:=fP (s1.ae [3,0]) Tryz.underlying146 jb Hx gi (by omega) rfl (by decide) (by simp only [V.cells,aO,bB]; omega)
     dsimp only [aV,bringA] at s2
     refine aC.any rfl rfl rfl rfl (OpR.of (R:=fun v h'=>v=WN∧h'=h2) (kj rfl rfl e2) ⟨rfl,rfl⟩) ?_
     rintro v h' ⟨rfl,rfl⟩
     have hv:=s2.kY (j:=0) rfl
     refine zN rfl (zF rfl (Bd _ _) (aC.j3 rfl rfl rfl (OpR.sS rfl rfl rfl (s2.iF (k:=2) rfl SC rfl (by decide) hv.1 hv.2.1)) ?_))
     rintro v h ⟨rfl,s⟩
     dsimp only [Nat.reduceAdd,List.set,setA] at s
     refine aC.nil ⟨⟨fun _ _=>.inr ⟨rfl,⟨_,cg rfl⟩,bS _ rfl⟩,fun _ _=>.inr ⟨rfl,⟨_,cg rfl⟩,bS _ rfl⟩,fun _ _=>.inr ⟨rfl,⟨_,tO rfl⟩,bS _ rfl⟩,fun _ _=>.inr ⟨rfl,⟨_,nZ rfl (Bd _ _)⟩,bS _ rfl⟩,ff (.inr ⟨rfl,⟨_,aU rfl (J.ld (k:=0) rfl Hv rfl)⟩,NG⟩) (.inr ⟨rfl,⟨_,aU rfl (s1.ld (k:=1) rfl Hv rfl)⟩,NG⟩),aa,aa,aa,aa,aa,aa,aa⟩,?_⟩
     refine zw (WP.drawn [ak,ak,ak,ak,ak,ak,ak,ak] rfl (by kernel_rfl) (by kernel_rfl) ?_)
     refine zM rfl (zN rfl (zF rfl (FW _ _) (zL rfl (s.ld (k:=2) rfl me rfl) (zM rfl (zF rfl (OF _ _) (zL rfl (s.ld (k:=3) rfl bN rfl) (aC.j3 rfl rfl rfl (OpR.mapUpdate rfl rfl rfl rfl (mu (f:=fun v b=>aq.cu v b) (x:=b) (fun _ _=>aS.cu _ _) (((s.ae [11]).dup (aS.cu _ _)).ae [0,7]) oH bO)) ?_)))))))
     intro v h s
     dsimp only [aV,bringA] at s
     refine aC.nil ⟨⟨aa,aa,aa,aa,aa,aa,aa,aa,aa⟩,?_⟩
     refine zK 4 rfl (WP.ret ⟨aa,_,rfl,?_⟩)
     have s1:=(s.ae [1,5]).Rn (x:=(n.toNat,b)) (by simp)
     rw [TS] at s1
     have s2:=((vj.2 ⟨_,s1.ae [2,0]⟩).del 4).del 2
     exact .inr (.inr (.inr ⟨hd,zY,oZ,I,h0,rfl,cI.2 ⟨_,_,_,_,_,_,_,_,s2.ae [2,2,0,0,0,0,0,0,0]⟩⟩))
  ·skip
   exact zo rfl (fo rfl rfl) (zk 12 rfl (WP.ret ⟨aa,_,rfl,.inr (.inl ⟨hd,fun q=>hn ⟨q.1,q.2.1⟩,rfl,J⟩)⟩))
theorem OT (I:W told)(s:Sat h (bx p δ::S))(J:δ.log.length<1073741824): Call ⟨Tryz.prog,told⟩ 132 [.ptr p 0] h fun v h' =>
  (δ.dead=true∧v=.bh [.bp,.int .i64 9]∧Sat h' (bx p δ::S))∨(δ.dead=false∧∃b,v=.bh [b,.int .i64 0]∧Sat h' (aR b δ.log::bx p δ::S)):=by
 have s0:=s
 obtain ⟨pg,wt,nw,lg,mk,tn,tl,ops,s⟩:=cI.1 s
 refine Call.of_wp (I.free _ rfl) Tryz.func132 rfl rfl (zK 10 rfl (zf rfl (mN _ _) ?_))
 refine zd rfl (aU rfl (s.ld (k:=0) rfl nD rfl)) ?_ ?_
 ·intro hd
  exact zk 7 rfl (WP.ret ⟨aa,_,rfl,.inl ⟨hd,rfl,s0⟩⟩)
 ·intro hd
  refine zk 7 rfl (zf rfl (sU _ _) (zl rfl (s.ld (k:=0) rfl bN rfl) (zc rfl (lN I (s.ae [4]) (aX _ _) J) ?_)))
  intro v h s
  exact zk 3 rfl (WP.ret ⟨aa,_,rfl,.inr ⟨hd,v,rfl,(cI.2 ⟨pg,wt,nw,lg,mk,tn,tl,ops,s.ae [2,2,2,2,1,1,1,1,0]⟩).ae [1]⟩⟩)
theorem HK (I:W told)(s:Sat h (bx p δ::S))(hl:δ.mark.length≤64): Call ⟨Tryz.prog,told⟩ 131 [.ptr p 0] h fun v h' =>
  (δ.dead=true∧v=.bh [.bp,.int .i64 9]∧Sat h' (bx p δ::S))∨(δ.dead=false∧∃b,v=.bh [b,.int .i64 0]∧Sat h' (aR b δ.mark::bx p δ::S)):=by
 have J:=s
 obtain ⟨pg,wt,nw,lg,mk,tn,tl,ops,s⟩:=cI.1 s
 refine Call.of_wp (I.free _ rfl) Tryz.func131 rfl rfl (zK 10 rfl (zf rfl (mN _ _) ?_))
 refine zd rfl (aU rfl (s.ld (k:=0) rfl nD rfl)) ?_ ?_
 ·intro hd
  exact zk 7 rfl (WP.ret ⟨aa,_,rfl,.inl ⟨hd,rfl,J⟩⟩)
 ·intro hd
  refine zk 7 rfl (zf rfl (OE _ _) (zl rfl (s.ld (k:=0) rfl bN rfl) (zc rfl (lN I (s.ae [5]) (dc _ _) (by omega)) ?_)))
  intro v h s
  exact zk 3 rfl (WP.ret ⟨aa,_,rfl,.inr ⟨hd,v,rfl,(cI.2 ⟨pg,wt,nw,lg,mk,tn,tl,ops,s.ae [2,2,2,2,2,1,1,1,0]⟩).ae [1]⟩⟩)
def Dk.fresh (bg room:Nat): Dk:={ room:=room,bg:=List.replicate bg none,waiting:=[],now:=[],log:=[],ey:=0,mark:=[],bP := -1,dead:=false,Bn:=none,tail:=[] }
theorem OU : ∃i,Tryz.prog.info? 28=some i∧i.size=1∧i.bytes=24 :=
 ⟨_,(show Tryz.prog.info? 28=some ((Tryz.prog.info? 28).getD default) by kernel_rfl),by kernel_rfl,by kernel_rfl⟩
theorem EY (v:V): ∀n:Nat,repeatL [v] n=List.replicate n v:=by
 intro n
 induction n with
 | zero=>rfl
 | succ n I=>simp only [repeatL,I,sj,gK,cV]
theorem JP {a b:PM}: ∀n:Nat,(each s_ (List.replicate n .bp) (List.replicate n none)).p a b:=by
 intro n
 induction n with
 | zero=>trivial
 | succ n I=>exact ⟨rfl,I⟩
theorem L1 (hT:W told){n m:Nat}(s:Sat h S)(hn:n<1073741824): Call ⟨Tryz.prog,told⟩ 88 [.int .i64 (n:Int),.int .i64 (m:Int)] h fun v h'=>∃p,v=.ptr p 0∧Sat h' (bx p (Dk.fresh n m)::S):=by
 refine Call.of_wp (hT.free _ rfl) Tryz.func88 rfl rfl (zK 8 rfl ?_)
 obtain ⟨i1,I,J,tc⟩:=OU
 obtain ⟨id,h1,e1,s1⟩:=BT (P:=Tryz.prog) s fY I n4 J (by omega) rfl (by decide) hn
 refine az.any rfl rfl rfl (OpR.of (R:=fun v h'=>v=.sl id 0 n (.exact n)∧h'=h1) (rE rfl rfl e1) ⟨rfl,rfl⟩) ?_
 rintro v h ⟨rfl,rfl⟩
 have s:=s1
 dsimp only [V.cells] at s
 rw [cq,EY] at s
 refine az.A_ s rfl rfl rfl rfl (fun p8 h s => ?_)
 refine zo rfl (cW rfl (by rw [SE]; rfl)) ?_
 refine az.cG s rfl rfl rfl (fO rfl rfl) (fun YZ h s => ?_)
 refine zk 2 rfl (WP.ret ⟨aa,_,rfl,?_⟩)
 have s:=(qG (f:=fun v b=>aq.cu v b) (s.ae [1]))
 have s:=s.rH.rH.Dl
 have s:Sat _ (wS .bp []::_):=vj.2 ⟨[],(s.gp (φ:=True) aa).l7⟩
 have s:Sat _ (zX .cU none::_):=s.gp rfl
 have s:=s.ae [6,6]
 have hp:Sat _ (l9 (.sl id 0 n (.exact n)) (List.replicate n none)::_):=nk.2 ⟨id,List.replicate n .bp,by rw [eR],by
  rw [eR]
  exact (((s.ae [1]).gp (φ:=True) aa).hU fun a b _=>JP n).ae [1]⟩
 dsimp only [V.cells,List.take,List.length_cons,List.length_nil,Nat.reduceAdd,List.drop,List.cons_append,List.nil_append,aV,bringA,getA] at hp
 exact ⟨_,rfl,cI.2 ⟨_,_,_,_,_,_,_,_,hp.ae [1,0,1,4,1,1,0,0]⟩⟩
theorem OV (hT:W told){n m:Int}(s:Sat h S): Call ⟨Tryz.prog,told⟩ 70 [.int .i64 n,.int .i64 m] h fun v h' =>
  (¬(1≤n∧n≤65536∧0≤m∧m≤16777216)∧v=.bh [.cU,.int .i64 1]∧Sat h' S) ∨
  (1≤n∧n≤65536∧0≤m∧m≤16777216∧∃p,v=.bh [.ptr p 0,.int .i64 0]∧Sat h' (bx p (Dk.fresh n.toNat m.toNat)::S)):=by
 refine Call.of_wp (hT.free _ rfl) Tryz.func70 rfl rfl (zK 9 rfl ?_)
 refine zd rfl (ag rfl rfl aP) ?_ ?_
 ·intro hq
  have hq:n<1:=by simpa using hq
  exact zk 19 rfl (WP.ret ⟨aa,_,rfl,.inl ⟨fun q=>by omega,rfl,s⟩⟩)
 ·intro hq
  have hq:1≤n:=by simpa using hq
  refine zk 2 rfl ?_
  refine zd rfl (ag rfl rfl h_) ?_ ?_
  ·intro I
   have I:65536<n:=by simpa using I
   exact zk 16 rfl (WP.ret ⟨aa,_,rfl,.inl ⟨fun q=>by omega,rfl,s⟩⟩)
  ·intro I
   have I:n≤65536:=by simpa using I
   refine zk 3 rfl ?_
   refine zd rfl (ag rfl rfl aP) ?_ ?_
   ·intro J
    have J:m<0:=by simpa using J
    exact zk 12 rfl (WP.ret ⟨aa,_,rfl,.inl ⟨fun q=>by omega,rfl,s⟩⟩)
   ·intro J
    have J:0≤m:=by simpa using J
    refine zk 3 rfl ?_
    refine zd rfl (ag rfl rfl h_) ?_ ?_
    ·intro mQ
     have mQ:16777216<m:=by simpa using mQ
     exact zk 8 rfl (WP.ret ⟨aa,_,rfl,.inl ⟨fun q=>by omega,rfl,s⟩⟩)
    ·intro mQ
     have mQ:m≤16777216:=by simpa using mQ
     refine zk 8 rfl ?_
     obtain ⟨n,rfl⟩:∃k:Nat,n=k:=⟨n.toNat,by omega⟩
     obtain ⟨m,rfl⟩:∃k:Nat,m=k:=⟨m.toNat,by omega⟩
     refine zc rfl (L1 hT s (by omega)) ?_
     rintro v h ⟨p,rfl,s⟩
     exact zk 3 rfl (WP.ret ⟨aa,_,rfl,.inr ⟨hq,I,J,mQ,p,rfl,s⟩⟩)
end
def leN : List Nat→Nat
 | []=>0
 | b::l=>b+256*leN l
theorem L2 : ∀(l:List Nat) (b:Nat),leN (l++[b])=leN l+b*256^l.length:=by
 intro l
 induction l with
 | nil=>intro b; simp [leN]
 | cons x l I=>intro b; simp only [gK,leN,I,aO,sG,Nat.mul_add]; rw [←iQ,sE (256^l.length) 256,←Nat.mul_assoc b,sE b 256,Nat.mul_assoc 256 b]
theorem Dy : ∀(l:List Nat),(∀b∈l,b<256)→leN l<256^l.length:=by
 intro l
 induction l with
 | nil=>intro _; simp [leN]
 | cons x l I =>
  intro h
  have h1:=I (fun b J=>h b (cj _ J))
  have h2:=h x cz
  simp only [leN,aO,sG]
  omega
theorem Dz (i:Nat): (256:Nat)^i=2^(8*i):=by rw [Nat.pow_mul]
theorem U_ {P:Program}{h:H}{t:TypeId}{x y:Operand}{d i:Nat}(hd:d<256)(hi:i≤7): binV P h .shl t x y (.int .u64 (d:Int)) (.int .i64 (8*(i:Int)))=some (.int .u64 ((d*256^i:Nat):Int)):=by
 have J:(256:Nat)^i≤256^7:=vR (by omega) hi
 have I:d*256^i<18446744073709551616:=by
  have:d*256^i≤255*256^7:=vY (by omega) J
  omega
 simp only [binV,shiftV,IntKind.bits]
 have e:(8*(i:Int)).toNat=8*i:=by omega
 rw [e,show min (8*i) 64=8*i by omega,show decide (8*(i:Int)<0)=false by simp; omega,ay]
 have:(d:Int)*2^(8*i)=((d*256^i:Nat):Int):=by rw [Dz]; push_cast; rfl
 simp only [this,wrap_u64 I]
theorem WO {P:Program}{h:H}{t:TypeId}{x y:Operand}{a d i:Nat}(I:a<256^i)(hd:d<256)(hi:i≤7): binV P h .or t x y (.int .u64 (a:Int)) (.int .u64 ((d*256^i:Nat):Int))=some (.int .u64 ((a+d*256^i:Nat):Int)):=by
 have J:(256:Nat)^i≤256^7:=vR (by omega) hi
 have hm:d*256^i≤255*256^7:=vY (by omega) J
 have h1:((a:Int)%(2^(IntKind.u64).bits:Int)).toNat=a:=by simp only [IntKind.bits]; omega
 have h2:(((d*256^i:Nat):Int)%(2^(IntKind.u64).bits:Int)).toNat=d*256^i:=by simp only [IntKind.bits]; omega
 have h3:Nat.lor a (d*256^i)=a+d*256^i:=by
  have e:d*256^i=2^(8*i)*d:=by rw [←Dz,sE]
  have:=Nat.two_pow_add_eq_or_of_lt (i:=8*i) (b:=a) (by rw [←Dz]; exact I) d
  rw [←e] at this
  rw [v_ a,this]
  exact Nat.or_comm _ _
 simp only [binV,ikBeq,af,intV,bitsV,h1,h2,h3]
 rw [wrap_u64 (by omega)]
section
variable {told:cN} {h:H} {S:List aq} {X:aq} {k:Nat} {v:V} {l:List Nat}
noncomputable def WQ : Code:=eD [1,1,0,1,0,0] ((Tryz.f86.body).getD .skip)
theorem JQ (hv:View h v l)(hl:l.length≤8): ∀(j i:Nat) (E:List (Nat×V)) (Q:Ex→List (Nat×V)→H→Prop),i+j=l.length →
  Has E [(3,.int .u64 (leN (l.take i))),(6,v),(7,.int .i64 l.length),(8,.int .i64 i)]→(∀E',look E' 3=some (.int .u64 (leN l))→Q (.exit 0) E' h)→WP ⟨Tryz.prog,told⟩ 22 (.loop WQ) E h Q:=by
 intro j
 induction j with
 | zero =>
  intro i E Q hi hE hq
  refine WP.loop (WP.has hE (zg rfl (zh rfl (ag rfl rfl aP) (by simp; omega) ?_)))
  refine zk 3 rfl (WP.exit (hq _ ?_))
  rw [dO (by omega)]
  rfl
 | succ j ih =>
  intro i E Q hi hE hq
  have J:l[i]?=some (l[i]'(by omega)):=aN _
  generalize FE:(l[i]'(by omega))=b at J
  have I:b<256:=hv.1 b (aY J)
  obtain ⟨id,off,e1,e2⟩:=dN hv J
  have ht:l.take (i+1)=l.take i++[b]:=by rw [sA,J]; rfl
  have a_:leN (l.take i)<256^i:=by
   have:=Dy (l.take i) (fun x hx=>hv.1 x (fC hx))
   rwa [e_,mD (by omega)] at this
  refine WP.loop (WP.has hE (zg rfl (zt rfl (ag rfl rfl aP) (by simp; omega) ?_)))
  refine zk 5 rfl (WP.block (zK 3 rfl (zo rfl (cx (r:=.ptr id off) rfl rfl e1) (zl rfl e2 (zk 6 rfl (zo rfl (cF rfl (by exact ke Tryz.underlying5 dm (gq (by omega) (by omega)))) ?_))))))
  refine zm rfl (zb rfl (by exact jG (aA (by omega) (by omega))) ?_)
  refine zb rfl (U_ I (by omega)) ?_
  refine zb rfl (WO a_ I (by omega)) ?_
  refine za rfl (zv (zr rfl (zb rfl (by exact bk (aA (by omega) (by omega))) ?_)))
  refine zm rfl (zv ?_)
  refine ih (i+1) _ _ (by omega) ?_ hq
  rw [ht,L2,e_,mD (by omega)]
  exact ⟨rfl,rfl,rfl,rfl,aa⟩
theorem F7 (J:W told)(s:Sat h S)(hk:getA S k=some X)(hX:cO X (cR v l))(hl:l.length≤8): Call ⟨Tryz.prog,told⟩ 86 [v] h fun r h'=>r=.int .u64 (leN l)∧h'=h:=by
 have hv:=s.aH hk hX
 refine Call.of_wp (J.free _ rfl) Tryz.func86 rfl rfl (zK 12 rfl (zo rfl (aM rfl rfl rfl (aW aG hv)) (zk 2 rfl (WP.block ?_))))
 refine JQ hv hl l.length 0 _ _ (by omega) ⟨rfl,rfl,rfl,rfl,aa⟩ (fun E' I => ?_)
 exact WP.has (F:=[(3,.int .u64 (leN l))]) ⟨I,aa⟩ (zK 5 rfl (WP.ret ⟨aa,_,rfl,rfl,rfl⟩))
theorem NH (I:W told)(s:Sat h S)(J:getA S k=some X)(hX:cO X (cR v l))(hl:l.length≤4611686018427387904): Call ⟨Tryz.prog,told⟩ 171 [v] h fun r h'=>r=.int .u32 (vk 0 l:Nat)∧h'=h:=by
 refine Call.of_wp (I.free _ rfl) Tryz.func171 rfl rfl (zK 7 rfl (zc rfl (OR (s:=0) I s J hX (by decide) hl) ?_))
 rintro v h' ⟨rfl,rfl⟩
 exact zk 2 rfl (WP.ret ⟨aa,_,rfl,rfl,rfl⟩)
def cP (l:List Nat)(a z:Nat): Nat:=leN ((l.take (a+z)).drop a)
theorem qI (hT:W told){a z:Int}(s:Sat h S)(J:getA S k=some X)(hX:cO X (cR v l))(ha:0≤a)(hz:1≤z)(F8:z≤7)(hl:a+z≤l.length)(jy:l.length≤65536):
  Call ⟨Tryz.prog,told⟩ 154 [.agg [v],.int .i64 a,.int .i64 z] h fun r h'=>r=.int .i64 (cP l a.toNat z.toNat)∧Sat h' S:=by
 have hv:=s.aH J hX
 obtain ⟨pi,po,pc,rfl⟩:=gP hv (by omega)
 refine Call.of_wp (hT.free _ rfl) Tryz.func154 rfl rfl (zg rfl ?_)
 refine az.cG s rfl rfl rfl (fO rfl rfl) (fun p3 h s => ?_)
 refine zk 4 rfl (zf rfl (fG _ _) (zl rfl (s.ld (k:=0) rfl bN rfl) (zk 3 rfl (zb rfl (by exact bk (aA (by omega) (by omega))) ?_))))
 refine zk 2 rfl (zb rfl (by exact bk (aA (by omega) (by omega))) ?_)
 have kI:=xu (s.aH (kC J) hX) (a:=a.toNat) (b:=(a+z).toNat) (c:=(a+z).toNat) (by omega) (by omega) (by omega) (by omega)
 refine zo rfl (eV (p:=some (.int .i64 a)) (q:=some (.int .i64 (a+z))) (m:=some (.int .i64 (a+z))) rfl rfl rfl rfl (eX ha) (eX (by omega)) (eX (by omega)) kI) ?_
 have hlen:((l.take (a+z).toNat).drop a.toNat).length=z.toNat:=by simp; omega
 refine zc rfl (F7 hT s (kC J) (BU hX (a:=a.toNat) (b:=(a+z).toNat) (c:=(a+z).toNat) (by omega) (by omega) (by omega) (by omega)) (by omega)) ?_
 rintro r h' ⟨rfl,rfl⟩
 have I:=Dy ((l.take (a+z).toNat).drop a.toNat) (fun x hx=>hv.1 x (fC (gI hx)))
 have hp:256^z.toNat≤256^7:=vR (by omega) (by omega)
 rw [hlen] at I
 have e:(a+z).toNat=a.toNat+z.toNat:=by omega
 rw [e] at I ⊢
 refine zo rfl (cF rfl (by exact ke dm bO (aA (by omega) (by omega)))) ?_
 exact zk 2 rfl (WP.ret ⟨aa,_,rfl,rfl,s.drop⟩)
theorem zZ {a z:Nat}(I:∀b∈l,b<256): cP l a z<256^z:=by
 have:=Dy ((l.take (a+z)).drop a) (fun x J=>I x (fC (gI J)))
 have h2:((l.take (a+z)).drop a).length≤z:=by simp; omega
 exact gz this (vR (by omega) h2)
def jh (l:List Nat): Nat:=cP l 14 2
def gr (l:List Nat): Nat:=cP l 16 2
def cM (l:List Nat)(i:Nat): Nat:=cP l (26+4*i) 2
def gu (l:List Nat)(i:Nat): Nat:=cP l (26+4*i+2) 2
theorem jH (I:W told)(s:Sat h S)(J:getA S k=some X)(hX:cO X (cR v l))(hl:l.length=512):
  Call ⟨Tryz.prog,told⟩ 101 [.agg [v]] h fun r h'=>r=.int .i64 (jh l)∧Sat h' S:=by
 have hv:=s.aH J hX
 obtain ⟨pi,po,pc,rfl⟩:=gP hv (by omega)
 refine Call.of_wp (I.free _ rfl) Tryz.func101 rfl rfl (zg rfl ?_)
 refine az.cG s rfl rfl rfl (fO rfl rfl) (fun p1 h s => ?_)
 refine zk 4 rfl (zl rfl (s.cX (k:=0) rfl bT bn) (zc rfl (qI I s (kC J) hX (by decide) (by decide) (by decide) (by omega) (by omega)) ?_))
 rintro r h' ⟨rfl,s⟩
 exact zk 2 rfl (WP.ret ⟨aa,_,rfl,rfl,s.drop⟩)
theorem DB (I:W told)(s:Sat h S)(J:getA S k=some X)(hX:cO X (cR v l))(hl:l.length=512):
  Call ⟨Tryz.prog,told⟩ 156 [.agg [v]] h fun r h'=>r=.int .i64 (gr l)∧Sat h' S:=by
 have hv:=s.aH J hX
 obtain ⟨pi,po,pc,rfl⟩:=gP hv (by omega)
 refine Call.of_wp (I.free _ rfl) Tryz.func156 rfl rfl (zg rfl ?_)
 refine az.cG s rfl rfl rfl (fO rfl rfl) (fun p1 h s => ?_)
 refine zk 4 rfl (zl rfl (s.cX (k:=0) rfl bT bn) (zc rfl (qI I s (kC J) hX (by decide) (by decide) (by decide) (by omega) (by omega)) ?_))
 rintro r h' ⟨rfl,s⟩
 exact zk 2 rfl (WP.ret ⟨aa,_,rfl,rfl,s.drop⟩)
end
def uq (t:List Bool): List V:=t.map V.bool
theorem OW (t:List Bool)(k:Nat)(b:Bool): (uq t).set k (.bool b)=uq (t.set k b):=by simp [uq,List.map_set]
theorem F9 {t:List Bool}{k:Nat}(I:k<t.length): nth (uq t) k=some (.bool (t.getD k false)):=by
 rw [eW]; simp [uq,aN I]
theorem L3 : zeroT Tryz.prog 227=some (.agg (uq (List.replicate 512 false))):=by kernel_rfl
def markL : Nat→Nat→List Bool→Option (List Bool)
 | 0,_,t=>some t
 | n+1,k,t=>if t.getD k false then none else markL n (k+1) (t.set k true)
def cellsL (l:List Nat)(low:Nat): Nat→Nat→List Bool→Bool
 | 0,_,_=>true
 | n+1,i,t=>if cM l i<low∨512<cM l i+gu l i then false else match markL (gu l i) (cM l i) t with
  | none=>false
  | some t'=>cellsL l low n (i+1) t'
def bU (l:List Nat): Bool:=decide (l.length=512)&&(decide (l.getD 13 0=0)&&(decide (26+4*jh l≤gr l∧gr l≤512)&&cellsL l (gr l) (jh l) 0 (List.replicate 512 false)))
theorem JR : ∀(n k:Nat) (t t':List Bool),markL n k t=some t'→t'.length=t.length:=by
 intro n
 induction n with
 | zero=>intro k t t' h; simp only [markL] at h; injection h with h; subst h; rfl
 | succ n I =>
  intro k t t' h
  simp only [markL] at h
  split at h
  ·cases h
  ·have:=I _ _ _ h; simpa using this
section
variable {told:cN} {h:H} {S:List aq} {X:aq} {k:Nat} {v:V} {l:List Nat}
theorem wT (I:W told){i:Nat}(s:Sat h S)(J:getA S k=some X)(hX:cO X (cR v l))(hl:l.length=512)(hi:30+4*i≤512):
  Call ⟨Tryz.prog,told⟩ 155 [.agg [v],.int .i64 (i:Int)] h fun r h'=>r=.bh [.int .i64 (cM l i),.int .i64 (gu l i)]∧Sat h' S:=by
 have hv:=s.aH J hX
 obtain ⟨pi,po,pc,rfl⟩:=gP hv (by omega)
 have e1:(26+4*(i:Int)).toNat=26+4*i:=by omega
 have e2:(26+4*(i:Int)+2).toNat=26+4*i+2:=by omega
 refine Call.of_wp (I.free _ rfl) Tryz.func155 rfl rfl (zg rfl ?_)
 refine az.cG s rfl rfl rfl (fO rfl rfl) (fun p2 h s => ?_)
 refine zk 6 rfl (zb rfl (by exact jG (aA (by omega) (by omega))) ?_)
 refine zb rfl (by exact bk (aA (by omega) (by omega))) ?_
 refine zk 3 rfl ?_
 have s0:=s
 refine WP.drawn [ak,ak,ak,some (0,2),some (0,2),some (0,2),ak,ak,ak] rfl (by kernel_rfl) (by kernel_rfl) ?_
 refine zL rfl (s.cX (k:=0) rfl bT bn) (zM rfl (aC.any rfl rfl rfl rfl (OpR.call rfl rfl rfl rfl (qI I s (kC J) hX (by omega) (by decide) (by decide) (by omega) (by omega))) ?_))
 rintro r h' ⟨rfl,s⟩
 rw [e1]
 have s1:=s
 refine zL rfl (s.cX (k:=0) rfl bT bn) (zM rfl (zO rfl (ag rfl rfl (by exact bk (aA (by omega) (by omega)))) ?_))
 refine aC.any rfl rfl rfl rfl (OpR.call rfl rfl rfl rfl (qI I s (kC J) hX (by omega) (by decide) (by decide) (by omega) (by omega))) ?_
 rintro r h' ⟨rfl,s⟩
 rw [e2]
 refine zA rfl (zA rfl ?_)
 refine aC.nil ⟨⟨aa,aa,aa,ff (.inr ⟨rfl,⟨_,aU rfl (s0.cX (k:=0) rfl bT bn)⟩,bS _ rfl⟩) (.inr ⟨rfl,⟨_,aU rfl (s1.cX (k:=0) rfl bT bn)⟩,bS _ rfl⟩),fun _ _=>.inr ⟨rfl,⟨_,cg rfl⟩,bS _ rfl⟩,fun _ _=>.inr ⟨rfl,⟨_,ag rfl rfl (by exact bk (aA (by omega) (by omega)))⟩,bS _ rfl⟩,aa,aa,aa,aa⟩,?_⟩
 refine WP.ret ⟨aa,_,rfl,?_⟩
 exact ⟨rfl,s.drop⟩
noncomputable def WR : Code:=eD [1,1,1,1,1,1,0,1,0,0] ((Tryz.f107.body).getD .skip)
noncomputable def WT : Code:=eD [1,1,1,1,1,1,0,1,0,0,1,1,0,0,1,1,1,1,0,0] ((Tryz.f107.body).getD .skip)
theorem HL {p6 a z:Nat}{v3 v4 v5 v35 v36:V}(Y0:a+z≤512): ∀(m q:Nat) (t:List Bool) (h:H) (E:List (Nat×V)) (Q:Ex→List (Nat×V)→H→Prop),q+m=a+z→t.length=512 →
  Sat h (pt p6 (.cells 512 (uq t) false)::S)→Has E [(3,v3),(4,v4),(5,v5),(6,.ptr p6 0),(8,.int .i64 (a:Int)),(9,.int .i64 (z:Int)),(10,.int .i64 (q:Int)),(35,v35),(36,v36)] →
  (markL m q t=none→∀E' h',look E' 2=some (.bool false)→Sat h' S→Q .ret E' h') →
  (∀t' E' h',markL m q t=some t'→Has E' [(3,v3),(4,v4),(5,v5),(6,.ptr p6 0),(35,v35),(36,v36)]→Sat h' (pt p6 (.cells 512 (uq t') false)::S)→Q (.exit 2) E' h') →
  WP ⟨Tryz.prog,told⟩ 68 (.loop WT) E h Q:=by
 intro m
 induction m with
 | zero =>
  intro q t h E Q hq ht s hE J hx
  refine WP.loop (WP.has hE (zK 6 rfl (zb rfl (by exact bk (aA (by omega) (by omega))) ?_)))
  refine zh rfl (ag rfl rfl aP) (by simp; omega) ?_
  exact zk 2 rfl (WP.exit (hx t _ _ rfl ⟨rfl,rfl,rfl,rfl,rfl,rfl,aa⟩ s))
 | succ m ih =>
  intro q t h E Q hq ht s hE J hx
  have I:q<t.length:=by omega
  refine WP.loop (WP.has hE (zK 6 rfl (zb rfl (by exact bk (aA (by omega) (by omega))) ?_)))
  refine zt rfl (ag rfl rfl aP) (by simp; omega) ?_
  refine zk 4 rfl (WP.block (zK 4 rfl (zo rfl (cx (r:=.ptr p6 q) rfl rfl (by rw [Nw,show (decide ((0:Int)≤(q:Int))&&decide ((q:Int)<((512:Nat):Int)))=true by simp; omega,af]; simp)) ?_)))
  cases hm:t.getD q false with
  | true =>
   refine zt rfl (aU rfl (s.ld (k:=0) rfl nD (F9 I))) (hm) (zk 6 rfl (WP.ret ?_))
   refine J ?_ _ _ rfl s.drop
   rw [markL,au hm]
  | false =>
   refine zh rfl (aU rfl (s.ld (k:=0) rfl nD (F9 I))) (hm) (zk 5 rfl (zo rfl (cx (r:=.ptr p6 q) rfl rfl (by rw [Nw,show (decide ((0:Int)≤(q:Int))&&decide ((q:Int)<((512:Nat):Int)))=true by simp; omega,af]; simp)) ?_))
   refine zS rfl (s.iF (k:=0) rfl xp (by simp [uq,ht]) (by omega) rfl rfl) ?_
   intro h s
   dsimp only [setA] at s
   rw [OW] at s
   refine zv (zr rfl (zm rfl (zb rfl (by exact bk (aA (by omega) (by omega))) ?_)))
   refine za rfl (zv ?_)
   have e:markL (m+1) q t=markL m (q+1) (t.set q true):=by rw [markL,ai (by rw [hm]; decide)]
   rw [e] at J hx
   exact ih (q+1) (t.set q true) h _ Q (by omega) (by simp [ht]) s ⟨rfl,rfl,rfl,rfl,rfl,rfl,rfl,rfl,rfl,aa⟩ J hx
theorem HM (hT:W told){p6 p3:Nat}{n low:Nat}{x:V}(hX:cO X (cR x l))(hl:l.length=512)(a_:∀b∈l,b<256)(FN:x.cells=[x])(Y1:storable x=true)(hn:n=jh l)(vm:26+4*n≤low)(Ym:low≤512): ∀(m i:Nat) (t:List Bool) (h:H) (E:List (Nat×V)) (Q:Ex→List (Nat×V)→H→Prop),i+m=n→t.length=512 →
  Sat h (pt p6 (.cells 512 (uq t) false)::pt p3 (.cells 1 [x] false)::X::S)→Has E [(3,.ptr p3 0),(4,.int .i64 (n:Int)),(5,.int .i64 (low:Int)),(6,.ptr p6 0),(35,.int .i64 (n:Int)),(36,.int .i64 (i:Int))] →
  (cellsL l low m i t=false→∀E' h',look E' 2=some (.bool false)→Sat h' (X::S)→Q .ret E' h') →
  (cellsL l low m i t=true→∀E' h',Sat h' (X::S)→Q (.exit 0) E' h') →
  WP ⟨Tryz.prog,told⟩ 68 (.loop WR) E h Q:=by
 intro m
 induction m with
 | zero =>
  intro i t h E Q hi ht s hE J hx
  refine WP.loop (WP.has hE (zg rfl (zh rfl (ag rfl rfl aP) (by simp; omega) ?_)))
  exact zk 3 rfl (WP.exit (hx rfl _ _ s.drop.drop))
 | succ m ih =>
  intro i t h E Q hi ht s hE J hx
  have hf:=zZ (l:=l) (a:=26+4*i) (z:=2) a_
  have hz:=zZ (l:=l) (a:=26+4*i+2) (z:=2) a_
  have ef:cM l i=cP l (26+4*i) 2:=rfl
  have ez:gu l i=cP l (26+4*i+2) 2:=rfl
  refine WP.loop (WP.has hE (zg rfl (zt rfl (ag rfl rfl aP) (by simp; omega) ?_)))
  refine zk 5 rfl (WP.block (zK 7 rfl (zl rfl (s.cX (k:=1) rfl bT bn) (zm rfl (zc rfl (wT (i:=i) hT s (k:=2) rfl hX hl (by omega)) ?_)))))
  rintro r h' ⟨rfl,s⟩
  refine zk 11 rfl ?_
  refine zd rfl (ag rfl rfl aP) ?_ ?_
  ·intro hq
   have hq:cM l i<low:=by simp at hq; omega
   refine zk 12 rfl (WP.ret ?_)
   refine J ?_ _ _ rfl s.drop.drop
   rw [cellsL,au (.inl hq)]
  ·intro hq
   have hq:low≤cM l i:=by simp at hq; omega
   refine zk 3 rfl (zb rfl (by exact bk (aA (by omega) (by omega))) ?_)
   refine zd rfl (ag rfl rfl h_) ?_ ?_
   ·intro I
    have I:512<cM l i+gu l i:=by simp at I; omega
    refine zk 7 rfl (WP.ret ?_)
    refine J ?_ _ _ rfl s.drop.drop
    rw [cellsL,au (.inr I)]
   ·intro I
    have I:cM l i+gu l i≤512:=by simp at I; omega
    refine zk 9 rfl (WP.block ?_)
    have e:cellsL l low (m+1) i t=(match markL (gu l i) (cM l i) t with | none=>false | some t'=>cellsL l low m (i+1) t'):=by rw [cellsL,ai (by omega)]
    rw [e] at J hx
    refine HL I (gu l i) (cM l i) t _ _ _ rfl ht s ⟨rfl,rfl,rfl,rfl,rfl,rfl,rfl,rfl,rfl,aa⟩ (fun hm E' h' h2 s' => ?_) (fun t' E' h' hm k8 s' => ?_)
    ·rw [hm] at J
     exact J rfl _ _ h2 s'.drop
    ·rw [hm] at J hx
     refine WP.has k8 (zr rfl (zb rfl (by exact bk (aA (by omega) (by omega))) ?_))
     refine zm rfl (zv ?_)
     exact ih (i+1) t' h' _ Q (by omega) (by rw [JR _ _ _ _ hm,ht]) s' ⟨rfl,rfl,rfl,rfl,rfl,rfl,aa⟩ J hx
theorem F_ (hT:W told)(s:Sat h (X::S))(hX:cO X (cR v l))(jy:l.length<9223372036854775808):
  Call ⟨Tryz.prog,told⟩ 107 [v] h fun r h'=>r=.bool (bU l)∧Sat h' (X::S):=by
 have hv:=s.aH (k:=0) rfl hX
 refine Call.of_wp (hT.free _ rfl) Tryz.func107 rfl rfl (zK 8 rfl (zo rfl (aM rfl rfl rfl (aW aG (s.aH (k:=0) rfl hX))) ?_))
 refine zd rfl (ag rfl rfl aJ) ?_ ?_
 ·intro hq
  have hq:l.length≠512:=by simp at hq; omega
  exact zk 12 rfl (WP.ret ⟨aa,_,rfl,by rw [bU,dQ hq,fU],s⟩)
 ·intro hq
  have hq:l.length=512:=by simp at hq; omega
  have hb:l[13]?=some (l[13]'(by omega)):=aN _
  generalize FE:(l[13]'(by omega))=b at hb
  have oI:l.getD 13 0=b:=by rw [er,hb]; rfl
  obtain ⟨id,off,e1,e2⟩:=dN hv hb
  refine zk 2 rfl (zo rfl (cx (r:=.ptr id off) rfl rfl e1) (zl rfl e2 ?_))
  refine zd rfl (ag rfl rfl aJ) ?_ ?_
  ·intro I
   have I:b≠0:=by simp at I; omega
   exact zk 7 rfl (WP.ret ⟨aa,_,rfl,by rw [bU,dy hq,oI,dQ I,fU,AQ],s⟩)
  ·intro I
   have I:b=0:=by simp at I; omega
   obtain ⟨pi,po,pc,rfl⟩:=gP hv (by omega)
   refine zk 7 rfl (zo rfl (cW rfl (by rw [wJ]; rfl)) ?_)
   refine az.cG s rfl rfl rfl (cA iI) (fun p3 h s => ?_)
   refine zS rfl (s.hG (j:=0) rfl bn rfl rfl) (fun h s => ?_)
   refine zk 2 rfl ?_
   have s0:=s
   refine WP.drawn [none,none,some (0,2),ak,ak,ak] rfl (by kernel_rfl) (by kernel_rfl) ?_
   refine zL rfl (s.cX (k:=0) rfl bT bn) (aC.any rfl rfl rfl rfl (OpR.call rfl rfl rfl rfl (jH hT s (k:=1) rfl hX hq)) ?_)
   rintro r h' ⟨rfl,s⟩
   have s1:=s
   refine zL rfl (s.cX (k:=0) rfl bT bn) (aC.any rfl rfl rfl rfl (OpR.call rfl rfl rfl rfl (DB hT s (k:=1) rfl hX hq)) ?_)
   rintro r h' ⟨rfl,s⟩
   refine zA rfl (zA rfl ?_)
   refine aC.nil ⟨⟨aa,aa,ff (.inr ⟨rfl,⟨_,aU rfl (s0.cX (k:=0) rfl bT bn)⟩,bS _ rfl⟩) (.inr ⟨rfl,⟨_,aU rfl (s1.cX (k:=0) rfl bT bn)⟩,bS _ rfl⟩),aa,aa,aa,aa⟩,?_⟩
   have oC:=zZ (l:=l) (a:=14) (z:=2) hv.1
   have oW:=zZ (l:=l) (a:=16) (z:=2) hv.1
   have ec:jh l=cP l 14 2:=rfl
   have el:gr l=cP l 16 2:=rfl
   refine zK 4 rfl (zb rfl (by exact jG (aA (by omega) (by omega))) ?_)
   refine zb rfl (by exact bk (aA (by omega) (by omega))) ?_
   refine zm rfl ?_
   refine zd rfl (ag rfl rfl h_) ?_ ?_
   ·intro J
    have J:gr l<26+4*jh l:=by simp at J; omega
    exact zk 10 rfl (WP.ret ⟨aa,_,rfl,by rw [bU,dy hq,oI,dy I,dQ (by omega:¬(26+4*jh l≤gr l∧gr l≤512))]; rfl,s.drop⟩)
   ·intro J
    have J:26+4*jh l≤gr l:=by simp at J; omega
    refine zk 2 rfl ?_
    refine zd rfl (ag rfl rfl h_) ?_ ?_
    ·intro mQ
     have mQ:512<gr l:=by simp at mQ; omega
     exact zk 7 rfl (WP.ret ⟨aa,_,rfl,by rw [bU,dy hq,oI,dy I,dQ (by omega:¬(26+4*jh l≤gr l∧gr l≤512))]; rfl,s.drop⟩)
    ·intro mQ
     have mQ:gr l≤512:=by simp at mQ; omega
     refine zk 6 rfl (az.cG s rfl rfl rfl (cA L3) ?_)
     intro p6 h s
     have oB:(uq (List.replicate 512 false)).length=512:=by rw [uq,ew,eR]
     dsimp only [V.cells] at s
     rw [oB] at s
     refine zk 7 rfl (WP.block ?_)
     have hg:bU l=cellsL l (gr l) (jh l) 0 (List.replicate 512 false):=by
      rw [bU,dy hq,oI,dy I,dy (⟨J,mQ⟩:26+4*jh l≤gr l∧gr l≤512)]; rfl
     refine HM hT hX hq hv.1 rfl rfl rfl J mQ (jh l) 0 (List.replicate 512 false) _ _ _ (by omega) eR s ⟨rfl,rfl,rfl,rfl,rfl,rfl,aa⟩ (fun hc E' h' h2 s' => ?_) (fun hc E' h' s' => ?_)
     ·rw [hg,hc]
      exact ⟨aa,_,Dd h2,rfl,s'⟩
     ·rw [hg,hc]
      exact WP.has (F:=[]) aa (zK 4 rfl (WP.ret ⟨aa,_,rfl,rfl,s'⟩))
end
end Go.Proofs.YtefepnnfphdkpaaGreat.Am
