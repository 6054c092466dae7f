/- ChainFull: a part of its proof; conditions: its statement's. -/
import Derived.Test.YtefepnnfphdkpaaGreatD16
import Derived.Test.YtefepnnfphdkpaaGreatD17
import Derived.Test.YtefepnnfphdkpaaGreatD13
import Derived.Test.YtefepnnfphdkpaaGreatD15
set_option linter.defProp false
namespace Go.Proofs.YtefepnnfphdkpaaGreat.Am
open Go Go.Maps Go.Sort Go.Shelf Go.RowKit
def gm:=@Tryz.underlying145
abbrev ak {α:Type}:Option α:=none
theorem TT (m:Nat): AnyZI.SortsIn Tryz.prog Tryz.sorted61_ren Fence.wide m :=
 ⟨fun jr off cap ss W hH I J=>callsIn_wide.2 (AnyM.slices_Sort_int Tryz.sort119 jr off cap ss W hH I J),
  fun p cap W=>callsIn_wide.2 (AnyM.slices_Sort_int_none Tryz.sort119 p cap W)⟩
theorem BP {g:Nat}(eg:∀args w,(callFunc g args).run Tryz.prog w=.ok (.enter g args) w){Bm:Nat}{D0:DataW Unit}{w:World}(iG:Maps.size D0≤maxLen)(I:Maps.size D0*8≤140737488355328)
 (V6:SeqGives Fence.wide 2 Tryz.prog g #[.pointer (some ⟨Bm,0,none⟩)] encZ (fun J=>J.Perm (intKeys D0)) (Maps.size D0) w):
  Calls Tryz.prog 61 #[.func (.func g) #[] #[.pointer (some ⟨Bm,0,none⟩)]] w fun e w'=>∃(v:Value) (J:List Int),e=.returned v∧J.Perm (intKeys D0) ∧
   w'.ownsRow w.heap.size 3 1 v J.length ((J.mergeSort (fun x y=>decide (x≤y))).map encZ)∧(v=.slice none 0 0↔J=[])∧Below w.heap.size w w' :=
 (callsIn_wide (n:=5)).1 (AnyZI.sorted_in Tryz.sorted61 Fence.wide 5 aa aa aa aa rfl (by omega) (TT _) (enters_of Tryz.func119 (by kernel_rfl) rfl) g _ aa eg _ _ iG I _ V6)
def xE : List Nat:=[120,174,175]
theorem Kk : Cn Tryz.prog 61 3 xE:=by
 intro g hg Bm b nn D0 w hB hm J iG I
 simp only [xE,gL,lV,tg] at hg
 rcases hg with rfl | rfl | rfl
 ·exact BP (enters_of Tryz.func120 (by kernel_rfl) rfl) iG I (AnyZI.keys_gives (ρ:=Tryz.keys62_ren) { Tryz.keys62 with } Fence.wide _ aa rfl (by omega) Bm b nn D0 w hB hm J)
 ·exact BP (enters_of Tryz.func174 (by kernel_rfl) rfl) iG I (AnyZI.keys_gives (ρ:=Tryz.keys143_ren) { Tryz.keys143 with } Fence.wide _ aa rfl (by omega) Bm b nn D0 w hB hm J)
 ·exact BP (enters_of Tryz.func175 (by kernel_rfl) rfl) iG I (AnyZI.keys_gives (ρ:=Tryz.keys147_ren) { Tryz.keys147 with } Fence.wide _ aa rfl (by omega) Bm b nn D0 w hB hm J)
end Go.Proofs.YtefepnnfphdkpaaGreat.Am
namespace Go.Proofs.YtefepnnfphdkpaaGreat.Am
open Go
def DX : List Nat:=[95,176,177,162,161,171,163,116]
structure Std (told:cz): Prop where
 free:∀f,inL DX f=true→told f=none
 more:told 178=some toldMore
theorem wrap_u64 {n:Nat}(h:n<18446744073709551616): IntKind.wrap .u64 (n:Int)=(n:Int):=by
 simp only [IntKind.wrap,IntKind.bits,IntKind.signed,f_,dV,bF]
 omega
theorem wrap_u8 (n:Nat): IntKind.wrap .u8 (n:Int)=((n%256:Nat):Int):=by
 simp only [IntKind.wrap,IntKind.bits,IntKind.signed,f_,dV,bF]
 omega
def digits : Nat→Nat→List Nat
 | 0,n=>[n%128]
 | k+1,n=>if n<128 then [n] else (n%128+128)::digits k (n/128)
set_option maxRecDepth 10000 in
theorem TU {n:Nat}(h:n<256): Nat.lor n 128=n%128+128:=by
 have:∀m:Fin 256,Nat.lor m.1 128=m.1%128+128:=by decide
 exact this ⟨n,h⟩
theorem Is {n:Nat}(h:n<256): intV .or .u8 (n:Int) 128=some (.int .u8 ((n%128+128:Nat):Int)):=by
 have I:((n:Int)%(2^(IntKind.u8).bits:Int)).toNat=n:=by simp only [IntKind.bits]; omega
 have J:((128:Int)%(2^(IntKind.u8).bits:Int)).toNat=128:=by simp [IntKind.bits]
 simp only [intV,bitsV,I,J,TU h,wrap_u8]
 congr 2
 omega
theorem V7 {n:Nat}: shiftV .shr .u64 (n:Int) 7=some (.int .u64 ((n/128:Nat):Int)):=by
 simp only [shiftV,IntKind.bits]
 have:(Int.toNat 7)=7:=rfl
 simp [this,wK]
section
variable {told:cz}
noncomputable def UK : Code:=unloop (unblk (leftC (cI ((Tryz.f176.body).getD .skip))))
theorem sF {h:H}{n:Nat}: convV Tryz.prog h 43 5 (.int .u64 (n:Int))=some (.int .u8 ((n%256:Nat):Int),h):=by
 simp only [convV,dg,Tryz.underlying5,wrap_u8]
theorem vP {k n:Nat}(h:n<128): digits k n=[n]:=by
 cases k with
 | zero=>simp [digits,j5 h]
 | succ k=>simp [digits,h]
theorem As {Q:Ex→List (Nat×V)→H→Prop}{E:List (Nat×V)}{h:H}{n:Nat}(hn:n<128)(I:look E 1=some (.int .u64 (n:Int)))
 (J:Q (.exit 0) ((6,.bool false)::(5,.int .u64 (n:Int))::E) h): WP ⟨Tryz.prog,told⟩ 20 (.loop UK) E h Q:=by
 refine WP.loop (WP.seq (WP.seq (WP.region rfl ?_)))
 refine zo rfl (b8 I) (zo rfl (ag (v:=.int .u64 (n:Int)) (u:=.int .u64 128) (r:=.bool false) rfl rfl (by simp only [binV,ikBeq,af,intV]; congr 2; simp; omega)) ?_)
 exact az.nil (WP.cond (t:=false) rfl (WP.exit J))
theorem FC : ∀(k n:Nat) (l:List Nat) (s:V) (h:H) (E:List (Nat×V)) (Q:Ex→List (Nat×V)→H→Prop),jV h→iN h s l→n<128^(k+1)→k≤9→l.length+k+1≤140737488355328 →
  look E 0=some s→look E 1=some (.int .u64 (n:Int)) →
  (∀E' h' s' l' (m:Nat),look E' 0=some s'→look E' 1=some (.int .u64 (m:Int))→m<128→l'++[m]=l++digits k n→iN h' s' l'→c9 (2*k) (rowIds s) h h'→(∀i∈rowIds s',i∈rowIds s∨h.next≤i)→Q (.exit 0) E' h') →
  WP ⟨Tryz.prog,told⟩ 20 (.loop UK) E h Q:=by
 intro k
 induction k with
 | zero =>
  intro n l s h E Q hw hs hn _ _ h0 J hq
  have I:n<128:=by simpa using hn
  exact As I J (hq _ h s l n h0 J I (by rw [vP I]) hs (c9.refl hw _) (fun i hi=>.inl hi))
 | succ k ih =>
  intro n l s h E Q hw hs hn hk hl h0 J hq
  by_cases I:n<128
  ·exact As I J (hq _ h s l n h0 J I (by rw [vP I]) hs ((c9.refl hw _).mono (fh _) (fun _ h=>h)) (fun i hi=>.inl hi))
  ·have hd:n/128<128^(k+1):=by
    rw [Nat.div_lt_iff_lt_mul (by omega)]
    rw [s_] at hn
    exact hn
   refine WP.loop (WP.seq (WP.seq (WP.region rfl ?_)))
   refine zo rfl (b8 J) (zo rfl (ag (v:=.int .u64 (n:Int)) (u:=.int .u64 128) (r:=.bool true) rfl rfl (by simp only [binV,ikBeq,af,intV]; congr 2; simp; omega)) ?_)
   refine az.nil (WP.cond (t:=true) rfl (WP.skip ?_))
   refine WP.block (WP.seq (WP.region rfl ?_))
   refine zo rfl (b8 h0) (zo rfl (b8 J) (zo rfl (cN (v:=.int .u64 (n:Int)) rfl sF) (zo rfl (ag (v:=.int .u8 ((n%256:Nat):Int)) (u:=.int .u8 128) (r:=.int .u8 ((n%256%128+128:Nat):Int)) rfl rfl (by simp only [binV,ikBeq,af]; exact Is (by omega))) ?_)))
   refine az.H8 (b:=n%256%128+128) rfl hw rfl rfl rfl rfl rfl rfl (by omega) (fun v h₁ b1 k1 f1 => ?_)
   have gi:iN h₁ s l:=hs.kU hw k1 (fun i _=>lV)
   refine az.app (s:=s) (x:=v) rfl k1.wf rfl rfl rfl rfl rfl rfl rfl gi b1.view (by simp; omega) (fun v2 Pb b2 k2 f2 => ?_)
   have Kl:c9 2 (rowIds s) h Pb:=(k1.mono (aD _) (fun i hi=>by simp at hi)).trans k2 (fun i hi=>.inl hi)
   refine za rfl ?_
   refine az.nil (WP.region rfl ?_)
   refine zo rfl (b8 J) (zo rfl (ag (v:=.int .u64 (n:Int)) (u:=.int .u64 7) (r:=.int .u64 ((n/128:Nat):Int)) rfl rfl (by simp only [binV]; exact V7)) ?_)
   refine zk 2 rfl ?_
   refine ih (n/128) (l++[n%256%128+128]) v2 Pb _ Q Kl.wf b2 hd (by omega) (by simp; omega) rfl rfl (fun E' h' s' l' m q1 q2 q3 q4 q5 q6 q7 => ?_)
   refine hq E' h' s' l' m q1 q2 q3 ?_ q5 ?_ (fun i hi => ?_)
   ·rw [q4]
    simp only [digits,ai I,ep,List.singleton_append]
    congr 2
    omega
   ·exact (Kl.trans q6 (fun i hi=>(f2 i hi).imp_right (fun h=>cg k1.le h))).mono (by omega) (fun i hi=>hi)
   ·rcases q7 i hi with h3 | h3
    ·exact (f2 i h3).imp_right (fun h=>cg k1.le h)
    ·exact .inr (cg Kl.le h3)
theorem Co (hT:Std told){h:H}{s:V}{l:List Nat}{n k:Nat}(hw:jV h)(hs:iN h s l)(hn:n<128^(k+1))(hk:k≤9)(hl:l.length+k+1≤140737488355328):
  Call ⟨Tryz.prog,told⟩ 176 [s,.int .u64 (n:Int)] h fun v h'=>iN h' v (l++digits k n)∧c9 (2*k+2) (rowIds s) h h'∧∀i∈rowIds v,i∈rowIds s∨h.next≤i:=by
 refine Call.of_wp (hT.free _ rfl) Tryz.func176 rfl rfl ?_
 refine WP.seq (WP.region rfl (az.op rfl rfl rfl (fD rfl) (az.nil ?_)))
 refine WP.seq (WP.block ?_)
 refine FC k n l s h _ _ hw hs hn hk hl rfl rfl (fun E' h' s' l' m q1 q2 q3 q4 q5 J q7 => ?_)
 have zJ:l'.length=l.length+(digits k n).length-1:=by
  have:=fo List.length q4
  simp at this
  omega
 have GL:∀(k n:Nat),(digits k n).length≤k+1:=by
  intro k
  induction k with
  | zero=>intro n; simp [digits]
  | succ k ih =>
   intro n
   unfold digits
   split
   ·simp
   ·simp only [aN]; have:=ih (n/128); omega
 have Zq:=GL k n
 refine WP.seq (WP.region rfl ?_)
 refine zo rfl (b8 q1) (zo rfl (b8 q2) (zo rfl (cN (v:=.int .u64 (m:Int)) rfl sF) ?_))
 refine az.H8 (b:=m%256) rfl J.wf rfl rfl rfl rfl rfl rfl (by omega) (fun v h₁ b1 k1 f1 => ?_)
 have gi:iN h₁ s' l':=q5.kU J.wf k1 (fun i _=>lV)
 refine az.app (s:=s') (x:=v) rfl k1.wf rfl rfl rfl rfl rfl rfl rfl gi b1.view (by simp; omega) (fun v2 Pb b2 k2 f2 => ?_)
 refine za rfl ?_
 refine az.nil (WP.ret ?_)
 refine ⟨aa,v2,rfl,?_,?_,fun i hi => ?_⟩
 ·rw [j5 (by omega),q4] at b2; exact b2
 ·refine ((J.trans k1 (fun i hi=>by simp at hi)).trans k2 (fun i hi => ?_)).mono (by omega) (fun i hi=>hi)
  rcases q7 i hi with I | I
  ·exact .inl I
  ·exact .inr I
 ·rcases f2 i hi with I | I
  ·exact q7 i I
  ·exact .inr (by have:=J.le; have:=k1.le; omega)
theorem DY {h:H}{n:Nat}(I:n<18446744073709551616): convV Tryz.prog h 3 43 (.int .i64 (n:Int))=some (.int .u64 (n:Int),h):=by
 simp only [convV,bR,dg,wrap_u64 I]
theorem fq : ∀(k n:Nat),(digits k n).length≤k+1:=by
 intro k
 induction k with
 | zero=>intro n; simp [digits]
 | succ k I =>
  intro n
  unfold digits
  split
  ·simp
  ·simp only [aN]; have:=I (n/128); omega
theorem PC (J:Std told){h:H}{s x:V}{l m:List Nat}{k:Nat}(hw:jV h)(hs:iN h s l)(hx:View h x m)(hd:∀i∈rowIds x,i∉rowIds s)(hn:m.length<128^(k+1))(hk:k≤9)(hl:l.length+k+1+m.length≤140737488355328):
  Call ⟨Tryz.prog,told⟩ 177 [s,x] h fun v h'=>iN h' v (l++digits k m.length++m)∧c9 (2*k+3) (rowIds s) h h'∧∀i∈rowIds v,i∈rowIds s∨h.next≤i:=by
 refine Call.of_wp (J.free _ rfl) Tryz.func177 rfl rfl ?_
 refine WP.seq (WP.region rfl (az.op rfl rfl rfl (fD rfl) (az.nil ?_)))
 refine WP.seq (WP.region rfl ?_)
 refine zk 2 rfl (zo rfl (aO (v:=x) rfl rfl rfl hx.len) (zo rfl (cN (v:=.int .i64 (m.length:Int)) rfl (DY (by omega))) ?_))
 refine az.call rfl rfl rfl rfl rfl rfl rfl (Co J (k:=k) hw hs hn hk (by omega)) (fun v h₁ ⟨b1,k1,f1⟩ => ?_)
 refine zm rfl ?_
 have GL:=fq k m.length
 refine az.app (s:=v) (x:=x) rfl k1.wf rfl rfl rfl rfl rfl rfl rfl b1 (hx.kU hw k1 hd) (by simp; omega) (fun v2 Pb b2 k2 f2 => ?_)
 refine az.op rfl rfl rfl (fD rfl) (az.nil (WP.ret ?_))
 refine ⟨aa,v2,rfl,b2,(k1.trans k2 f1).mono (by omega) (fun i hi=>hi),fun i hi => ?_⟩
 rcases f2 i hi with I | I
 ·exact f1 i I
 ·exact .inr (cg k1.le I)
def le : Nat→Nat→List Nat
 | 0,_=>[]
 | k+1,n=>(n%256)::le k (n/256)
theorem dK : ∀(k n:Nat),(le k n).length=k:=by
 intro k
 induction k with
 | zero=>intro n; rfl
 | succ k I=>intro n; simp [le,I]
theorem It : ∀(k n:Nat),∀b∈le k n,b<256:=by
 intro k
 induction k with
 | zero=>intro n b I; cases I
 | succ k J =>
  intro n b I
  rcases List.mem_cons.1 I with rfl | I
  ·omega
  ·exact J _ b I
noncomputable def XL : Code:=unloop (unblk (cI (leftC (cI ((Tryz.f95.body).getD .skip)))))
theorem V8 {n i:Nat}(hi:i≤8): shiftV .shr .u64 (n:Int) ((8*i:Nat):Int)=some (.int .u64 ((n/256^i:Nat):Int)):=by
 simp only [shiftV,IntKind.bits,bZ]
 rw [show min (8*i) 64=8*i by omega,show decide (((8*i:Nat):Int)<0)=false by simp; omega,ay]
 congr 2
 rw [wK _ (Int.pow_nonneg (by omega))]
 rw [show (256:Nat)^i=2^(8*i) by rw [Nat.pow_mul]]
 push_cast
 rfl
theorem MA {n size:Nat}(eA:size≤8): ∀(j i:Nat) (l:List Nat) (s:V) (h:H) (E:List (Nat×V)) (Q:Ex→List (Nat×V)→H→Prop),jV h→iN h s l→i+j=size→l.length+j≤140737488355328 →
  look E 0=some s→look E 2=some (.int .u64 (n:Int))→look E 8=some (.int .i64 (size:Int))→look E 9=some (.int .i64 (i:Int)) →
  (∀E' h' s',look E' 0=some s'→iN h' s' (l++le j (n/256^i))→c9 (2*j) (rowIds s) h h'→(∀i∈rowIds s',i∈rowIds s∨h.next≤i)→Q (.exit 0) E' h') →
  WP ⟨Tryz.prog,told⟩ 22 (.loop XL) E h Q:=by
 intro j
 induction j with
 | zero =>
  intro i l s h E Q hw hs hi _ h0 h2 h8 h9 hq
  refine WP.loop (WP.seq (WP.region rfl ?_))
  refine zo rfl (ag (v:=.int .i64 (i:Int)) (u:=.int .i64 (size:Int)) (r:=.bool false) h9 h8 (by simp only [binV,ikBeq,af,intV]; congr 2; simp; omega)) ?_
  refine az.nil (WP.seq (WP.cond (t:=false) rfl (WP.exit ?_)))
  exact hq _ h s h0 (by simpa [le] using hs) (c9.refl hw _) (fun i hi=>.inl hi)
 | succ j ih =>
  intro i l s h E Q hw hs hi hl h0 h2 h8 h9 hq
  refine WP.loop (WP.seq (WP.region rfl ?_))
  refine zo rfl (ag (v:=.int .i64 (i:Int)) (u:=.int .i64 (size:Int)) (r:=.bool true) h9 h8 (by simp only [binV,ikBeq,af,intV]; congr 2; simp; omega)) ?_
  refine az.nil (WP.seq (WP.cond (t:=true) rfl (WP.skip ?_)))
  refine WP.seq (WP.block (WP.seq (WP.region rfl ?_)))
  refine zo rfl (b8 h9) ?_
  refine az.op rfl rfl rfl (fD rfl) (az.nil (WP.region rfl ?_))
  refine zo rfl (b8 h0) (zo rfl (b8 h2) (zm rfl ?_))
  refine az.op rfl rfl rfl (ag (v:=.int .i64 8) (u:=.int .i64 (i:Int)) (r:=.int .i64 ((8*i:Nat):Int)) rfl rfl (by
   simp only [binV,ikBeq,af,intV]
   rw [show (8:Int)*(i:Int)=((8*i:Nat):Int) by push_cast; rfl,wrap_i64 (by omega)])) ?_
  refine zo rfl (ag (v:=.int .u64 (n:Int)) (u:=.int .i64 ((8*i:Nat):Int)) (r:=.int .u64 ((n/256^i:Nat):Int)) rfl rfl (by simp only [binV]; exact V8 (by omega))) ?_
  refine zo rfl (cN (v:=.int .u64 ((n/256^i:Nat):Int)) rfl sF) ?_
  refine az.H8 (b:=n/256^i%256) rfl hw rfl rfl rfl rfl rfl rfl (by omega) (fun v h₁ b1 k1 f1 => ?_)
  have gi:iN h₁ s l:=hs.kU hw k1 (fun i _=>lV)
  refine az.app (s:=s) (x:=v) rfl k1.wf rfl rfl rfl rfl rfl rfl rfl gi b1.view (by simp; omega) (fun v2 I b2 k2 f2 => ?_)
  have J:c9 2 (rowIds s) h I:=(k1.mono (aD _) (fun i hi=>by simp at hi)).trans k2 (fun i hi=>.inl hi)
  refine az.op rfl rfl rfl (fD rfl) (az.nil (WP.region rfl ?_))
  refine zo rfl (ag (v:=.int .i64 (i:Int)) (u:=.int .i64 1) h9 rfl (by simp only [binV,ikBeq,af]; exact vA (by omega))) ?_
  refine az.op rfl rfl rfl (b8 rfl) (az.nil ?_)
  refine ih (i+1) (l++[n/256^i%256]) v2 I _ Q J.wf b2 (by omega) (by simp; omega) rfl h2 h8 rfl (fun E' h' s' q1 q2 q3 q4 => ?_)
  refine hq E' h' s' q1 ?_ ?_ (fun i hi => ?_)
  ·have e1:n/256^(i+1)=n/256^i/256:=by rw [s_,Nat.div_div_eq_div_mul]
   rw [e1] at q2
   simpa [le] using q2
  ·exact (J.trans q3 (fun i hi=>(f2 i hi).imp_right (fun h=>cg k1.le h))).mono (by omega) (fun i hi=>hi)
  ·rcases q4 i hi with h3 | h3
   ·exact (f2 i h3).imp_right (fun h=>cg k1.le h)
   ·exact .inr (cg J.le h3)
theorem Km (J:Std told){h:H}{s:V}{l:List Nat}{n size:Nat}(hw:jV h)(hs:iN h s l)(I:size≤8)(hl:l.length+size≤140737488355328):
  Call ⟨Tryz.prog,told⟩ 95 [s,.int .i64 (size:Int),.int .u64 (n:Int)] h fun v h'=>iN h' v (l++le size n)∧c9 (2*size) (rowIds s) h h'∧∀i∈rowIds v,i∈rowIds s∨h.next≤i:=by
 refine Call.of_wp (J.free _ rfl) Tryz.func95 rfl rfl ?_
 refine WP.seq (WP.region rfl (az.op rfl rfl rfl (fD rfl) (az.nil ?_)))
 refine WP.seq (WP.seq (WP.region rfl ?_))
 refine zm rfl ?_
 refine az.op rfl rfl rfl (b8 rfl) (az.nil (WP.block ?_))
 refine MA I size 0 l s h _ _ hw hs (by omega) hl rfl rfl rfl rfl (fun E' h' s' q1 q2 q3 q4 => ?_)
 refine WP.seq (WP.region rfl ?_)
 refine zo rfl (b8 q1) ?_
 refine az.op rfl rfl rfl (fD rfl) (az.nil (WP.ret ?_))
 exact ⟨aa,s',rfl,by simpa using q2,q3,q4⟩
theorem Iu : ∀(l:List Nat),(∀b∈l,b<256)→bytesIn (ofBytes l)=some l:=by
 intro l
 induction l with
 | nil=>intro _; rfl
 | cons b l I =>
  intro h
  have hb:=h b ct
  have:=I (fun c J=>h c (cr _ J))
  show bytesIn (.int .u8 (b:Int)::ofBytes l)=_
  simp only [bytesIn,this]
  rw [show (decide ((0:Int)≤(b:Int))&&decide ((b:Int)<256))=true by simp; omega]
  rfl
def yE (s:Nat)(l:List Nat): Nat:=Nat.xor (crcL (Nat.xor s 4294967295) l) 4294967295
theorem BQ {s:Nat}{l:List Nat}(hs:s<4294967296)(I:∀b∈l,b<256): yE s l<4294967296:=my (BB l _ (my hs (by omega)) I) (by omega)
theorem GM (hT:Std told){h:H}{x:V}{l:List Nat}{s:Nat}(J:View h x l)(hl:l.length≤4611686018427387904)(hs:s<4294967296):
  iM ⟨Tryz.prog,told⟩ 178 [.int .u32 (s:Int),x] h (.int .u32 (yE s l:Nat)) h:=by
 refine iM.told hT.more zZ rfl ?_
 have I:=J
 obtain ⟨hb,I⟩:=I
 rcases I with ⟨rfl | ⟨ea,rfl⟩,rfl⟩ | ⟨id,off,cap,n,cs,st,rfl,hg,h1,h2,h3,h4⟩
 ·simp only [toldMore]
  rw [show (decide ((0:Int)≤(s:Int))&&decide ((s:Int)<4294967296))=true by simp; omega]
  rfl
 ·simp only [toldMore]
  rw [show (decide ((0:Int)≤(s:Int))&&decide ((s:Int)<4294967296))=true by simp; omega]
  rfl
 ·simp only [toldMore]
  rw [show (decide ((0:Int)≤(s:Int))&&decide ((s:Int)<4294967296)&&Nat.ble l.length 4611686018427387904)=true by simp [aE]; omega,af,(View.rdN J).2]
  simp only [Iu l hb]
  rfl
theorem TV (I:Std told){h:H}{x:V}{l:List Nat}(J:View h x l)(hl:l.length≤4611686018427387904):
  Call ⟨Tryz.prog,told⟩ 171 [x] h fun v h'=>v=.int .u32 (yE 0 l:Nat)∧h'=h:=by
 refine Call.of_wp (I.free _ rfl) Tryz.func171 rfl rfl ?_
 refine WP.seq (WP.region rfl (az.op rfl rfl rfl (fD rfl) (az.nil ?_)))
 refine WP.seq (WP.region rfl ?_)
 refine zm rfl ?_
 refine az.call (uk:=fun v h'=>v=.int .u32 (yE 0 l:Nat)∧h'=h) rfl rfl rfl rfl rfl rfl rfl ⟨_,_,GM (s:=0) I J hl (by omega),rfl,rfl⟩ (fun v h₁ ⟨e1,e2⟩ => ?_)
 subst e1; subst e2
 exact az.op rfl rfl rfl (fD rfl) (az.nil (WP.ret ⟨aa,_,rfl,rfl,rfl⟩))
def Au (aP:Nat)(l:List Nat): Nat:=yE (yE 0 (le 8 aP)) l
theorem MB {aP:Nat}{l:List Nat}(I:∀b∈l,b<256): Au aP l<4294967296:=BQ (BQ (by omega) (It 8 aP)) I
theorem Kn (J:Std told){h:H}{x:V}{l:List Nat}{aP:Nat}(hw:jV h)(hx:View h x l)(hl:l.length≤4611686018427387904):
  Call ⟨Tryz.prog,told⟩ 163 [.int .u64 (aP:Int),x] h fun v h'=>v=.int .u32 (Au aP l:Nat)∧c9 16 [] h h':=by
 refine Call.of_wp (J.free _ rfl) Tryz.func163 rfl rfl ?_
 refine WP.seq (WP.region rfl (az.op rfl rfl rfl (fD rfl) (az.nil ?_)))
 refine WP.seq (WP.region rfl ?_)
 refine zm rfl ?_
 refine az.call rfl rfl rfl rfl rfl rfl rfl (Km (size:=8) (s:=.bn) (l:=[]) (n:=aP) J hw ⟨by simp,.inl ⟨rfl,rfl⟩⟩ (by omega) (by simp)) (fun v h₁ ⟨b1,k1,f1⟩ => ?_)
 rw [c_] at b1
 refine az.call rfl rfl rfl rfl rfl rfl rfl (TV J b1.view (by rw [dK]; omega)) (fun v2 I ⟨e1,e2⟩ => ?_)
 subst e1; subst e2
 refine zm rfl ?_
 refine az.call (uk:=fun v h'=>v=.int .u32 (Au aP l:Nat)∧h'=I) rfl rfl rfl rfl rfl rfl rfl
  ⟨_,_,GM (s:=yE 0 (le 8 aP)) J (hx.kU hw k1 (fun i _ hi=>by simp [rowIds] at hi)) hl (BQ (by omega) (It 8 aP)),rfl,rfl⟩ (fun v3 TW ⟨e3,e4⟩ => ?_)
 subst e3; subst e4
 exact az.op rfl rfl rfl (fD rfl) (az.nil (WP.ret ⟨aa,_,rfl,rfl,k1.mono (aD _) (fun i hi=>by simp [rowIds] at hi)⟩))
end
def Ko : List Nat:=[31,50,178,61,173,139,145]
structure W (told:cz): Prop where
 free:∀f,inL Ko f=false→told f=none
 more:told 178=some toldMore
 sorted:told 61=some (toldSorted xE)
theorem W.Oq {told:cz}(I:W told): Std told:=by
 refine ⟨fun f J=>I.free f ?_,I.more⟩
 have:∀f∈DX,inL Ko f=false:=by decide
 exact this f (by rw [Jx] at J; simpa using J)
def tP (v:V): Option (List Nat)→aq
 | none=>.pu (v=.bn)
 | some b=>.an (.pu (v≠.bn)) (.cy v b)
theorem aQ.tP (v:V)(o:Option (List Nat)): aQ (Am.tP v o):=by
 cases o with
 | none=>exact aQ.pu _
 | some b=>exact aQ.an (aQ.pu _) (aQ.cy _ _)
def each {α:Type}(f:V→α→aq): List V→List α→aq
 | [],[]=>.pu True
 | v::l,x::m=>.an (f v x) (each f l m)
 | _,_=>.pu False
theorem aQ.each {α:Type}{f:V→α→aq}(I:∀v x,aQ (f v x)): ∀(l:List V) (m:List α),aQ (Am.each f l m):=by
 intro l
 induction l with
 | nil=>intro m; cases m <;> exact aQ.pu _
 | cons v l J=>intro m; cases m with
  | nil=>exact aQ.pu _
  | cons x m=>exact aQ.an (I _ _) (J m)
section
variable {α:Type} {f:V→α→aq} {a b:PM}
theorem DZ : ∀ {l:List V} {m:List α},(each f l m).p a b→l.length=m.length:=by
 intro l
 induction l with
 | nil=>intro m h; cases m with
  | nil=>rfl
  | cons x m=>exact h.elim
 | cons v l I=>intro m h; cases m with
  | nil=>exact h.elim
  | cons x m=>simp only [aN,I h.2]
theorem D1 : ∀ {l:List V} {m:List α} {i:Nat} {v:V} {x:α},(each f l m).p a b→l[i]?=some v→m[i]?=some x→(f v x).p a b:=by
 intro l
 induction l with
 | nil=>intro m i v x h hv; simp at hv
 | cons u l J=>intro m i v x h hv I; cases m with
  | nil=>exact h.elim
  | cons y m =>
   cases i with
   | zero=>simp at hv I; subst hv; subst I; exact h.1
   | succ i=>simp at hv I; exact J h.2 hv I
end
abbrev Wr := Nat×List Nat
structure Dk where
 room:Nat
 bh:List (Option (List Nat))
 waiting:List Wr
 now:List (Int×List Nat)
 log:List Nat
 eu:Nat
 mark:List Nat
 bS:Int
 dead:Bool
 BR:Option Wr
 tail:List Nat
def Kp (room:Nat)(pg wt I lg:V)(J:Nat)(mk:V)(fu ops:Int)(dead:Bool)(tn tl:V): List V :=
 [.int .i64 (room:Int),pg,wt,I,lg,.int .i64 (J:Int),mk,.int .i64 fu,.int .i64 ops,.bool dead,tn,tl]
def Av : List V→List Wr→aq
 | [],[]=>.pu True
 | p::v::l,x::m=>.an (.an (.pu (p=.int .i64 (x.1:Int)∧v≠.bn)) (.cy v x.2)) (Av l m)
 | _,_=>.pu False
theorem aQ.wr : ∀(m:List Wr) (l:List V),aQ (Av l m):=by
 intro m
 induction m with
 | nil=>intro l; cases l with
  | nil=>exact aQ.pu _
  | cons v l=>cases l <;> exact aQ.pu _
 | cons x m I=>intro l; cases l with
  | nil=>exact aQ.pu _
  | cons v l=>cases l with
   | nil=>exact aQ.pu _
   | cons u l=>exact aQ.an (aQ.an (aQ.pu _) (aQ.cy _ _)) (I l)
theorem PD {a b:PM}: ∀ {m:List Wr} {l:List V} {x:Wr} {v:V},(Av l m).p a b→v≠.bn→(aq.cy v x.2).p a b→(Av (l++[.int .i64 (x.1:Int),v]) (m++[x])).p a b:=by
 intro m
 induction m with
 | nil=>intro l x v h I hv; cases l with
  | nil=>exact ⟨⟨⟨rfl,I⟩,hv⟩,aa⟩
  | cons u l=>cases l <;> exact h.elim
 | cons y m J=>intro l x v h I hv; cases l with
  | nil=>exact h.elim
  | cons u l=>cases l with
   | nil=>exact h.elim
   | cons w l=>exact ⟨h.1,J h.2 I hv⟩
theorem PE {a b:PM}: ∀ {m:List Wr} {l:List V},(Av l m).p a b→l.length=m.length*2:=by
 intro m
 induction m with
 | nil=>intro l h; cases l with
  | nil=>rfl
  | cons u l=>cases l <;> exact h.elim
 | cons y m I=>intro l h; cases l with
  | nil=>exact h.elim
  | cons u l=>cases l with
   | nil=>exact h.elim
   | cons w l=>have:=I h.2; simp only [aN]; omega
def mD (v:V)(m:List (Option (List Nat))): aq:=xs fun id:Nat=>xs fun cs:List V=>star [.pu (v=.sl id 0 m.length (.exact m.length)),pt id (.cells m.length cs false),each tP cs m]
def xF (v:V)(m:List Wr): aq:=xs fun cs:List V=>star [.arr 2 v cs,Av cs m]
def Aw (v:V): Option Wr→aq
 | none=>.pu (v=.cO)
 | some x=>xs fun id:Nat=>xs fun u:V=>star [.pu (v=.ptr id 0),pt id (.cells 2 [.int .i64 (x.1:Int),u] false),.cy u x.2]
def bz (p:Nat)(δ:Dk): aq:=xs fun pg:V=>xs fun wt:V=>xs fun I:V=>xs fun lg:V=>xs fun mk:V=>xs fun J:V=>xs fun tl:V=>xs fun ops:Int =>
 star [pt p (.cells 12 (Kp δ.room pg wt I lg δ.eu mk δ.bS ops δ.dead J tl) false),mD pg δ.bh,xF wt δ.waiting,jl (fun v b=>.cy v b) I δ.now,aU lg δ.log,Ae mk δ.mark,Aw J δ.BR,Ae tl δ.tail]
section
variable {h:H} {S:List aq} {p:Nat} {δ:Dk}
theorem cL : Sat h (bz p δ::S)↔∃pg wt I lg mk J tl ops,Sat h (pt p (.cells 12 (Kp δ.room pg wt I lg δ.eu mk δ.bS ops δ.dead J tl) false)::mD pg δ.bh::xF wt δ.waiting::jl (fun v b=>.cy v b) I δ.now::aU lg δ.log::Ae mk δ.mark::Aw J δ.BR::Ae tl δ.tail::S):=by
 simp only [bz,kj,cR,gX,c_]
theorem nJ {v:V}{m:List (Option (List Nat))}: Sat h (mD v m::S)↔∃id cs,v=.sl id 0 m.length (.exact m.length)∧Sat h (pt id (.cells m.length cs false)::each tP cs m::S):=by
 simp only [mD,kj,cR,gX,c_,ri]
theorem vQ {v:V}{m:List Wr}: Sat h (xF v m::S)↔∃cs,Sat h (.arr 2 v cs::Av cs m::S):=by
 simp only [xF,kj,cR,gX,c_]
end
section
variable {told:cz} {h:H} {S:List aq} {X:aq} {v:V} {l:List Nat}
def vR (s:Nat)(l:List Nat): Nat:=Nat.xor (crcL (Nat.xor s 4294967295) l) 4294967295
theorem yF {s:Nat}{l:List Nat}(hs:s<4294967296)(I:∀b∈l,b<256): vR s l<4294967296:=my (BB _ _ (my hs (by omega)) I) (by omega)
theorem PF (hT:W told){k s:Nat}(sa:Sat h S)(hk:getA S k=some X)(hX:cT X (cY v l))(hs:s<4294967296)(hl:l.length≤4611686018427387904):
  Call ⟨Tryz.prog,told⟩ 178 [.int .u32 (s:Int),v] h fun r h'=>r=.int .u32 (vR s l:Nat)∧h'=h:=by
 have hv:=sa.aG hk hX
 refine ⟨_,_,iM.told hT.more zZ rfl ?_,rfl,rfl⟩
 have I:q_ (s:Int) l=.int .u32 (vR s l:Nat):=by simp only [q_,vR,bZ]
 have J:=hv
 rcases J.2 with ⟨rfl | ⟨ea,rfl⟩,rfl⟩ | ⟨id,off,cap,n,cs,st,rfl,_⟩
 ·simp only [toldMore]
  rw [show (decide ((0:Int)≤(s:Int))&&decide ((s:Int)<4294967296))=true by simp; omega,af,I]
 ·simp only [toldMore]
  rw [show (decide ((0:Int)≤(s:Int))&&decide ((s:Int)<4294967296))=true by simp; omega,af,I]
 ·simp only [toldMore]
  rw [show (decide ((0:Int)≤(s:Int))&&decide ((s:Int)<4294967296)&&Nat.ble l.length 4611686018427387904)=true by rw [aE.2 hl]; simp; omega,af,hv.rdN.2]
  simp only
  have:∀l:List Nat,(∀b∈l,b<256)→bytesIn (ofBytes l)=some l:=by
   intro l
   induction l with
   | nil=>intro _; rfl
   | cons b l ih =>
    intro hb
    have h1:=ih (fun x hx=>hb x (cr _ hx))
    simp only [ofBytes,cu] at h1 ⊢
    simp only [bytesIn,h1]
    have vg:=hb b ct
    rw [show (decide (0≤(b:Int))&&decide ((b:Int)<256))=true by simp; omega,af]
    rfl
  rw [this l hv.1]
  simp only [I]
end
section
variable {told:cz} {h:H} {S:List aq} {X:aq} {p:Nat} {δ:Dk}
theorem l8 (J:W told){x:V}{l:List Nat}(s:Sat h (X::S))(I:cT X (cY x l))(hl:l.length<1073741824):
  Call ⟨Tryz.prog,told⟩ 90 [x] h fun v h'=>Sat h' (aU v l::X::S):=by
 refine Call.of_wp (J.free _ rfl) Tryz.func90 rfl rfl (zK 7 rfl (zo rfl (aO rfl rfl rfl (aW aJ (s.aG (k:=0) rfl I))) (az.any rfl rfl rfl (OpR.rq rfl s rfl rfl rfl rfl hl) ?_)))
 intro v h s
 refine zm rfl (az.any rfl rfl rfl (OpR.pI rfl s I rfl rfl rfl rfl (by simp; omega)) ?_)
 intro v h s
 exact zk 2 rfl (WP.ret ⟨aa,_,rfl,s⟩)
theorem ux (J:W told){x:V}{l:List Nat}(s:Sat h (X::S))(I:cT X (cY x l))(hl:l.length<1073741824):
  Call ⟨Tryz.prog,told⟩ 121 [x] h fun v h'=>Sat h' (aU v l::X::S):=by
 refine Call.of_wp (J.free _ rfl) Tryz.func121 rfl rfl (zK 7 rfl (zo rfl (aO rfl rfl rfl (aW aJ (s.aG (k:=0) rfl I))) (az.any rfl rfl rfl (OpR.rq rfl s rfl rfl rfl rfl hl) ?_)))
 intro v h s
 refine zm rfl (az.any rfl rfl rfl (OpR.pI rfl s I rfl rfl rfl rfl (by simp; omega)) ?_)
 intro v h s
 exact zk 2 rfl (WP.ret ⟨aa,_,rfl,s⟩)
theorem qd (J:W told){x:V}{l:List Nat}(s:Sat h (X::S))(I:cT X (cY x l))(hl:l.length<1073741824):
  Call ⟨Tryz.prog,told⟩ 85 [x] h fun v h'=>Sat h' (aU v l::X::S):=by
 refine Call.of_wp (J.free _ rfl) Tryz.func85 rfl rfl (zK 7 rfl (zo rfl (aO rfl rfl rfl (aW aJ (s.aG (k:=0) rfl I))) (az.any rfl rfl rfl (OpR.rq rfl s rfl rfl rfl rfl hl) ?_)))
 intro v h s
 refine zm rfl (az.any rfl rfl rfl (OpR.pI rfl s I rfl rfl rfl rfl (by simp; omega)) ?_)
 intro v h s
 exact zk 2 rfl (WP.ret ⟨aa,_,rfl,s⟩)
theorem yG (I:W told)(s:Sat h (bz p δ::S)): Call ⟨Tryz.prog,told⟩ 72 [.ptr p 0] h fun v h'=>v=.int .i64 (δ.bh.length:Int)∧h'=h:=by
 obtain ⟨pg,wt,J,lg,mk,tn,tl,ops,s⟩:=cL.1 s
 obtain ⟨id,cs,rfl,s'⟩:=nJ.1 (s.ae [1])
 exact Call.of_wp (I.free _ rfl) Tryz.func72 rfl rfl (zK 8 rfl (zf rfl (BH _ _) (zl rfl (s.ld (k:=0) rfl Ig rfl) (zo rfl (aO rfl rfl rfl (oD rfl gm)) (zk 2 rfl (WP.ret ⟨aa,_,rfl,rfl,rfl⟩))))))
theorem Kq (hT:W told){n:Int}(s:Sat h (bz p δ::S)): Call ⟨Tryz.prog,told⟩ 170 [.ptr p 0,.int .i64 n] h fun v h'=>h'=h∧((0≤n∧n<δ.bh.length∧v=.bool true)∨(¬(0≤n∧n<δ.bh.length)∧v=.bool false)):=by
 obtain ⟨pg,wt,nw,lg,mk,tn,tl,ops,s⟩:=cL.1 s
 obtain ⟨id,cs,rfl,s'⟩:=nJ.1 (s.ae [1])
 refine Call.of_wp (hT.free _ rfl) Tryz.func170 rfl rfl (zK 7 rfl ?_)
 refine zd rfl (ag rfl rfl sB) ?_ ?_
 ·intro J
  have J:0≤n:=by simpa using J
  refine zk 4 rfl (zf rfl (BH _ _) (zl rfl (s.ld (k:=0) rfl Ig rfl) (zo rfl (aO rfl rfl rfl (oD rfl gm)) ?_)))
  refine zd rfl (ag rfl rfl aR) ?_ ?_
  ·intro I
   have I:n<δ.bh.length:=by simpa using I
   exact zk 3 rfl (WP.ret ⟨aa,_,rfl,rfl,.inl ⟨J,I,rfl⟩⟩)
  ·intro I
   have I:¬ n<δ.bh.length:=by simpa using I
   exact zk 3 rfl (WP.ret ⟨aa,_,rfl,rfl,.inr ⟨fun h=>I h.2,rfl⟩⟩)
 ·intro J
  have J:¬ 0≤n:=by simpa using J
  exact zk 11 rfl (WP.ret ⟨aa,_,rfl,rfl,.inr ⟨fun h=>J h.1,rfl⟩⟩)
def Dk.D2 (δ:Dk): Nat:=δ.eu
def Dk.fV (δ:Dk): Dk:={ δ with bS:=if 0<δ.bS then δ.bS-1 else δ.bS }
def Dk.die (δ:Dk): Dk:={ δ with dead:=true }
theorem vS (hT:W told)(s:Sat h (bz p δ::S))(hf:δ.bS<4294967296):
  Call ⟨Tryz.prog,told⟩ 164 [.ptr p 0] h fun v h'=>(δ.bS=0∧v=.bool false∧Sat h' (bz p δ.die::S))∨(δ.bS≠0∧v=.bool true∧Sat h' (bz p δ.fV::S)):=by
 obtain ⟨pg,wt,nw,lg,mk,tn,tl,ops,s⟩:=cL.1 s
 refine Call.of_wp (hT.free _ rfl) Tryz.func164 rfl rfl (zK 9 rfl (zf rfl (xq _ _) (zl rfl (s.ld (k:=0) rfl dS rfl) ?_)))
 refine zd rfl (ag rfl rfl e_) ?_ ?_
 ·intro J
  refine zk 6 rfl (zf rfl (nc _ _) ?_)
  refine zS rfl (by exact s.iX (k:=0) rfl yf rfl (by decide) rfl rfl) (fun h s => ?_)
  refine zk 5 rfl (WP.ret ⟨aa,_,rfl,?_⟩)
  have J:δ.bS=0:=by simpa using J
  exact .inl ⟨J,rfl,cL.2 ⟨pg,wt,nw,lg,mk,tn,tl,ops,s⟩⟩
 ·intro J
  have J:δ.bS≠0:=by simpa using J
  refine zk 8 rfl (zf rfl (xq _ _) (zl rfl (s.ld (k:=0) rfl dS rfl) ?_))
  refine zd rfl (ag rfl rfl gA) ?_ ?_
  ·intro I
   have I:0<δ.bS:=by simpa using I
   refine zk 5 rfl (zf rfl (xq _ _) (zl rfl (s.ld (k:=0) rfl dS rfl) (zb rfl (by exact jj (aA (by omega) (by omega))) ?_)))
   refine zn rfl (zf rfl (xq _ _) ?_)
   refine zS rfl (by exact s.iX (k:=0) rfl kC rfl (by decide) rfl rfl) (fun h s => ?_)
   refine zk 5 rfl (zf rfl (xu _ _) (zl rfl (s.ld (k:=0) rfl dS rfl) (zb rfl (by rfl) ?_)))
   refine zn rfl (zf rfl (xu _ _) ?_)
   refine zS rfl (by exact s.iX (k:=0) rfl kC rfl (by decide) rfl rfl) (fun h s => ?_)
   exact zk 5 rfl (WP.ret ⟨aa,_,rfl,.inr ⟨J,rfl,cL.2 ⟨pg,wt,nw,lg,mk,tn,tl,_,by simp only [Dk.fV,ax I]; exact s⟩⟩⟩)
  ·intro I
   have I:¬ 0<δ.bS:=by simpa using I
   refine zk 7 rfl (zf rfl (xu _ _) (zl rfl (s.ld (k:=0) rfl dS rfl) (zb rfl (by rfl) ?_)))
   refine zn rfl (zf rfl (xu _ _) ?_)
   refine zS rfl (by exact s.iX (k:=0) rfl kC rfl (by decide) rfl rfl) (fun h s => ?_)
   exact zk 5 rfl (WP.ret ⟨aa,_,rfl,.inr ⟨J,rfl,cL.2 ⟨pg,wt,nw,lg,mk,tn,tl,_,by simp only [Dk.fV,ai I]; exact s⟩⟩⟩)
def Dk.at (δ:Dk)(n:Int): List Nat:=match lookL n δ.now with
 | some b=>b
 | none=>match δ.bh[n.toNat]? with
  | some (some b)=>b
  | _=>List.replicate 512 0
theorem Iv {v:V}{m:List (Option (List Nat))}{i:Nat}(s:Sat h (mD v m::S))(hi:i<m.length):
  ∃id u,v=.sl id 0 m.length (.exact m.length)∧(∀(P:Program) (t:TypeId),b6 P t=some false→loadV P h t (.ptr id i)=some u)∧Sat h (tP u m[i]::mD v m::S):=by
 obtain ⟨id,cs,rfl,s1⟩:=nJ.1 s
 obtain ⟨a,b,q1,q2,I⟩:=s1.at (k:=1) rfl
 have hl:=DZ I
 have hu:cs[i]?=some (cs[i]'(by omega)):=aM _
 have s2:Sat h (each tP cs m::pt id (.cells m.length cs false)::S):=s1.ae [1]
 have J:=s2.dup (aQ.each aQ.tP cs m)
 have s4:Sat h (tP (cs[i]'(by omega)) m[i]::each tP cs m::pt id (.cells m.length cs false)::S):=J.hU fun a b h=>D1 h hu (aM hi)
 refine ⟨id,cs[i]'(by omega),rfl,fun P t ht=>J3 ht (s1.row (k:=0) rfl) (by rw [eW,hu]),?_⟩
 have s5:Sat h (pt id (.cells m.length cs false)::each tP cs m::tP (cs[i]'(by omega)) m[i]::S):=s4.ae [2,1]
 exact (nJ.2 ⟨id,cs,rfl,s5⟩:Sat h (mD _ m::tP (cs[i]'(by omega)) m[i]::S)).ae [1]
theorem MC (hT:W told){n:Int}(s:Sat h (bz p δ::S))(hl:(δ.at n).length=512): Call ⟨Tryz.prog,told⟩ 124 [.ptr p 0,.int .i64 n] h fun v h' =>
  (δ.dead=true∧v=.aX [.bn,.int .i64 9]∧Sat h' (bz p δ::S)) ∨
  (δ.dead=false∧¬(0≤n∧n<δ.bh.length)∧v=.aX [.bn,.int .i64 1]∧Sat h' (bz p δ::S)) ∨
  (δ.dead=false∧0≤n∧n<δ.bh.length∧∃b,v=.aX [b,.int .i64 0]∧Sat h' (aU b (δ.at n)::bz p δ::S)):=by
 have s0:=s
 obtain ⟨pg,wt,nw,lg,mk,tn,tl,ops,s⟩:=cL.1 s
 refine Call.of_wp (hT.free _ rfl) Tryz.func124 rfl rfl (zK 6 rfl (WP.block (zK 4 rfl (zf rfl (nc _ _) (zl rfl (s.ld (k:=0) rfl nU rfl) (zk 2 rfl ?_))))))
 refine WP.split rfl ?_ ?_
 ·intro hd
  exact zK 5 rfl (WP.ret ⟨aa,_,rfl,.inl ⟨hd,rfl,s0⟩⟩)
 ·intro hd
  refine zK 4 rfl (zc rfl (Kq hT s0) ?_)
  rintro v h' ⟨rfl,(⟨J,mj,rfl⟩ | ⟨hn,rfl⟩)⟩
  ·skip
   refine zo rfl (eY rfl rfl) (za rfl (zv (zj rfl (WP.skip (zg rfl (zk 2 rfl (zf rfl (GB _ _) (zl rfl (by exact s.ld (k:=0) rfl mF rfl) ?_))))))))
   refine zm rfl ?_
   have s1:Sat h' (jl (fun v b=>.cy v b) nw δ.now::pt p (.cells 12 (Kp δ.room pg wt nw lg δ.eu mk δ.bS ops δ.dead tn tl) false)::mD pg δ.bh::xF wt δ.waiting::aU lg δ.log::Ae mk δ.mark::Aw tn δ.BR::Ae tl δ.tail::S):=s.ae [3]
   rcases ng (n:=n) (fun _ _=>aQ.cy _ _) s1 oW bR oz with ⟨g1,g2,_⟩ | ⟨u,b,g1,g2,_,s2⟩
   ·refine az.op rfl rfl rfl (ji rfl rfl g2) ?_
    refine zk 10 rfl (zo rfl (eY rfl rfl) (zk 5 rfl (zf rfl (BH _ _) (zl rfl (s.ld (k:=0) rfl Ig rfl) (zm rfl ?_)))))
    have hi:n.toNat<δ.bh.length:=by omega
    obtain ⟨id,u,rfl,g3,s3⟩:=Iv (s.ae [1]) hi
    refine zo rfl (cn (r:=.ptr id n.toNat) rfl rfl (by rw [Tu,show (decide (0≤n)&&decide (n<((δ.bh.length:Nat):Int)))=true by simp; omega,af]; simp)) ?_
    refine zl rfl (g3 _ _ bK) (zk 6 rfl ?_)
    have I:δ.at n=match δ.bh[n.toNat] with | some b=>b | none=>List.replicate 512 0:=by
     simp only [Dk.at,g1,aM hi]
     cases δ.bh[n.toNat] <;> rfl
    cases hp:δ.bh[n.toNat] with
    | none =>
     rw [hp] at s3 I
     have I:δ.at n=List.replicate 512 0:=I
     obtain ⟨rfl,_⟩:=ri.1 s3
     refine zt rfl ((by exact ag rfl rfl (by simp only [binV,eqV,aJ]; rfl))) (rfl) ?_
     refine zk 4 rfl (az.any rfl rfl rfl (OpR.Ao rfl s0 rfl rfl rfl rfl (by decide)) ?_)
     intro v h s
     exact zk 3 rfl (WP.ret ⟨aa,_,rfl,.inr (.inr ⟨hd,J,mj,v,rfl,by rw [I]; exact s⟩)⟩)
    | some b =>
     rw [hp] at s3 I
     have I:δ.at n=b:=I
     have s4:Sat h' (aq.an (.pu (u≠.bn)) (.cy u b)::mD _ δ.bh::_):=s3
     have hu:u≠.bn:=by
      obtain ⟨a,b,q1,q2,q3⟩:=s4.at (k:=0) rfl
      exact q3.1
     have s5:Sat h' (.cy u b::bz p δ::S):=by
      have s6:=s4.hU (B:=.cy u b) fun a b h=>h.2
      exact (cL.2 ⟨_,wt,nw,lg,mk,tn,tl,ops,s6.ae [2,1,1,1,1,1,1,1]⟩:Sat h' (bz p δ::.cy u b::S)).ae [1]
     have Cp:∃a b c d,u=.sl a b c d:=by
      rcases (s5.aG (k:=0) rfl (c8 _ _)).2 with ⟨_,e⟩ | ⟨a,b,c,_,_,_,e,_⟩
      ·rw [I,e] at hl; simp at hl
      ·exact ⟨_,_,_,_,e⟩
     obtain ⟨a,b',c,d,rfl⟩:=Cp
     refine zh rfl ((by exact ag rfl rfl (by simp only [binV,eqV,aJ]; rfl))) (rfl) ?_
     refine zk 6 rfl (zc rfl (l8 hT s5 (c8 _ _) (by rw [←I,hl]; decide)) ?_)
     intro v h s
     exact zk 3 rfl (WP.ret ⟨aa,_,rfl,.inr (.inr ⟨hd,J,mj,v,rfl,by rw [I]; exact s.del 1⟩)⟩)
   ·skip
    refine zo rfl (ji rfl rfl g2) (zk 10 rfl (zo rfl (eY rfl rfl) (zk 7 rfl ?_)))
    have I:δ.at n=b:=by simp only [Dk.at,g1]
    have Cp:∃a b c d,u=.sl a b c d:=by
     rcases (s2.aG (k:=0) rfl (c8 _ _)).2 with ⟨_,e⟩ | ⟨a,b,c,_,_,_,e,_⟩
     ·rw [I,e] at hl; simp at hl
     ·exact ⟨_,_,_,_,e⟩
    obtain ⟨a,b',c,d,rfl⟩:=Cp
    refine zh rfl ((by exact ag rfl rfl (by simp only [binV,eqV,aJ]; rfl))) (rfl) ?_
    refine zk 6 rfl (zc rfl (l8 hT s2 (c8 _ _) (by rw [←I,hl]; decide)) ?_)
    intro v h s
    refine zk 3 rfl (WP.ret ⟨aa,_,rfl,?_⟩)
    have s:=cL.2 ⟨pg,wt,nw,lg,mk,tn,tl,ops,s.ae [3,3,3,2,2,2,2,2]⟩
    exact .inr (.inr ⟨hd,J,mj,v,rfl,by rw [I]; exact (s.del 2).ae [1,0]⟩)
  ·skip
   exact zo rfl (eY rfl rfl) (zk 8 rfl (WP.ret ⟨aa,_,rfl,.inr (.inl ⟨hd,hn,rfl,s0⟩)⟩))
theorem FD (I:W told)(s:Sat h (bz p δ::S)): Call ⟨Tryz.prog,told⟩ 135 [.ptr p 0] h fun v h'=>v=.int .i64 (δ.D2:Int)∧h'=h:=by
 obtain ⟨pg,wt,J,lg,mk,tn,tl,ops,s⟩:=cL.1 s
 exact Call.of_wp (I.free _ rfl) Tryz.func135 rfl rfl (zK 8 rfl (zf rfl (GC _ _) (zl rfl (s.ld (k:=0) rfl dS rfl) (zk 2 rfl (WP.ret ⟨aa,_,rfl,rfl,rfl⟩)))))
theorem D3 (I:W told)(s:Sat h (bz p δ::S)): Call ⟨Tryz.prog,told⟩ 41 [.ptr p 0] h fun v h'=>v=.bool δ.dead∧h'=h:=by
 obtain ⟨pg,wt,J,lg,mk,tn,tl,ops,s⟩:=cL.1 s
 exact Call.of_wp (I.free _ rfl) Tryz.func41 rfl rfl (zK 8 rfl (zf rfl (nc _ _) (zl rfl (s.ld (k:=0) rfl nU rfl) (zk 2 rfl (WP.ret ⟨aa,_,rfl,rfl,rfl⟩)))))
theorem Kr (J:W told)(s:Sat h (bz p δ::S))(hf:δ.bS<4294967296): Call ⟨Tryz.prog,told⟩ 130 [.ptr p 0] h fun v h' =>
  (δ.dead=true∧v=.int .i64 9∧Sat h' (bz p δ::S))∨(δ.dead=false∧δ.bS=0∧v=.int .i64 9∧Sat h' (bz p δ.die::S)) ∨
  (δ.dead=false∧δ.bS≠0∧v=.int .i64 0∧Sat h' (bz p { δ.fV with eu:=δ.log.length }::S)):=by
 have s0:=s
 obtain ⟨pg,wt,nw,lg,mk,tn,tl,ops,s⟩:=cL.1 s
 refine Call.of_wp (J.free _ rfl) Tryz.func130 rfl rfl (zK 9 rfl (zf rfl (nc _ _) ?_))
 refine zd rfl (aS rfl (s.ld (k:=0) rfl nU rfl)) ?_ ?_
 ·intro hd
  exact zk 11 rfl (WP.ret ⟨aa,_,rfl,.inl ⟨hd,rfl,s0⟩⟩)
 ·intro hd
  refine zk 2 rfl (zc rfl (vS J s0 hf) ?_)
  rintro v h (⟨I,rfl,s⟩ | ⟨I,rfl,s⟩)
  ·skip
   exact zo rfl (eY rfl rfl) (zk 7 rfl (WP.ret ⟨aa,_,rfl,.inr (.inl ⟨hd,I,rfl,s⟩)⟩))
  ·skip
   obtain ⟨pg,wt,nw,lg,mk,tn,tl,ops,s⟩:=cL.1 s
   dsimp only [Dk.fV] at s
   refine zo rfl (eY rfl rfl) (zk 9 rfl (zf rfl (tH _ _) (zl rfl (s.ld (k:=0) rfl bK rfl) (zo rfl (aO rfl rfl rfl (aW aJ (s.aG (k:=4) rfl (bj _ _)))) (zn rfl (zf rfl (GC _ _) ?_))))))
   refine zS rfl (by exact s.iX (k:=0) rfl kC rfl (by decide) rfl rfl) (fun h s => ?_)
   exact zk 5 rfl (WP.ret ⟨aa,_,rfl,.inr (.inr ⟨hd,I,rfl,cL.2 ⟨pg,wt,nw,lg,mk,tn,tl,ops,s⟩⟩)⟩)
theorem Iw (hT:W told){x:V}{b:List Nat}(s:Sat h (bz p δ::X::S))(hX:cT X (cY x b))(hb:b.length<1073741824)(hf:δ.bS<4294967296)(hl:δ.log.length≤4294967296)(hr:δ.room≤4294967296):
  Call ⟨Tryz.prog,told⟩ 117 [.ptr p 0,x] h fun v h' =>
  (δ.dead=true∧v=.int .i64 9∧Sat h' (bz p δ::X::S))∨(δ.dead=false∧δ.room<δ.log.length+b.length∧v=.int .i64 7∧Sat h' (bz p δ::X::S)) ∨
  (δ.dead=false∧δ.log.length+b.length≤δ.room∧δ.bS=0∧v=.int .i64 9∧Sat h' (bz p { δ.die with tail:=b }::X::S)) ∨
  (δ.dead=false∧δ.log.length+b.length≤δ.room∧δ.bS≠0∧v=.int .i64 0∧Sat h' (bz p { δ.fV with log:=δ.log++b }::X::S)):=by
 have s0:=s
 obtain ⟨pg,wt,J,lg,mk,tn,tl,ops,s⟩:=cL.1 s
 refine Call.of_wp (hT.free _ rfl) Tryz.func117 rfl rfl (zK 5 rfl (WP.block (zK 4 rfl (zf rfl (nc _ _) ?_))))
 refine zd rfl (aS rfl (s.ld (k:=0) rfl nU rfl)) ?_ ?_
 ·intro hd
  exact zk 7 rfl (WP.ret ⟨aa,_,rfl,.inl ⟨hd,rfl,s0⟩⟩)
 ·intro hd
  refine zk 4 rfl (WP.drawn [ak,ak,ak,ak,ak,ak,ak,ak,ak,ak,ak,ak,ak,ak] rfl (by kernel_rfl) (by kernel_rfl) ?_)
  refine zM rfl (zO rfl (aO rfl rfl rfl (aW aJ (s.aG (k:=8) rfl hX))) (zM rfl (zN rfl (zF rfl (Ps _ _) (zL rfl (s.ld (k:=0) rfl dS rfl) (zM rfl (zN rfl (zF rfl (tH _ _) (zL rfl (s.ld (k:=0) rfl bK rfl) (zO rfl (aO rfl rfl rfl (aW aJ (s.aG (k:=4) rfl (bj _ _)))) (zO rfl (ag rfl rfl (by exact jj (aA (by omega) (by omega)))) ?_)))))))))))
  refine aB.RS rfl rfl rfl rfl (ag rfl rfl gA) ?_ ?_
  ·intro I
   have I:δ.room<δ.log.length+b.length:=by simp at I; omega
   refine zA rfl ?_
   refine aB.nil ⟨⟨aa,aa,aa,aa,aa,aa,aa,aa,aa,aa,aa,aa,aa,aa,aa⟩,?_⟩
   exact zK 5 rfl (WP.ret ⟨aa,_,rfl,.inr (.inl ⟨hd,I,rfl,s0⟩)⟩)
  ·intro I
   have I:δ.log.length+b.length≤δ.room:=by simp at I; omega
   refine zA rfl ?_
   refine aB.nil ⟨⟨aa,aa,aa,aa,aa,aa,aa,aa,aa,aa,aa,aa,aa,aa,aa⟩,?_⟩
   refine zK 4 rfl (zc rfl (vS hT s0 hf) ?_)
   rintro v h (⟨h0,rfl,s⟩ | ⟨h0,rfl,s⟩)
   ·skip
    refine zo rfl (eY rfl rfl) (zk 7 rfl (zc rfl (l8 hT (s.ae [1]) hX hb) ?_))
    intro v h s
    have s:=(s.gS).ae [2,0,0]
    obtain ⟨pg,wt,J,lg,mk,tn,tl,ops,s⟩:=cL.1 s
    have hv:=(s.aG (k:=8) rfl (c8 _ _)).cells
    refine zn rfl (zf rfl (Ms _ _) (zS rfl (s.iX (k:=0) rfl kI rfl (by decide) hv.1 hv.2) ?_))
    intro h s
    exact zk 5 rfl (WP.ret ⟨aa,_,rfl,.inr (.inr (.inl ⟨hd,I,h0,rfl,cL.2 ⟨pg,wt,J,lg,mk,tn,v,ops,s.del 7⟩⟩))⟩)
   ·skip
    obtain ⟨pg,wt,J,lg,mk,tn,tl,ops,s⟩:=cL.1 s
    dsimp only [Dk.fV] at s
    refine zo rfl (eY rfl rfl) (za rfl (zv (zj rfl (WP.skip (zg rfl (zk 3 rfl (zf rfl (tH _ _) (zl rfl (by exact s.ld (k:=0) rfl bK rfl) ?_))))))))
    refine zm rfl (az.any rfl rfl rfl (OpR.pI rfl (s.ae [4,7]) hX rfl rfl rfl rfl (by show δ.log.length+_≤_; omega)) ?_)
    intro v h s
    have hv:=(s.buf (k:=0) rfl).view.cells
    refine zn rfl (zf rfl (tH _ _) (zS rfl (s.iX (k:=2) rfl kI rfl (by decide) hv.1 hv.2) ?_))
    intro h s
    exact zk 5 rfl (WP.ret ⟨aa,_,rfl,.inr (.inr (.inr ⟨hd,I,h0,rfl,cL.2 ⟨pg,wt,J,v,mk,tn,tl,ops,s.ae [2,2,2,2,0,1,1,1]⟩⟩))⟩)
end
end Go.Proofs.YtefepnnfphdkpaaGreat.Am
